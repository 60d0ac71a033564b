/- Where the least length is at most half that of the sequence, the register is the only one: the walk of the law. -/
import Derived.Test.YtdbhhfhfjlpepaaBmK
namespace Go.Proofs.Ytdbhhfhfjlpepaa
open Go.RowKit
attribute [local go_sem ↓] Go.wp_at_zero Go.wp_at_succ

set_option maxHeartbeats 2000000 in
theorem lawOnly (P M : Int) (A : Option Addr) (c : Nat) (mod : List Int) (L : Option Addr) (lc : Nat) (l : List Int) (O : Option Addr) (oc : Nat) (o : List Int) (w : World) (hr : Rd w A mod) (hnil : A = none → c = 0) (hrl : Rd w L l) (hro : Rd w O o) :
    Calls Try.prog 9 #[.agg #[.int .i64 P, .int .i64 M, .slice A mod.length c], .slice L l.length lc, .slice O o.length oc] w fun e w' => e = .returned (.bool true) ∧ Below w.heap.size w w' := by
  have hu := Try.underlying24
  have HR := Lib.hid hr
  have HNIL := Lib.hid hnil
  have HRL := Lib.hid hrl
  have hln := hrl.1
  have HRO := Lib.hid hro
  have hon := hro.1
  clear hr hnil hrl hro
  obtain ⟨nl, HNL⟩ : ∃ n, Hid (n = l.length) := ⟨_, rfl⟩
  rw [← HNL.out] at hln ⊢
  obtain ⟨no, HNO⟩ : ∃ n, Hid (n = o.length) := ⟨_, rfl⟩
  rw [← HNO.out] at hon ⊢
  obtain ⟨n, HN⟩ : ∃ n, Hid (n = mod.length) := ⟨_, rfl⟩
  rw [← HN.out]
  have HMADE : Hid (∀ W1 : World, Rd W1 A mod → Calls Try.prog 14 #[.agg #[.int .i64 P, .int .i64 M, .slice A n c]] W1 fun e w' => MadeSRet P M mod W1 e w') := by
    intro W1 h1; rw [HN.out]; exact madeS_calls P M A c mod W1 h1 HNIL.out
  go_enter Try.func9, Try.ntmps9
  go_wp2_with fail
  go_at_call 13
  refine (aliveS_calls _).mono ?_
  rintro e w1 ⟨rfl, hb1⟩
  obtain ⟨k0, k1, k2, _⟩ := box3 hb1
  have kb := below_box hb1
  have HR1 := Lib.hid ((HR.out.alloc _).below hb1 (Nat.le_refl _))
  clear hb1
  go_wp2_with fail
  go_at_call 14
  refine (HMADE.out _ HR1.out).mono ?_
  rintro e w2 ⟨hret, hb2⟩
  have HR3 := Lib.hid (HR1.out.below hb2 (Nat.le_refl _))
  (have hk := keepS k0 k1 k2 hb2; replace kb := below_step kb hb2 kb.size; clear k0 k1 k2 hb2; obtain ⟨k0, k1, k2, _⟩ := hk)
  have HB := Lib.hid kb
  have HL2 := Lib.hid (HRL.out.below kb (Nat.le_refl _))
  have HO2 := Lib.hid (HRO.out.below kb (Nat.le_refl _))
  clear kb
  rcases hret with ⟨rfl, hno⟩ | ⟨g, S, rfl, rfl, rfl, rfl, hf⟩
  · clear hno
    go_wp2
    go_ret
    exact ⟨rfl, HB.out⟩
  · have HF := Lib.hid hf
    clear hf
    have HK := Lib.hid (fun (W : World) (h : Below w2.heap.size w2 W) => keepS k0 k1 k2 h)
    go_wp2_with fail
    obtain ⟨w3, hw3⟩ : ∃ w3, w3 = w2.alloc (.cells #[.slice L nl lc, .slice O no oc] 22) := ⟨_, rfl⟩
    have z0 : w3.cell? ⟨w2.heap.size, 0, none⟩ = some (.slice L nl lc) := by rw [hw3]; exact (World.cell?_alloc_new (w := w2) #[.slice L nl lc, .slice O no oc] 22 0).trans rfl
    have z1 : w3.cell? ⟨w2.heap.size, 1, none⟩ = some (.slice O no oc) := by rw [hw3]; exact (World.cell?_alloc_new (w := w2) #[.slice L nl lc, .slice O no oc] 22 1).trans rfl
    have HB3 : Hid (Below w2.heap.size w2 w3) := by rw [hw3]; exact (Below.refl _ _).alloc (Nat.le_refl _) _
    rw [← hw3]
    clear hw3 k0 k1 k2
    go_at_call 15
    refine (shortTwo_calls w2.heap.size L O nl lc no oc w3 z0 z1).mono ?_
    rintro e w4 ⟨b, rfl, hbi, hb4⟩
    replace hb4 := below_step HB3.out hb4 HB3.out.size
    clear z0 z1
    obtain ⟨k0, k1, k2, _⟩ := HK.out _ hb4
    have HB4 := Lib.hid hb4
    clear hb4
    cases b
    · go_wp2
      go_ret
      exact ⟨by first | rfl | (simp; done) | (simp; omega), below_step HB.out HB4.out HB.out.size⟩
    · have hsh := hbi.1 rfl
      clear hbi
      obtain ⟨⟨c0, b0⟩, HB0⟩ : ∃ b : List Int × Nat, Hid (b = ((S.bm o).c, (S.bm o).l)) := ⟨_, rfl⟩
      have hc0 : (S.bm o).c = c0 := (congrArg Prod.fst HB0.out).symm
      have hb0 : (S.bm o).l = b0 := (congrArg Prod.snd HB0.out).symm
      have hln0 := S.bm_len HF.out.inv o
      rw [hc0, hb0, ← HNO.out] at hln0
      obtain ⟨nc, HNC⟩ : ∃ nc, Hid (nc = c0.length) := ⟨_, rfl⟩
      have CSH : Hid (∀ W, Below w2.heap.size w2 W → Calls Try.prog 21 #[.pointer (some ⟨g, 0, none⟩), .slice O no oc] W fun e w' => ∃ A c, e = .returned (.tuple #[.slice A nc c, .int .i64 b0]) ∧ Rd w' A c0 ∧ Below W.heap.size W w') := by
        intro W h
        have := shortest_calls g S O oc o W (HF.out.below h) (HO2.out.below h (Nat.le_refl _)) (by rw [← HNO.out]; omega)
        rw [hc0, hb0, ← HNC.out, ← HNO.out] at this
        exact this
      obtain ⟨p, HP⟩ : ∃ p : Prop, Hid (p ↔ S.IsGen l b0 o) := ⟨_, Iff.rfl⟩
      have HONLY : Hid (p → 2 * b0 ≤ no → S.canL l = c0) := fun hp h2 => by
        have := S.bm_only HF.out.inv o l (by rw [hb0, ← HNO.out]; exact h2) (by rw [hb0]; exact HP.out.1 hp)
        rwa [hc0] at this
      have CH2 : Hid (∀ W, Below w2.heap.size w2 W → Calls Try.prog 20 #[.agg #[.int .i64 S.P, .int .i64 S.M, .slice A n c], .slice L nl lc, .int .i64 b0, .slice O no oc] W fun e w' => BoolIs p W e w') := by
        intro W h
        rw [propext HP.out, HNL.out, HNO.out]
        exact rHolds S A c L lc l b0 O oc o W (HR3.out.below h (Nat.le_refl _)) (HL2.out.below h (Nat.le_refl _)) (HO2.out.below h (Nat.le_refl _)) (by rw [← HNL.out]; omega) (by rw [← HNO.out]; omega) n HN.out
      have CC : Hid (∀ W, Below w2.heap.size w2 W → S.canL l = c0 → Calls Try.prog 23 #[.agg #[.int .i64 S.P, .int .i64 S.M, .slice A n c], .slice L nl lc] W fun e w' => ∃ A7 c7, e = .returned (.slice A7 nc c7) ∧ Rd w' A7 c0 ∧ Below W.heap.size W w') := by
        intro W h he
        have := rCanon S A n c L lc l W (HL2.out.below h (Nat.le_refl _)) (by rw [← HNL.out]; omega)
        rw [← HNL.out, he] at this
        refine this.mono ?_
        rintro e w' ⟨A7, c7, h1, h2, _, _, _, h3⟩
        rw [← HNC.out] at h1
        exact ⟨A7, c7, h1, h2, h3⟩
      have CS : Hid (∀ W A7 c7 A8 c8, Rd W A7 c0 → Rd W A8 c0 → Calls Try.prog 18 #[.slice A7 nc c7, .slice A8 nc c8] W fun e w' => e = .returned (.bool true) ∧ Below W.heap.size W w') := by
        intro W A7 c7 A8 c8 h1 h2
        rw [HNC.out]
        exact lawsame_calls A7 c7 c0 A8 c8 c0 W h1 h2 rfl (by omega)
      obtain ⟨P, HPP⟩ : ∃ P, Hid (P = S.P) := ⟨_, rfl⟩
      obtain ⟨M, HMM⟩ : ∃ M, Hid (M = S.M) := ⟨_, rfl⟩
      rw [← HPP.out, ← HMM.out] at CC CH2 HK
      rw [← HPP.out] at k0
      rw [← HMM.out] at k1
      rw [← HPP.out, ← HMM.out]
      clear HP HF HB0 hc0 hb0 hln hon
      go_wp2_with fail
      go_at_call 21
      refine (CSH.out _ HB4.out).mono ?_
      rintro e w5 ⟨A5, c5, rfl, hr5, hb5⟩
      have HB5 := Lib.hid (below_step HB4.out hb5 HB4.out.size)
      have HR5 := Lib.hid hr5
      clear hb5 hr5 k0 k1 k2
      obtain ⟨k0, k1, k2, _⟩ := HK.out _ HB5.out
      have hb00 : ¬ (b0 : Int) < 0 := by omega
      have hb01 : (0 : Int) ≤ (b0 : Int) := by omega
      by_cases h2 : 2 * b0 ≤ no
      · have h2i : ¬ (no : Int) < 2 * (b0 : Int) := by omega
        go_wp2_with fail
        go_at_call 20
        refine (CH2.out _ HB5.out).mono ?_
        rintro e w6 ⟨b, rfl, hbi, hb6⟩
        have HB6 := Lib.hid (below_step HB5.out hb6 HB5.out.size)
        have HR6 := Lib.hid (HR5.out.below hb6 (Nat.le_refl _))
        clear hb6 k0 k1 k2
        obtain ⟨k0, k1, k2, _⟩ := HK.out _ HB6.out
        cases b
        · clear hbi
          go_wp2
          go_ret
          exact ⟨by first | rfl | (simp; done) | (simp; omega), below_step HB.out HB6.out HB.out.size⟩
        · have HE := Lib.hid (HONLY.out (hbi.1 rfl) h2)
          clear hbi
          go_wp2_with fail
          go_at_call 23
          refine (CC.out _ HB6.out HE.out).mono ?_
          rintro e w7 ⟨A7, c7, rfl, hr7, hb7⟩
          have HB7 := Lib.hid (below_step HB6.out hb7 HB6.out.size)
          have HR67 := Lib.hid (HR6.out.below hb7 (Nat.le_refl _))
          have HR7 := Lib.hid hr7
          clear hb7 hr7
          go_wp2_with fail
          go_at_call 18
          refine (CS.out _ A5 c5 A7 c7 HR67.out HR7.out).mono ?_
          rintro e w8 ⟨rfl, hb8⟩
          have HB8 := Lib.hid (below_step HB7.out hb8 HB7.out.size)
          clear hb8
          go_wp2
          go_ret
          exact ⟨by first | rfl | (simp; done) | (simp; omega), below_step HB.out HB8.out HB.out.size⟩
      · have h2i : (no : Int) < 2 * (b0 : Int) := by omega
        go_wp2
        go_ret
        exact ⟨by first | rfl | (simp; done) | (simp; omega), below_step HB.out HB5.out HB.out.size⟩

end Go.Proofs.Ytdbhhfhfjlpepaa
