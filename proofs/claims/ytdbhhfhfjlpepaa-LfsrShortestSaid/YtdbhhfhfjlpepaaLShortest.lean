/- The register that is returned generates the sequence, and its length is the complexity: the walk of the law. -/
import Derived.Test.YtdbhhfhfjlpepaaBmK
import Derived.Test.YtdbhhfhfjlpepaaCpx
namespace Go.Proofs.Ytdbhhfhfjlpepaa
open Go.RowKit
attribute [local go_sem ↓] Go.wp_at_zero Go.wp_at_succ

set_option maxHeartbeats 2000000 in
theorem lawShortest (P M : Int) (A : Option Addr) (c : Nat) (mod : List Int) (L : Option Addr) (lc : Nat) (l : List Int) (w : World) (hr : Rd w A mod) (hnil : A = none → c = 0) (hrl : Rd w L l) :
    Calls Try.prog 5 #[.agg #[.int .i64 P, .int .i64 M, .slice A mod.length c], .slice L l.length lc] w fun e w' => e = .returned (.bool true) ∧ Below w.heap.size w w' := by
  have hu := Try.underlying24
  have HR := Lib.hid hr
  have HNIL := Lib.hid hnil
  have HRL := Lib.hid hrl
  have hln := hrl.1
  clear hr hnil hrl
  obtain ⟨nl, HNL⟩ : ∃ n, Hid (n = l.length) := ⟨_, rfl⟩
  rw [← HNL.out] at hln ⊢
  obtain ⟨n, HN⟩ : ∃ n, Hid (n = mod.length) := ⟨_, rfl⟩
  rw [← HN.out]
  have HMADE : Hid (∀ W1 : World, Rd W1 A mod → Calls Try.prog 14 #[.agg #[.int .i64 P, .int .i64 M, .slice A n c]] W1 fun e w' => MadeSRet P M mod W1 e w') := by
    intro W1 h1; rw [HN.out]; exact madeS_calls P M A c mod W1 h1 HNIL.out
  go_enter Try.func5, Try.ntmps5
  go_wp2_with fail
  go_at_call 13
  refine (aliveS_calls _).mono ?_
  rintro e w1 ⟨rfl, hb1⟩
  obtain ⟨k0, k1, k2, _⟩ := box3 hb1
  have kb := below_box hb1
  have HR1 := Lib.hid ((HR.out.alloc _).below hb1 (Nat.le_refl _))
  clear hb1
  go_wp2_with fail
  go_at_call 14
  refine (HMADE.out _ HR1.out).mono ?_
  rintro e w2 ⟨hret, hb2⟩
  have HR3 := Lib.hid (HR1.out.below hb2 (Nat.le_refl _))
  (have hk := keepS k0 k1 k2 hb2; replace kb := below_step kb hb2 kb.size; clear k0 k1 k2 hb2; obtain ⟨k0, k1, k2, _⟩ := hk)
  have HB := Lib.hid kb
  have HL2 := Lib.hid (HRL.out.below kb (Nat.le_refl _))
  clear kb
  rcases hret with ⟨rfl, hno⟩ | ⟨g, S, rfl, rfl, rfl, rfl, hf⟩
  · clear hno
    go_wp2
    go_ret
    exact ⟨rfl, HB.out⟩
  · have HF := Lib.hid hf
    clear hf
    have HK := Lib.hid (fun (W : World) (h : Below w2.heap.size w2 W) => keepS k0 k1 k2 h)
    go_wp2_with fail
    obtain ⟨w3, hw3⟩ : ∃ w3, w3 = w2.alloc (.cells #[.slice L nl lc] 22) := ⟨_, rfl⟩
    have z0 : w3.cell? ⟨w2.heap.size, 0, none⟩ = some (.slice L nl lc) := by rw [hw3]; exact (World.cell?_alloc_new (w := w2) #[.slice L nl lc] 22 0).trans rfl
    have HB3 : Hid (Below w2.heap.size w2 w3) := by rw [hw3]; exact (Below.refl _ _).alloc (Nat.le_refl _) _
    rw [← hw3]
    clear hw3 k0 k1 k2
    go_at_call 15
    refine (shortOne_calls w2.heap.size L nl lc w3 z0).mono ?_
    rintro e w4 ⟨b, rfl, hbi, hb4⟩
    replace hb4 := below_step HB3.out hb4 HB3.out.size
    clear z0
    obtain ⟨k0, k1, k2, _⟩ := HK.out _ hb4
    have HB4 := Lib.hid hb4
    clear hb4
    cases b
    · go_wp2
      go_ret
      exact ⟨by first | rfl | (simp; done) | (simp; omega), below_step HB.out HB4.out HB.out.size⟩
    · have hsh := hbi.1 rfl
      clear hbi
      obtain ⟨⟨c0, b0⟩, HB0⟩ : ∃ b : List Int × Nat, Hid (b = ((S.bm l).c, (S.bm l).l)) := ⟨_, rfl⟩
      have hc0 : (S.bm l).c = c0 := (congrArg Prod.fst HB0.out).symm
      have hb0 : (S.bm l).l = b0 := (congrArg Prod.snd HB0.out).symm
      have hln0 := S.bm_len HF.out.inv l
      rw [hc0, hb0, ← HNL.out] at hln0
      obtain ⟨nc, HNC⟩ : ∃ nc, Hid (nc = c0.length) := ⟨_, rfl⟩
      have CSH : Hid (∀ W, Below w2.heap.size w2 W → Calls Try.prog 21 #[.pointer (some ⟨g, 0, none⟩), .slice L nl lc] W fun e w' => ∃ A c, e = .returned (.tuple #[.slice A nc c, .int .i64 b0]) ∧ Rd w' A c0 ∧ Below W.heap.size W w') := by
        intro W h
        have := shortest_calls g S L lc l W (HF.out.below h) (HL2.out.below h (Nat.le_refl _)) (by rw [← HNL.out]; omega)
        rw [hc0, hb0, ← HNC.out, ← HNL.out] at this
        exact this
      have CX : Hid (∀ W, Below w2.heap.size w2 W → Calls Try.prog 22 #[.agg #[.int .i64 S.P, .int .i64 S.M, .slice A n c], .slice L nl lc] W fun e w' => e = .returned (.int .i64 b0) ∧ Below W.heap.size W w') := by
        intro W h
        have := complexity_calls S HF.out.inv A c n L lc l W (HR3.out.below h (Nat.le_refl _)) HN.out (HL2.out.below h (Nat.le_refl _)) (by rw [← HNL.out]; omega)
        rw [hb0, ← HNL.out] at this
        exact this
      have CH : Hid (∀ W A7 c7, Below w2.heap.size w2 W → Rd W A7 c0 → Calls Try.prog 20 #[.agg #[.int .i64 S.P, .int .i64 S.M, .slice A n c], .slice A7 nc c7, .int .i64 b0, .slice L nl lc] W fun e w' => e = .returned (.bool true) ∧ Below W.heap.size W w') := by
        intro W A7 c7 h h1
        have := rHolds S A c A7 c7 c0 b0 L lc l W (HR3.out.below h (Nat.le_refl _)) h1 (HL2.out.below h (Nat.le_refl _)) (by omega) (by rw [← HNL.out]; omega) n HN.out
        rw [← HNC.out, ← HNL.out] at this
        refine this.mono ?_
        rintro e w' ⟨b, rfl, hb, hbl⟩
        have hg := S.bm_gen HF.out.inv l
        rw [hc0, hb0] at hg
        rw [hb.2 hg]
        exact ⟨rfl, hbl⟩
      have CC : Hid (∀ W A7 c7, Rd W A7 c0 → Calls Try.prog 23 #[.agg #[.int .i64 S.P, .int .i64 S.M, .slice A n c], .slice A7 nc c7] W fun e w' => ∃ A8 c8, e = .returned (.slice A8 nc c8) ∧ Rd w' A8 c0 ∧ Below W.heap.size W w') := by
        intro W A7 c7 h1
        have he : S.canL c0 = c0 := by have := S.can_canL (S.bm_can HF.out.inv l); rwa [hc0] at this
        have := rCanon S A n c A7 c7 c0 W h1 (by omega)
        rw [he, ← HNC.out] at this
        refine this.mono ?_
        rintro e w' ⟨A8, c8, h1, h2, _, _, _, h3⟩
        rw [← HNC.out] at h1
        exact ⟨A8, c8, h1, h2, h3⟩
      have CS : Hid (∀ W A7 c7 A8 c8, Rd W A7 c0 → Rd W A8 c0 → Calls Try.prog 18 #[.slice A7 nc c7, .slice A8 nc c8] W fun e w' => e = .returned (.bool true) ∧ Below W.heap.size W w') := by
        intro W A7 c7 A8 c8 h1 h2
        rw [HNC.out]
        exact lawsame_calls A7 c7 c0 A8 c8 c0 W h1 h2 rfl (by omega)
      obtain ⟨P, HPP⟩ : ∃ P, Hid (P = S.P) := ⟨_, rfl⟩
      obtain ⟨M, HMM⟩ : ∃ M, Hid (M = S.M) := ⟨_, rfl⟩
      rw [← HPP.out, ← HMM.out] at CX CH CC HK
      rw [← HPP.out] at k0
      rw [← HMM.out] at k1
      rw [← HPP.out, ← HMM.out]
      clear HF HB0 hc0 hb0 hln
      go_wp2_with fail
      go_at_call 21
      refine (CSH.out _ HB4.out).mono ?_
      rintro e w5 ⟨A5, c5, rfl, hr5, hb5⟩
      have HB5 := Lib.hid (below_step HB4.out hb5 HB4.out.size)
      have HR5 := Lib.hid hr5
      clear hr5
      clear hb5 k0 k1 k2
      obtain ⟨k0, k1, k2, _⟩ := HK.out _ HB5.out
      go_wp2_with fail
      go_at_call 22
      refine (CX.out _ HB5.out).mono ?_
      rintro e w6 ⟨rfl, hb6⟩
      have HB6 := Lib.hid (below_step HB5.out hb6 HB5.out.size)
      have HR6 := Lib.hid (HR5.out.below hb6 (Nat.le_refl _))
      clear hb6 k0 k1 k2
      obtain ⟨k0, k1, k2, _⟩ := HK.out _ HB6.out
      go_wp2_with fail
      go_at_call 20
      refine (CH.out _ A5 c5 HB6.out HR6.out).mono ?_
      rintro e w7 ⟨rfl, hb7⟩
      have HB7 := Lib.hid (below_step HB6.out hb7 HB6.out.size)
      have HR7 := Lib.hid (HR6.out.below hb7 (Nat.le_refl _))
      clear hb7 k0 k1 k2
      obtain ⟨k0, k1, k2, _⟩ := HK.out _ HB7.out
      go_wp2_with fail
      go_at_call 23
      refine (CC.out _ A5 c5 HR7.out).mono ?_
      rintro e w8 ⟨A8, c8, rfl, hr8, hb8⟩
      have HB8 := Lib.hid (below_step HB7.out hb8 HB7.out.size)
      have HR8 := Lib.hid (HR7.out.below hb8 (Nat.le_refl _))
      have HR88 := Lib.hid hr8
      clear hr8
      clear hb8 k0 k1 k2
      obtain ⟨k0, k1, k2, _⟩ := HK.out _ HB8.out
      go_wp2_with fail
      go_at_call 18
      refine (CS.out _ A5 c5 A8 c8 HR8.out HR88.out).mono ?_
      rintro e w9 ⟨rfl, hb9⟩
      have HB9 := Lib.hid (below_step HB8.out hb9 HB8.out.size)
      clear hb9 k0 k1 k2
      go_wp2
      go_ret
      exact ⟨by first | rfl | (simp; done) | (simp; omega), below_step HB.out HB9.out HB.out.size⟩

end Go.Proofs.Ytdbhhfhfjlpepaa
