/- The entries that are generated are those of the recurrence: the walk of the law. -/
import Derived.Test.YtdbhhfhfjlpepaaGen
namespace Go.Proofs.Ytdbhhfhfjlpepaa
theorem box2 {w w1 : World} {a b : Value} {t : TypeId} (h : Go.RowKit.Below (w.alloc (.cells #[a, b] t)).heap.size (w.alloc (.cells #[a, b] t)) w1) :
    w1.cell? ⟨w.heap.size, 0, none⟩ = some a ∧ w1.cell? ⟨w.heap.size, 1, none⟩ = some b :=
  ⟨(h.cell (by simp)).trans (by simp), (h.cell (by simp)).trans (by simp)⟩
open Go.RowKit in
theorem keepS {W w' : World} {g : Nat} {a b c : Value} (h0 : W.cell? ⟨g, 0, none⟩ = some a) (h1 : W.cell? ⟨g, 1, none⟩ = some b) (h2 : W.cell? ⟨g, 2, none⟩ = some c) (hb : Below W.heap.size W w') :
    w'.cell? ⟨g, 0, none⟩ = some a ∧ w'.cell? ⟨g, 1, none⟩ = some b ∧ w'.cell? ⟨g, 2, none⟩ = some c ∧ Below W.heap.size W w' :=
  ⟨(hb.cell (World.block_lt_of_cell? W _ h0)).trans h0, (hb.cell (World.block_lt_of_cell? W _ h1)).trans h1, (hb.cell (World.block_lt_of_cell? W _ h2)).trans h2, hb⟩
end Go.Proofs.Ytdbhhfhfjlpepaa
namespace Go.Proofs.Ytdbhhfhfjlpepaa
open Go.RowKit
attribute [local go_sem ↓] Go.wp_at_zero Go.wp_at_succ

set_option maxHeartbeats 2000000 in
theorem lawGenerates (P M : Int) (A : Option Addr) (c : Nat) (mod : List Int) (L : Option Addr) (lc : Nat) (l : List Int) (O : Option Addr) (oc : Nat) (o : List Int) (N : Int) (w : World) (hr : Rd w A mod) (hnil : A = none → c = 0) (hrl : Rd w L l) (hro : Rd w O o) :
    Calls Try.prog 3 #[.agg #[.int .i64 P, .int .i64 M, .slice A mod.length c], .agg #[.slice L l.length lc, .slice O o.length oc], .int .i64 N] w fun e w' => e = .returned (.bool true) ∧ Below w.heap.size w w' := by
  have hu := Try.underlying24
  have HR := Lib.hid hr
  have HNIL := Lib.hid hnil
  have HRL := Lib.hid hrl
  have HRO := Lib.hid hro
  have hln := hrl.1
  have hon := hro.1
  clear hr hnil hrl hro
  obtain ⟨nl, HNL⟩ : ∃ n, Hid (n = l.length) := ⟨_, rfl⟩
  obtain ⟨no, HNO⟩ : ∃ n, Hid (n = o.length) := ⟨_, rfl⟩
  rw [← HNL.out] at hln ⊢
  rw [← HNO.out] at hon ⊢
  obtain ⟨n, HN⟩ : ∃ n, Hid (n = mod.length) := ⟨_, rfl⟩
  rw [← HN.out]
  have HMADE : Hid (∀ W1 : World, Rd W1 A mod → Calls Try.prog 14 #[.agg #[.int .i64 P, .int .i64 M, .slice A n c]] W1 fun e w' => MadeSRet P M mod W1 e w') := by
    intro W1 h1; rw [HN.out]; exact madeS_calls P M A c mod W1 h1 HNIL.out
  go_enter Try.func3, Try.ntmps3
  go_wp2_with fail
  go_at_call 13
  refine (aliveS_calls _).mono ?_
  rintro e w1 ⟨rfl, hb1⟩
  have hb0 := below_box hb1
  obtain ⟨k0, k1, k2, _⟩ := box3 hb0
  have hy := box2 hb1
  rw [World.size_alloc] at hy
  obtain ⟨y0, y1⟩ := hy
  have kb := below_box hb0
  have HR1 := Lib.hid ((HR.out.alloc _).below hb0 (Nat.le_refl _))
  clear hb1 hb0
  go_wp2_with fail
  go_at_call 14
  refine (HMADE.out _ HR1.out).mono ?_
  rintro e w2 ⟨hret, hb2⟩
  have HR3 := Lib.hid (HR1.out.below hb2 (Nat.le_refl _))
  replace y0 := (hb2.cell (World.block_lt_of_cell? w1 _ y0)).trans y0
  replace y1 := (hb2.cell (World.block_lt_of_cell? w1 _ y1)).trans y1
  (have hk := keepS k0 k1 k2 hb2; replace kb := below_step kb hb2 kb.size; clear k0 k1 k2 hb2; obtain ⟨k0, k1, k2, _⟩ := hk)
  have HB := Lib.hid kb
  have HL2 := Lib.hid (HRL.out.below kb (Nat.le_refl _))
  have HO2 := Lib.hid (HRO.out.below kb (Nat.le_refl _))
  clear kb
  have HBQ := Lib.hid (fun k => below_drewN (Below.refl w2.heap.size w2) k)
  rcases hret with ⟨rfl, hno⟩ | ⟨g, S, rfl, rfl, rfl, rfl, hf⟩
  · clear hno
    go_wp2
    go_quiet (fail)
    go_wp2
    go_ret
    exact ⟨rfl, below_step HB.out (HBQ.out _) HB.out.size⟩
  · have HF := Lib.hid hf
    clear hf
    go_wp2
    go_quiet (fail)
    go_wp2_with fail
    have HK := Lib.hid (fun (W : World) (h : Below w2.heap.size w2 W) => keepS k0 k1 k2 h)
    obtain ⟨w3, hw3⟩ : ∃ w3, w3 = (w2.drewN nq).alloc (.cells #[.slice L nl lc, .slice O no oc] 22) := ⟨_, rfl⟩
    have z0 : w3.cell? ⟨w2.heap.size, 0, none⟩ = some (.slice L nl lc) := by rw [hw3]; exact (World.cell?_alloc_new (w := w2.drewN nq) #[.slice L nl lc, .slice O no oc] 22 0).trans rfl
    have z1 : w3.cell? ⟨w2.heap.size, 1, none⟩ = some (.slice O no oc) := by rw [hw3]; exact (World.cell?_alloc_new (w := w2.drewN nq) #[.slice L nl lc, .slice O no oc] 22 1).trans rfl
    have HB3 : Hid (Below w2.heap.size w2 w3) := by rw [hw3]; exact (HBQ.out nq).alloc (HBQ.out nq).size _
    rw [← hw3]
    clear hw3 y0 y1
    go_at_call 15
    refine (shortTwo_calls w2.heap.size L O nl lc no oc w3 z0 z1).mono ?_
    rintro e w4 ⟨b, rfl, hbi, hb4⟩
    replace hb4 := below_step HB3.out hb4 HB3.out.size
    clear k0 k1 k2 z0 z1
    obtain ⟨k0, k1, k2, _⟩ := HK.out _ hb4
    have HB4 := Lib.hid hb4
    clear hb4
    cases b
    · go_wp2
      go_ret
      exact ⟨by first | rfl | simp, below_step HB.out HB4.out HB.out.size⟩
    · obtain ⟨hl24, ho24⟩ := hbi.1 rfl
      clear hbi
      obtain ⟨p, HP⟩ : ∃ p : Prop, Hid (p ↔ S.IsReg l no) := ⟨_, Iff.rfl⟩
      obtain ⟨rc, HRC⟩ : ∃ rc : Nat → List Int, Hid (∀ k, rc k = S.recu l o k) := ⟨_, fun _ => rfl⟩
      have HRL2 : Hid (∀ k, (rc k).length = k) := fun k => by rw [HRC.out]; exact S.recu_length l o k
      have CG : Hid (∀ W, Below w2.heap.size w2 W → Calls Try.prog 16 #[.pointer (some ⟨g, 0, none⟩), .slice L nl lc, .slice O no oc, .int .i64 N] W fun e w' =>
          ((e = .returned (.tuple #[.slice none 0 0, .int .i64 5]) ∧ ¬ p) ∨ (e = .returned (.tuple #[.slice none 0 0, .int .i64 6]) ∧ p ∧ (N < 0 ∨ 4096 < N)) ∨
           ∃ (k : Nat) (A : Option Addr) (c' : Nat), N = k ∧ k ≤ 4096 ∧ p ∧ e = .returned (.tuple #[.slice A k c', .int .i64 0]) ∧ Rd w' A (rc k)) ∧ Below W.heap.size W w') := by
        intro W h
        have := lfGen_calls g S L lc l O oc o N W (HF.out.below h) (HL2.out.below h (Nat.le_refl _)) (HO2.out.below h (Nat.le_refl _)) (by rw [← HNL.out]; omega) (by rw [← HNO.out]; omega)
        unfold LfGenRet at this
        rw [← HNL.out, ← HNO.out] at this
        simp only [← HRC.out, propext HP.out] at this ⊢
        exact this
      have CR : Hid (∀ W, Below w2.heap.size w2 W → Calls Try.prog 17 #[.agg #[.int .i64 S.P, .int .i64 S.M, .slice A n c], .slice L nl lc, .int .i64 no] W fun e w' => BoolIs p W e w') := by
        intro W h
        rw [propext HP.out, HNL.out]
        exact rReg S A n c L lc l no W (HL2.out.below h (Nat.le_refl _)) (by rw [← HNL.out]; omega)
      have CN : Hid (∀ W (k : Nat), Below w2.heap.size w2 W → k ≤ 100 → Calls Try.prog 19 #[.agg #[.int .i64 S.P, .int .i64 S.M, .slice A n c], .slice L nl lc, .slice O no oc, .int .i64 k] W fun e w' => ∃ A6 c6, e = .returned (.slice A6 k c6) ∧ Rd w' A6 (rc k) ∧ Below W.heap.size W w') := by
        intro W k h hk
        have := rGen S A c L lc l O oc o k W (HR3.out.below h (Nat.le_refl _)) (HL2.out.below h (Nat.le_refl _)) (HO2.out.below h (Nat.le_refl _)) (by rw [← HNL.out]; omega) (by rw [← HNO.out]; omega) (by omega) n HN.out
        rw [← HNL.out, ← HNO.out, ← HRC.out] at this
        refine this.mono ?_
        rintro e w' ⟨A6, c6, h1, h2, _, _, _, h3⟩
        rw [HRL2.out] at h1
        exact ⟨A6, c6, h1, h2, h3⟩
      have CH : Hid (∀ W (k : Nat) A7 c7, Below w2.heap.size w2 W → k ≤ 100 → p → Rd W A7 (rc k) → Calls Try.prog 20 #[.agg #[.int .i64 S.P, .int .i64 S.M, .slice A n c], .slice L nl lc, .int .i64 no, .slice A7 k c7] W fun e w' => e = .returned (.bool true) ∧ Below W.heap.size W w') := by
        intro W k A7 c7 h hk hp hr7
        have := rHolds S A c L lc l no A7 c7 (rc k) W (HR3.out.below h (Nat.le_refl _)) (HL2.out.below h (Nat.le_refl _)) hr7 (by rw [← HNL.out]; omega) (by rw [HRL2.out]; omega) n HN.out
        rw [← HNL.out, HRL2.out] at this
        refine this.mono ?_
        rintro e w' ⟨b, rfl, hb, hbl⟩
        obtain ⟨j, e1, hreg⟩ := HP.out.1 hp
        obtain rfl : no = j := by omega
        have hg : S.IsGen l no (rc k) := ⟨no, rfl, by rw [HRL2.out, HRC.out, HNO.out]; exact S.recu_gen l o k (by rw [← HNO.out]; exact hreg)⟩
        rw [hb.2 hg]
        exact ⟨rfl, hbl⟩
      have CS : Hid (∀ W (k : Nat) A7 c7 A8 c8, k ≤ 100 → Rd W A7 (rc k) → Rd W A8 (rc k) → Calls Try.prog 18 #[.slice A7 k c7, .slice A8 k c8] W fun e w' => e = .returned (.bool true) ∧ Below W.heap.size W w') := by
        intro W k A7 c7 A8 c8 hk h1 h2
        have := lawsame_calls A7 c7 (rc k) A8 c8 (rc k) W h1 h2 rfl (by rw [HRL2.out]; omega)
        rw [HRL2.out] at this
        exact this
      obtain ⟨P, HPP⟩ : ∃ P, Hid (P = S.P) := ⟨_, rfl⟩
      obtain ⟨M, HMM⟩ : ∃ M, Hid (M = S.M) := ⟨_, rfl⟩
      rw [← HPP.out, ← HMM.out] at CR CN CH HK
      rw [← HPP.out] at k0
      rw [← HMM.out] at k1
      clear HP HRC HRL2 HF hln hon
      go_wp2_with fail
      go_at_call 16
      refine (CG.out _ HB4.out).mono ?_
      rintro e w5 ⟨hret, hb5⟩
      replace hb5 := below_step HB4.out hb5 HB4.out.size
      clear k0 k1 k2
      obtain ⟨k0, k1, k2, _⟩ := HK.out _ hb5
      have HB5 := Lib.hid hb5
      clear hb5
      rcases hret with ⟨rfl, hno⟩ | ⟨rfl, hyes, hrg⟩ | ⟨k, A5, c5, rfl, hk, hyes, rfl, hr5⟩
      · have HNP := Lib.hid hno
        clear hno
        go_wp2_with fail
        go_at_call 17
        refine (CR.out _ HB5.out).mono ?_
        rintro e w6 ⟨b, rfl, hbi, hb6⟩
        have HB6 := Lib.hid (below_step HB5.out hb6 HB5.out.size)
        clear hb6
        cases b
        · clear hbi
          go_wp2
          go_ret
          exact ⟨by first | rfl | simp, below_step HB.out HB6.out HB.out.size⟩
        · exact absurd (hbi.1 rfl) HNP.out
      · have HNP := Lib.hid hyes
        have HRG := Lib.hid hrg
        clear hyes hrg
        go_wp2_with fail
        go_at_call 17
        refine (CR.out _ HB5.out).mono ?_
        rintro e w6 ⟨b, rfl, hbi, hb6⟩
        have HB6 := Lib.hid (below_step HB5.out hb6 HB5.out.size)
        clear hb6
        cases b
        · have := hbi.2 HNP.out; cases this
        · clear hbi
          rcases HRG.out with h1 | h1
          · go_wp2
            go_ret
            exact ⟨by first | rfl | simp, below_step HB.out HB6.out HB.out.size⟩
          · have h0 : ¬ N < 0 := by omega
            go_wp2
            go_ret
            exact ⟨by first | rfl | simp, below_step HB.out HB6.out HB.out.size⟩
      · have HNP := Lib.hid hyes
        have HR5 := Lib.hid hr5
        clear hyes hr5
        go_wp2_with fail
        go_at_call 17
        refine (CR.out _ HB5.out).mono ?_
        rintro e w6 ⟨b, rfl, hbi, hb6⟩
        have HB6 := Lib.hid (below_step HB5.out hb6 HB5.out.size)
        have HR6 := Lib.hid (HR5.out.below hb6 (Nat.le_refl _))
        clear hb6 k0 k1 k2
        obtain ⟨k0, k1, k2, _⟩ := HK.out _ HB6.out
        cases b
        · have := hbi.2 HNP.out; cases this
        · clear hbi
          have n0 : ¬ (k : Int) < 0 := by omega
          have n1 : ¬ (4096 : Int) < (k : Int) := by omega
          by_cases h100 : 100 < k
          · have h100' : (100 : Int) < (k : Int) := by omega
            go_wp2
            go_ret
            exact ⟨by first | rfl | simp, below_step HB.out HB6.out HB.out.size⟩
          · have h100' : ¬ (100 : Int) < (k : Int) := by omega
            go_wp2_with fail
            go_at_call 19
            refine (CN.out _ k HB6.out (by omega)).mono ?_
            rintro e w7 ⟨A7, c7, rfl, hr7, hb7⟩
            have HB7 := Lib.hid (below_step HB6.out hb7 HB6.out.size)
            have HR67 := Lib.hid (HR6.out.below hb7 (Nat.le_refl _))
            have HR7 := Lib.hid hr7
            clear hb7 hr7 k0 k1 k2
            obtain ⟨k0, k1, k2, _⟩ := HK.out _ HB7.out
            go_wp2_with fail
            go_at_call 18
            refine (CS.out _ k A5 c5 A7 c7 (by omega) HR67.out HR7.out).mono ?_
            rintro e w8 ⟨rfl, hb8⟩
            have HB8 := Lib.hid (below_step HB7.out hb8 HB7.out.size)
            have HR8 := Lib.hid (HR67.out.below hb8 (Nat.le_refl _))
            clear hb8 k0 k1 k2
            obtain ⟨k0, k1, k2, _⟩ := HK.out _ HB8.out
            go_wp2_with fail
            go_at_call 20
            refine (CH.out _ k A5 c5 HB8.out (by omega) HNP.out HR8.out).mono ?_
            rintro e w9 ⟨rfl, hb9⟩
            have HB9 := Lib.hid (below_step HB8.out hb9 HB8.out.size)
            clear hb9
            go_wp2
            go_ret
            exact ⟨by first | rfl | simp, below_step HB.out HB9.out HB.out.size⟩

end Go.Proofs.Ytdbhhfhfjlpepaa
