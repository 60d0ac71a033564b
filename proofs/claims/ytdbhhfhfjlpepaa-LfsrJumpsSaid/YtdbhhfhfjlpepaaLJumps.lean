/- From one beginning to the next the complexity stays, or goes from l to n - l, which is more: the walk of the law. -/
import Derived.Test.YtdbhhfhfjlpepaaBmK
import Derived.Deep.QuietTactic
import Derived.BigQuiet
namespace Go.Proofs.Ytdbhhfhfjlpepaa
open Go.RowKit
attribute [local go_sem ↓] Go.wp_at_zero Go.wp_at_succ

theorem FS.prof_length (S : FS) (s : List Int) : (S.prof s).length = s.length + 1 := by simp [FS.prof]
theorem FS.prof_at (S : FS) (s : List Int) (n : Nat) (h : n ≤ s.length) : (S.prof s).getD n 0 = ((BM.run S s n).l : Int) := by
  cases n with
  | zero => rfl
  | succ n => simp [FS.prof, List.getD_eq_getElem?_getD, show n < s.length by omega]
theorem BM.jump (S : FS) (s : List Int) (n : Nat) : (BM.run S s (n + 1)).l = (BM.run S s n).l ∨ (2 * (BM.run S s n).l ≤ n ∧ (BM.run S s (n + 1)).l = n + 1 - (BM.run S s n).l) := by
  show (BM.step S s (BM.run S s n) n).l = _ ∨ _
  unfold BM.step
  split
  · exact .inl rfl
  · split
    · rename_i h; exact .inr ⟨h, by show (BM.step S s (BM.run S s n) n).l = _; unfold BM.step; rw [if_neg (by assumption), if_pos h]⟩
    · exact .inl rfl

set_option maxHeartbeats 2000000 in
theorem lawJumps (P M : Int) (A : Option Addr) (c : Nat) (mod : List Int) (L : Option Addr) (lc : Nat) (l : List Int) (w : World) (hr : Rd w A mod) (hnil : A = none → c = 0) (hrl : Rd w L l) :
    Calls Try.prog 8 #[.agg #[.int .i64 P, .int .i64 M, .slice A mod.length c], .slice L l.length lc] w fun e w' => e = .returned (.bool true) ∧ Below w.heap.size w w' := by
  have hu := Try.underlying24
  have HR := Lib.hid hr
  have HNIL := Lib.hid hnil
  have HRL := Lib.hid hrl
  have hln := hrl.1
  clear hr hnil hrl
  obtain ⟨nl, HNL⟩ : ∃ n, Hid (n = l.length) := ⟨_, rfl⟩
  rw [← HNL.out] at hln ⊢
  obtain ⟨n, HN⟩ : ∃ n, Hid (n = mod.length) := ⟨_, rfl⟩
  rw [← HN.out]
  have HMADE : Hid (∀ W1 : World, Rd W1 A mod → Calls Try.prog 14 #[.agg #[.int .i64 P, .int .i64 M, .slice A n c]] W1 fun e w' => MadeSRet P M mod W1 e w') := by
    intro W1 h1; rw [HN.out]; exact madeS_calls P M A c mod W1 h1 HNIL.out
  go_enter Try.func8, Try.ntmps8
  go_wp2_with fail
  go_at_call 13
  refine (aliveS_calls _).mono ?_
  rintro e w1 ⟨rfl, hb1⟩
  obtain ⟨k0, k1, k2, _⟩ := box3 hb1
  have kb := below_box hb1
  have HR1 := Lib.hid ((HR.out.alloc _).below hb1 (Nat.le_refl _))
  clear hb1
  go_wp2_with fail
  go_at_call 14
  refine (HMADE.out _ HR1.out).mono ?_
  rintro e w2 ⟨hret, hb2⟩
  have HR3 := Lib.hid (HR1.out.below hb2 (Nat.le_refl _))
  (have hk := keepS k0 k1 k2 hb2; replace kb := below_step kb hb2 kb.size; clear k0 k1 k2 hb2; obtain ⟨k0, k1, k2, _⟩ := hk)
  have HB := Lib.hid kb
  have HL2 := Lib.hid (HRL.out.below kb (Nat.le_refl _))
  clear kb
  rcases hret with ⟨rfl, hno⟩ | ⟨g, S, rfl, rfl, rfl, rfl, hf⟩
  · clear hno
    go_wp2
    go_ret
    exact ⟨rfl, HB.out⟩
  · have HF := Lib.hid hf
    clear hf
    have HK := Lib.hid (fun (W : World) (h : Below w2.heap.size w2 W) => keepS k0 k1 k2 h)
    go_wp2_with fail
    obtain ⟨w3, hw3⟩ : ∃ w3, w3 = w2.alloc (.cells #[.slice L nl lc] 22) := ⟨_, rfl⟩
    have z0 : w3.cell? ⟨w2.heap.size, 0, none⟩ = some (.slice L nl lc) := by rw [hw3]; exact (World.cell?_alloc_new (w := w2) #[.slice L nl lc] 22 0).trans rfl
    have HB3 : Hid (Below w2.heap.size w2 w3) := by rw [hw3]; exact (Below.refl _ _).alloc (Nat.le_refl _) _
    rw [← hw3]
    clear hw3 k0 k1 k2
    go_at_call 15
    refine (shortOne_calls w2.heap.size L nl lc w3 z0).mono ?_
    rintro e w4 ⟨b, rfl, hbi, hb4⟩
    replace hb4 := below_step HB3.out hb4 HB3.out.size
    clear z0
    obtain ⟨k0, k1, k2, _⟩ := HK.out _ hb4
    have HB4 := Lib.hid hb4
    clear hb4
    cases b
    · go_wp2
      go_ret
      exact ⟨by first | rfl | (simp; done) | (simp; omega), below_step HB.out HB4.out HB.out.size⟩
    · have hsh := hbi.1 rfl
      clear hbi
      obtain ⟨q, HQ⟩ : ∃ q : Nat → Nat, Hid (∀ i, q i = (BM.run S l i).l) := ⟨_, fun _ => rfl⟩
      have HJ : Hid (∀ i, q (i + 1) = q i ∨ (2 * q i ≤ i ∧ q (i + 1) = i + 1 - q i)) := fun i => by rw [HQ.out, HQ.out]; exact BM.jump S l i
      have HQ0 : Hid (q 0 = 0) := HQ.out 0
      have HQB : Hid (∀ i, q i ≤ i) := fun i => by
        rw [HQ.out]
        obtain ⟨K, ol, hok⟩ := BM.run_ok HF.out.inv l i
        exact hok.ln
      have HAT : Hid (∀ i, i ≤ nl → (S.prof l).getD i 0 = (q i : Int)) := fun i hi => by rw [HQ.out]; exact S.prof_at l i (by rw [← HNL.out]; exact hi)
      have HPL : Hid ((S.prof l).length = nl + 1) := by unfold Hid; rw [S.prof_length, HNL.out]
      have CP : Hid (∀ W, Below w2.heap.size w2 W → Calls Try.prog 24 #[.pointer (some ⟨g, 0, none⟩), .slice L nl lc] W fun e w' => ∃ A c, e = .returned (.slice A (nl + 1) c) ∧ Rd w' A (S.prof l) ∧ Below W.heap.size W w') := by
        intro W h
        have := profile_calls g S L lc l W (HF.out.below h) (HL2.out.below h (Nat.le_refl _)) (by rw [← HNL.out]; omega)
        rw [← HNL.out] at this
        refine this.mono ?_
        rintro e w' ⟨A7, c7, h1, h2, _, _, _, h3⟩
        rw [HPL.out] at h1
        exact ⟨A7, c7, h1, h2, h3⟩
      obtain ⟨pl, HPF⟩ : ∃ pl, Hid (pl = S.prof l) := ⟨_, rfl⟩
      rw [← HPF.out] at CP HAT HPL
      clear HQ HF hln HPF
      have hnw : IntKind.i64.wrap ((nl : Int) + 1) = ((nl + 1 : Nat) : Int) := by rw [IntWalk.i64_in _ (by omega)]; omega
      obtain ⟨np, HNP⟩ : ∃ np, Hid (np = nl + 1) := ⟨_, rfl⟩
      rw [← HNP.out] at CP HPL hnw
      have hnp : (nl : Int) + 1 = (np : Int) := by rw [HNP.out]; omega
      have hnp25 : np ≤ 25 := by rw [HNP.out]; omega
      have hnp1 : 1 ≤ np := by rw [HNP.out]; omega
      go_wp2_with fail
      go_at_call 24
      refine (CP.out _ HB4.out).mono ?_
      rintro e w5 ⟨A5, c5, rfl, hr5, hb5⟩
      have HB5 := Lib.hid (below_step HB4.out hb5 HB4.out.size)
      have HR5 := Lib.hid hr5
      clear hb5 hr5 k0 k1 k2
      obtain ⟨ad, rfl, hc0⟩ := HR5.out.get 0 (by rw [HPL.out]; omega)
      rw [HAT.out 0 (Nat.zero_le _), HQ0.out] at hc0
      have hc00 : w5.cell? ad = some (.int .i64 0) := (congrArg w5.cell? (add_nought ad)).symm.trans hc0
      clear hc0
      go_wp2
      clear hc00
      go_loopg [7] (np - 1) (fun g2 t wr => ∃ j : Nat, 1 ≤ j ∧ j ≤ np ∧ g2 = np - j ∧ t = .int .i64 j ∧ Below w5.heap.size w5 wr)
      case atStart => exact ⟨1, Nat.le_refl _, hnp1, rfl, rfl, Below.refl _ _⟩
      case round =>
        obtain ⟨j, hj1, hj, HGQ, rfl, hb⟩ := hrel
        replace HGQ := Lib.hid HGQ
        have HBL := Lib.hid hb
        clear hb
        have hnp0 := HNP.out
        by_cases hlt : j < np
        · obtain ⟨jm, HJM⟩ : ∃ jm, Hid (jm = j - 1) := ⟨_, rfl⟩
          have hjj : j = jm + 1 := by have := HJM.out; omega
          have hr := HR5.out.below HBL.out (Nat.le_refl _)
          obtain ⟨ad1, e1, hc1⟩ := hr.get j (by rw [HPL.out]; exact hlt)
          obtain ⟨ad2, e2, hc2⟩ := hr.get jm (by rw [HPL.out]; omega)
          obtain rfl : ad = ad1 := Option.some.inj e1
          obtain rfl : ad = ad2 := Option.some.inj e2
          rw [HAT.out j (by omega)] at hc1
          rw [HAT.out jm (by omega)] at hc2
          have hjump := HJ.out jm
          rw [← hjj] at hjump
          have hba := HQB.out jm
          have hbb := HQB.out j
          obtain ⟨a, HA⟩ : ∃ a, Hid (a = q jm) := ⟨_, rfl⟩
          obtain ⟨b, HBB⟩ : ∃ b, Hid (b = q j) := ⟨_, rfl⟩
          rw [← HA.out] at hc2 hjump hba
          rw [← HBB.out] at hc1 hjump hbb
          have i1 : (0 : Int) ≤ (j : Int) := by omega
          have i2 : (j : Int) < (np : Int) := by omega
          have i3 : (j : Int) - 1 = (jm : Int) := by omega
          have i4 : IntKind.i64.wrap (jm : Int) = (jm : Int) := IntWalk.i64_in _ (by omega)
          have i5 : (0 : Int) ≤ (jm : Int) := by omega
          have i6 : (jm : Int) < (np : Int) := by omega
          clear e1 e2 hr hnp0 hnp hnw
          by_cases hab : b = a
          · subst hab
            clear hjump hba hbb hjj
            go_wp2
            go_quiet (fail)
            clear hc1 hc2 i3 i4
            go_wp2
            go_roundg (np - (j + 1))
            case measure => have := HGQ.out; omega
            case rel => exact ⟨j + 1, by omega, by omega, rfl, by go_num, by first | exact HBL.out | exact HBL.out.drew | exact below_drewN HBL.out _⟩
          · have h0 : ((b : Int) == (a : Int)) = false := by simp; omega
            have h1 : (j : Int) - (a : Int) = (b : Int) := by rcases hjump with h | h <;> omega
            have h2 : IntKind.i64.wrap (b : Int) = (b : Int) := IntWalk.i64_in _ (by omega)
            have h3 : ¬ (b : Int) ≤ (a : Int) := by rcases hjump with h | h <;> omega
            have h4 : (b == a) = false := by simp; exact hab
            have h5 : decide (b ≤ a) = false := by simp; omega
            have h6 : decide ((b : Int) ≤ (a : Int)) = false := by simp; omega
            have h7 : ((b : Int) != (a : Int)) = true := by simp; omega
            have h8 : (b != a) = true := by simp; exact hab
            clear hjump hba hbb hjj
            go_wp2
            go_quiet (fail)
            clear hc1 hc2 i3 i4 h0 h1 h2 h3 h4 h5 h6 h7 h8
            go_wp2
            go_roundg (np - (j + 1))
            case measure => have := HGQ.out; omega
            case rel => exact ⟨j + 1, by omega, by omega, rfl, by go_num, by first | exact HBL.out | exact HBL.out.drew | exact below_drewN HBL.out _⟩
        · have i2 : ¬ (j : Int) < (np : Int) := by omega
          clear hnp0 hnp hnw
          go_wp2
          go_ret
          exact ⟨rfl, below_step HB.out (below_step HB5.out HBL.out HB5.out.size) HB.out.size⟩

end Go.Proofs.Ytdbhhfhfjlpepaa
