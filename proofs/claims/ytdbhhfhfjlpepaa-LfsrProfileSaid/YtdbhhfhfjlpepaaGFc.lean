/- The field's inverse and quotient. -/
import Derived.Test.YtdbhhfhfjlpepaaMathH
namespace Go.Proofs.Ytdbhhfhfjlpepaa
open Go.RowKit
attribute [local go_sem ↓] Go.wp_at_zero Go.wp_at_succ

theorem gfInv0_calls (g : Nat) (P : Int) (M : Nat) (mod : List Int) (q : Nat) (ex lg : List Int) (x : Int) (w : World) (hg : GFat w g P M mod q ex lg) (h0 : inn q x = 0) :
    Calls Try.prog 69 #[.pointer (some ⟨g, 0, none⟩), .int .i64 x] w fun e w' => e = .returned (.tuple #[.int .i64 0, .int .i64 7]) ∧ Below w.heap.size w w' := by
  have HG := Lib.hid hg
  have H0 := Lib.hid h0
  clear hg h0
  go_enter Try.func69, Try.ntmps69
  go_wp2_with fail
  go_at_call 57
  refine (gfin_calls g P M mod q ex lg x _ HG.out).mono ?_
  rintro e w1 ⟨rfl, hb1⟩
  rw [H0.out]
  go_wp2
  go_ret2
  exact ⟨rfl, hb1⟩

set_option maxHeartbeats 1000000 in
theorem gfInv_calls (g : Nat) (P : Int) (M : Nat) (mod : List Int) (q : Nat) (ex lg : List Int) (p x : Int) (w : World) (hg : GFat w g P M mod q ex lg) (hm : Made P M mod q p ex lg) (h0 : inn q x ≠ 0) :
    Calls Try.prog 69 #[.pointer (some ⟨g, 0, none⟩), .int .i64 x] w fun e w' => e = .returned (.tuple #[.int .i64 (ginv q ex lg (inn q x)), .int .i64 0]) ∧ Below w.heap.size w w' := by
  have hu := Try.underlying68
  have hq := hm.q256
  have hq2 := hm.q2
  have bx := inn_bd (q := (q : Int)) (x := x) (by omega)
  obtain ⟨X, HX⟩ : ∃ X : Nat, Hid ((X : Int) = inn q x) := ⟨(inn q x).toNat, Int.toNat_of_nonneg bx.1⟩
  rw [← HX.out] at bx h0 ⊢
  have h0 : X ≠ 0 := fun e => h0 (by rw [e]; rfl)
  have HG := Lib.hid hg
  have HEX := Lib.hid hm.exl
  have HLG := Lib.hid hm.lgl
  have HLB := Lib.hid hm.lgb
  clear hg hm
  obtain ⟨n, HN⟩ : ∃ n, Hid (n = ex.length) := ⟨_, rfl⟩
  obtain ⟨nl, HNL⟩ : ∃ n, Hid (n = lg.length) := ⟨_, rfl⟩
  go_enter Try.func69, Try.ntmps69
  go_wp2_with fail
  go_at_call 57
  refine (gfin_calls g P M mod q ex lg x _ HG.out).mono ?_
  rintro e w1 ⟨rfl, hb3⟩
  rw [← HX.out]
  have HG2 := Lib.hid (HG.out.below hb3)
  have hX' : ((X : Int) == 0) = false := by simp; omega
  obtain ⟨A2, c2, A4, c4, A5, c5, x0, x1, x2, x3, x4, x5, r2, r4, r5, _⟩ := HG2.out.cells
  obtain ⟨ad5, rfl, hl1⟩ := r5.get X (by rw [HLG.out]; omega)
  obtain ⟨lx, HLX⟩ : ∃ z, Hid (z = lg.getD X 0) := ⟨_, rfl⟩
  have bl1 := HLB.out X
  rw [← HLX.out] at hl1 bl1
  obtain ⟨r, HRR⟩ : ∃ r : Nat, Hid ((r : Int) = ((q : Int) - 1 - lx) % ((q : Int) - 1)) := ⟨(((q : Int) - 1 - lx) % ((q : Int) - 1)).toNat, Int.toNat_of_nonneg (Int.emod_nonneg _ (by omega))⟩
  have hr2 : (r : Int) < (q : Int) - 1 := by rw [HRR.out]; exact Int.emod_lt_of_pos _ (by omega)
  obtain ⟨ad4, rfl, hl4⟩ := r4.get r (by rw [HEX.out]; omega)
  obtain ⟨v, HV⟩ : ∃ z, Hid (z = ex.getD r 0) := ⟨_, rfl⟩
  rw [← HV.out] at hl4
  rw [← HN.out] at x4
  rw [← HNL.out] at x5
  have i0 : (r : Int) < (n : Int) := by rw [HN.out, HEX.out]; omega
  have i1 : (X : Int) < (nl : Int) := by rw [HNL.out, HLG.out]; omega
  have i3 : (0 : Int) ≤ (r : Int) := by omega
  have i4 : (0 : Int) ≤ (X : Int) := by omega
  have e1 : IntKind.i64.wrap ((q : Int) - 1 - lx) = (q : Int) - 1 - lx := IntWalk.i64_in _ (by omega)
  have e2 : IntKind.i64.wrap ((q : Int) - 1) = (q : Int) - 1 := IntWalk.i64_in _ (by omega)
  have e3 : ((q : Int) - 1 - lx).tmod ((q : Int) - 1) = (r : Int) := by rw [HRR.out]; exact Int.tmod_eq_emod_of_nonneg (by omega)
  have e4 : ((q : Int) - 1 == 0) = false := by simp; omega
  have e5 : ¬ (q : Int) - 1 = 0 := by omega
  clear r2 r4 r5 x0 x1 x2
  go_wp2
  go_quiet (fail)
  clear e1 e2 e3 e4
  go_wp2
  go_ret2
  refine ⟨?_, below_drewN hb3 _⟩
  unfold ginv
  rw [Int.toNat_natCast, ← HLX.out, ← HRR.out, Int.toNat_natCast, ← HV.out]
  rfl

theorem gfDiv0_calls (g : Nat) (P : Int) (M : Nat) (mod : List Int) (q : Nat) (ex lg : List Int) (x y : Int) (w : World) (hg : GFat w g P M mod q ex lg) (h0 : inn q y = 0) :
    Calls Try.prog 60 #[.pointer (some ⟨g, 0, none⟩), .int .i64 x, .int .i64 y] w fun e w' => e = .returned (.tuple #[.int .i64 0, .int .i64 7]) ∧ Below w.heap.size w w' := by
  have HG := Lib.hid hg
  have H0 := Lib.hid h0
  clear hg h0
  go_enter Try.func60, Try.ntmps60
  go_wp2_with fail
  go_at_call 69
  refine (gfInv0_calls g P M mod q ex lg y _ HG.out H0.out).mono ?_
  rintro e w1 ⟨rfl, hb1⟩
  go_wp2
  go_ret2
  exact ⟨rfl, hb1⟩
theorem gfDiv_calls (g : Nat) (P : Int) (M : Nat) (mod : List Int) (q : Nat) (ex lg : List Int) (p x y : Int) (w : World) (hg : GFat w g P M mod q ex lg) (hm : Made P M mod q p ex lg) (h0 : inn q y ≠ 0) :
    Calls Try.prog 60 #[.pointer (some ⟨g, 0, none⟩), .int .i64 x, .int .i64 y] w fun e w' => e = .returned (.tuple #[.int .i64 (gmul q ex lg (inn q x) (inn q (ginv q ex lg (inn q y)))), .int .i64 0]) ∧ Below w.heap.size w w' := by
  have HG := Lib.hid hg
  have HM := Lib.hid hm
  have H0 := Lib.hid h0
  clear hg h0 hm
  go_enter Try.func60, Try.ntmps60
  go_wp2_with fail
  go_at_call 69
  refine (gfInv_calls g P M mod q ex lg p y _ HG.out HM.out H0.out).mono ?_
  rintro e w1 ⟨rfl, hb1⟩
  go_wp2_with fail
  go_at_call 58
  refine (gfMul_calls g P M mod q ex lg p x _ _ (HG.out.below hb1) HM.out).mono ?_
  rintro e w2 ⟨rfl, hb2⟩
  go_wp2
  go_ret2
  exact ⟨rfl, below_step hb1 hb2 hb1.size⟩

end Go.Proofs.Ytdbhhfhfjlpepaa
