/- Powers: the field's and the reference's. -/
import Derived.Test.YtjbfccconjjofaaMathH
import Derived.Test.YtjbfccconjjofaaLawKit
namespace Go.Proofs.Ytjbfccconjjofaa
open Go.RowKit
attribute [local go_sem ↓] Go.wp_at_zero Go.wp_at_succ

theorem tmod_fix (n k : Int) (hk : 0 < k) : (n.tmod k + k).tmod k = n % k := by
  have h1 := Int.lt_tmod_of_pos n hk
  rw [Int.tmod_eq_emod_of_nonneg (by omega)]
  have h2 := Int.mul_tdiv_add_tmod n k
  have h3 : n.tmod k + k = n + k * (1 - n.tdiv k) := by rw [Int.mul_sub, Int.mul_one]; omega
  rw [h3, Int.add_mul_emod_self_left]
section
variable {P : Int} {M : Nat} {mod : List Int} {q : Nat} {x : Int} {ex lg : List Int}
theorem Made.powv (h : Made P M mod q x ex lg) (u : Int) (hu : inn q u ≠ 0) (k : Nat) : ex.getD (((lg.getD (inn q u).toNat 0 * (k : Int)) % ((q : Int) - 1)).toNat) 0 = (El.pow (h.el u) k).1 := by
  have hb : h.el u ≠ 0 := fun e => hu (congrArg Subtype.val e)
  obtain ⟨i, hi, e1, e2⟩ := h.log_at (h.el u) hb
  have e1' : lg.getD (inn q u).toNat 0 = (i : Int) := e1
  rw [e1', h.exmod (i * k) _ (by simp), El.pow_mul, e2]
theorem Made.refstep (h : Made P M mod q x ex lg) (u : Int) (k : Nat) : refMul P M mod (inn (P ^ M) (El.pow (h.el u) k).1) (inn (P ^ M) (inn q u)) = (El.pow (h.el u) (k + 1)).1 := h.refmul (El.pow (h.el u) k) (h.el u)
end
theorem gfPow0_calls (g : Nat) (P : Int) (M : Nat) (mod : List Int) (q : Nat) (ex lg : List Int) (x : Int) (w : World) (hg : GFat w g P M mod q ex lg) :
    Calls Try.prog 45 #[.pointer (some ⟨g, 0, none⟩), .int .i64 x, .int .i64 0] w fun e w' => e = .returned (.tuple #[.int .i64 1, .int .i64 0]) ∧ Below w.heap.size w w' := by
  have HG := Lib.hid hg
  clear hg
  go_enter Try.func45, Try.ntmps45
  go_wp2_with fail
  go_at_call 58
  refine (gfin_calls g P M mod q ex lg x _ HG.out).mono ?_
  rintro e w1 ⟨rfl, hb1⟩
  go_wp2
  go_ret2
  exact ⟨rfl, hb1⟩
theorem gfPowZ_calls (g : Nat) (P : Int) (M : Nat) (mod : List Int) (q : Nat) (ex lg : List Int) (x n : Int) (w : World) (hg : GFat w g P M mod q ex lg) (hn : n ≠ 0) (h0 : inn q x = 0) :
    Calls Try.prog 45 #[.pointer (some ⟨g, 0, none⟩), .int .i64 x, .int .i64 n] w fun e w' => e = .returned (.tuple #[.int .i64 0, .int .i64 (if n < 0 then 7 else 0)]) ∧ Below w.heap.size w w' := by
  have HG := Lib.hid hg
  have H0 := Lib.hid h0
  have hnd : (n == 0) = false := by simpa using hn
  clear hg h0 hn
  by_cases hlt : n < 0
  all_goals
    go_enter Try.func45, Try.ntmps45
    go_wp2_with fail
    go_at_call 58
    refine (gfin_calls g P M mod q ex lg x _ HG.out).mono ?_
    rw [H0.out]
    rintro e w1 ⟨rfl, hb1⟩
    go_wp2
    go_ret2
    exact ⟨by simp, hb1⟩
set_option maxHeartbeats 1000000 in
theorem gfPow_calls (g : Nat) (P : Int) (M : Nat) (mod : List Int) (q : Nat) (ex lg : List Int) (p x n : Int) (w : World) (hg : GFat w g P M mod q ex lg) (hm : Made P M mod q p ex lg) (hn : n ≠ 0) (h0 : inn q x ≠ 0) :
    Calls Try.prog 45 #[.pointer (some ⟨g, 0, none⟩), .int .i64 x, .int .i64 n] w fun e w' => e = .returned (.tuple #[.int .i64 (El.pow (hm.el x) (n % ((q : Int) - 1)).toNat).1, .int .i64 0]) ∧ Below w.heap.size w w' := by
  have hu := Try.underlying71
  have hq := hm.q256
  obtain ⟨np, HNP⟩ : ∃ np : Nat, Hid ((np : Int) = n % ((q : Int) - 1)) := ⟨(n % ((q : Int) - 1)).toNat, Int.toNat_of_nonneg (Int.emod_nonneg _ (by omega))⟩
  have hnp : (np : Int) < (q : Int) - 1 := by rw [HNP.out]; exact Int.emod_lt_of_pos _ (by omega)
  have HV := Lib.hid (hm.powv x h0 np)
  rw [← HNP.out, Int.toNat_natCast]
  obtain ⟨z, HZ⟩ : ∃ z, Hid (z = (El.pow (hm.el x) np).1) := ⟨_, rfl⟩
  rw [← HZ.out] at HV ⊢
  clear HZ
  have bx := inn_bd (q := (q : Int)) (x := x) (by omega)
  obtain ⟨X, HX⟩ : ∃ X : Nat, Hid ((X : Int) = inn q x) := ⟨(inn q x).toNat, Int.toNat_of_nonneg bx.1⟩
  rw [← HX.out] at bx h0 HV
  have h0 : X ≠ 0 := fun e => h0 (by rw [e]; rfl)
  have HG := Lib.hid hg
  have HEX := Lib.hid hm.exl
  have HLG := Lib.hid hm.lgl
  have HLB := Lib.hid hm.lgb
  clear hg hm
  obtain ⟨ne, HN⟩ : ∃ n, Hid (n = ex.length) := ⟨_, rfl⟩
  obtain ⟨nl, HNL⟩ : ∃ n, Hid (n = lg.length) := ⟨_, rfl⟩
  have hnd : (n == 0) = false := by simpa using hn
  clear hn
  go_enter Try.func45, Try.ntmps45
  go_wp2_with fail
  go_at_call 58
  refine (gfin_calls g P M mod q ex lg x _ HG.out).mono ?_
  rintro e w1 ⟨rfl, hb3⟩
  rw [← HX.out]
  have HG2 := Lib.hid (HG.out.below hb3)
  have hX' : ((X : Int) == 0) = false := by simp; omega
  obtain ⟨A2, c2, A4, c4, A5, c5, x0, x1, x2, x3, x4, x5, r2, r4, r5, _⟩ := HG2.out.cells
  obtain ⟨ad5, rfl, hl1⟩ := r5.get X (by rw [HLG.out]; omega)
  obtain ⟨lx, HLX⟩ : ∃ z, Hid (z = lg.getD X 0) := ⟨_, rfl⟩
  have bl1 := HLB.out X
  rw [← HLX.out] at hl1 bl1
  rw [Int.toNat_natCast, ← HLX.out] at HV
  have hm1 : lx * (np : Int) ≤ 256 * 256 := Int.mul_le_mul (by omega) (by omega) (by omega) (by omega)
  have hm0 : 0 ≤ lx * (np : Int) := Int.mul_nonneg (by omega) (by omega)
  obtain ⟨y, HY⟩ : ∃ y, Hid (y = lx * (np : Int)) := ⟨_, rfl⟩
  obtain ⟨r, HRR⟩ : ∃ r : Nat, Hid ((r : Int) = (lx * (np : Int)) % ((q : Int) - 1)) := ⟨((lx * (np : Int)) % ((q : Int) - 1)).toNat, Int.toNat_of_nonneg (Int.emod_nonneg _ (by omega))⟩
  have hr2 : (r : Int) < (q : Int) - 1 := by rw [HRR.out]; exact Int.emod_lt_of_pos _ (by omega)
  rw [← HRR.out, Int.toNat_natCast] at HV
  obtain ⟨ad4, rfl, hl4⟩ := r4.get r (by rw [HEX.out]; omega)
  rw [HV.out] at hl4
  rw [← HN.out] at x4
  rw [← HNL.out] at x5
  have i0 : (r : Int) < (ne : Int) := by rw [HN.out, HEX.out]; omega
  have i1 : (X : Int) < (nl : Int) := by rw [HNL.out, HLG.out]; omega
  have i3 : (0 : Int) ≤ (r : Int) := by omega
  have i4 : (0 : Int) ≤ (X : Int) := by omega
  obtain ⟨t, HT⟩ : ∃ t, Hid (t = n.tmod ((q : Int) - 1)) := ⟨_, rfl⟩
  have ht1 : -((q : Int) - 1) < t := by rw [HT.out]; exact Int.lt_tmod_of_pos n (by omega)
  have ht2 : t < (q : Int) - 1 := by rw [HT.out]; exact Int.tmod_lt_of_pos n (by omega)
  have e0 : n.tmod ((q : Int) - 1) = t := HT.out.symm
  have e1 : IntKind.i64.wrap (t + ((q : Int) - 1)) = t + ((q : Int) - 1) := IntWalk.i64_in _ (by omega)
  have e2 : IntKind.i64.wrap ((q : Int) - 1) = (q : Int) - 1 := IntWalk.i64_in _ (by omega)
  have e3 : (t + ((q : Int) - 1)).tmod ((q : Int) - 1) = (np : Int) := by rw [HNP.out, HT.out]; exact tmod_fix _ _ (by omega)
  have e6 : IntKind.i64.wrap (lx * (np : Int)) = lx * (np : Int) := IntWalk.i64_in _ (by omega)
  have e7 : (lx * (np : Int)).tmod ((q : Int) - 1) = (r : Int) := by rw [HRR.out]; exact Int.tmod_eq_emod_of_nonneg (by omega)
  have e4 : ((q : Int) - 1 == 0) = false := by simp; omega
  have e5 : ¬ (q : Int) - 1 = 0 := by omega
  clear r2 r4 r5 x0 x1 x2 hm1 hm0
  go_wp2
  go_quiet (fail)
  clear e1 e2 e3 e4 e6 e7
  go_wp2
  go_ret2
  exact ⟨rfl, below_drewN hb3 _⟩

end Go.Proofs.Ytjbfccconjjofaa
