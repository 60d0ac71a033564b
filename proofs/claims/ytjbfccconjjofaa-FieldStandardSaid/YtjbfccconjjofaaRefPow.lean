/- The reference's power. -/
import Derived.Test.YtjbfccconjjofaaPow
import Derived.Test.YtjbfccconjjofaaRefMul
namespace Go.Proofs.Ytjbfccconjjofaa
open Go.RowKit
attribute [local go_sem ↓] Go.wp_at_zero Go.wp_at_succ

theorem Made.ordq {P : Int} {M : Nat} {mod : List Int} {q : Nat} {x : Int} {ex lg : List Int} (h : Made P M mod q x ex lg) : ord P M = q := by
  have h1 := h.shp
  rw [ord_eq P M h1.p2 (by have := h1.m1; omega) (by have := h1.m8; omega) (by simpa using h1.q), h.hq]; simp
theorem refPow0_calls (P : Int) (M : Nat) (A : Option Addr) (c : Nat) (mod : List Int) (x : Int) (w : World) :
    Calls Try.prog 46 #[.agg #[.int .i64 P, .int .i64 M, .slice A mod.length c], .int .i64 x, .int .i64 0] w fun e w' => e = .returned (.tuple #[.int .i64 1, .int .i64 0]) ∧ Below w.heap.size w w' := by
  have hu := Try.underlying24
  obtain ⟨n, HN⟩ : ∃ n, Hid (n = mod.length) := ⟨_, rfl⟩
  rw [← HN.out]
  go_enter Try.func46, Try.ntmps46
  go_wp2_with fail
  go_at_call 23
  refine (refIn_calls P M A n c x _).mono ?_
  rintro e w1 ⟨rfl, hb1⟩
  go_wp2
  go_ret2
  exact ⟨rfl, below_box hb1⟩
theorem refPowZ_calls (P : Int) (M : Nat) (A : Option Addr) (c : Nat) (mod : List Int) (x n : Int) (w : World) (hn : n ≠ 0) (h0 : inn (ord P M) x = 0) :
    Calls Try.prog 46 #[.agg #[.int .i64 P, .int .i64 M, .slice A mod.length c], .int .i64 x, .int .i64 n] w fun e w' => e = .returned (.tuple #[.int .i64 0, .int .i64 (if n < 0 then 7 else 0)]) ∧ Below w.heap.size w w' := by
  have hu := Try.underlying24
  obtain ⟨nn, HN⟩ : ∃ n, Hid (n = mod.length) := ⟨_, rfl⟩
  rw [← HN.out]
  have H0 := Lib.hid h0
  have hnd : (n == 0) = false := by simpa using hn
  clear h0 hn
  by_cases hlt : n < 0
  all_goals
    go_enter Try.func46, Try.ntmps46
    go_wp2_with fail
    go_at_call 23
    refine (refIn_calls P M A nn c x _).mono ?_
    rw [H0.out]
    rintro e w1 ⟨rfl, hb1⟩
    go_wp2
    go_ret2
    exact ⟨by simp, below_box hb1⟩
set_option maxHeartbeats 1000000 in
theorem refPow_calls (P : Int) (M : Nat) (A : Option Addr) (c : Nat) (mod : List Int) (q : Nat) (ex lg : List Int) (p x n : Int) (w : World) (hr : Rd w A mod) (hm : Made P M mod q p ex lg) (hn : n ≠ 0) (h0 : inn q x ≠ 0) :
    Calls Try.prog 46 #[.agg #[.int .i64 P, .int .i64 M, .slice A mod.length c], .int .i64 x, .int .i64 n] w fun e w' => e = .returned (.tuple #[.int .i64 (El.pow (hm.el x) (n % ((q : Int) - 1)).toNat).1, .int .i64 0]) ∧ Below w.heap.size w w' := by
  have hu := Try.underlying24
  have hq := hm.q256
  obtain ⟨np, HNP⟩ : ∃ np : Nat, Hid ((np : Int) = n % ((q : Int) - 1)) := ⟨(n % ((q : Int) - 1)).toNat, Int.toNat_of_nonneg (Int.emod_nonneg _ (by omega))⟩
  have hnp : (np : Int) < (q : Int) - 1 := by rw [HNP.out]; exact Int.emod_lt_of_pos _ (by omega)
  rw [← HNP.out, Int.toNat_natCast]
  obtain ⟨f, HF⟩ : ∃ f : Nat → Int, Hid (∀ k, f k = (El.pow (hm.el x) k).1) := ⟨_, fun _ => rfl⟩
  rw [← HF.out]
  have HF0 : Hid (f 0 = 1) := by unfold Hid; rw [HF.out]; rfl
  obtain ⟨X, HX⟩ : ∃ X, Hid (X = inn q x) := ⟨_, rfl⟩
  obtain ⟨nn, HN⟩ : ∃ n, Hid (n = mod.length) := ⟨_, rfl⟩
  have HORD := Lib.hid hm.ordq
  have HR := Lib.hid hr
  have HS := Lib.hid hm.shp
  have HST : Hid (∀ k, refMul P M mod (inn (P ^ M) (f k)) (inn (P ^ M) X) = f (k + 1)) := by
    intro k; rw [HF.out, HF.out, HX.out]; exact hm.refstep x k
  have CM : Hid (∀ (W1 : World) (k : Nat), Below w.heap.size w W1 → Calls Try.prog 21 #[.agg #[.int .i64 P, .int .i64 M, .slice A nn c], .int .i64 (f k), .int .i64 X] W1 fun e w' => e = .returned (.int .i64 (f (k + 1))) ∧ Below W1.heap.size W1 w') := by
    intro W1 k h1; rw [← HST.out, HN.out]; exact refMul_calls P M A mod c (f k) X W1 (HR.out.below h1 (Nat.le_refl _)) HS.out
  have CI : Hid (∀ W1 : World, Calls Try.prog 23 #[.agg #[.int .i64 P, .int .i64 M, .slice A nn c], .int .i64 x] W1 fun e w' => e = .returned (.int .i64 X) ∧ Below W1.heap.size W1 w') := by
    intro W1; rw [HX.out, ← HORD.out]; exact refIn_calls P M A nn c x W1
  have CO : Hid (∀ W1 : World, Calls Try.prog 25 #[.agg #[.int .i64 P, .int .i64 M, .slice A nn c]] W1 fun e w' => e = .returned (.int .i64 q) ∧ Below W1.heap.size W1 w') := by
    intro W1; rw [← HORD.out]; exact refOrder_calls P M A nn c W1
  have hXd : (X == 0) = false := by rw [HX.out]; simpa using h0
  have hnd : (n == 0) = false := by simpa using hn
  rw [← HN.out]
  clear hn h0 HF hm hr
  go_enter Try.func46, Try.ntmps46
  go_wp2_with fail
  go_at_call 23
  refine (CI.out _).mono ?_
  rintro e w1 ⟨rfl, hb1⟩
  obtain ⟨x0, x1, x2, _⟩ := box3 hb1
  go_wp2_with fail
  go_at_call 25
  refine (CO.out _).mono ?_
  rintro e w2 ⟨rfl, hb2⟩
  have hb3 := below_step hb1 hb2 hb1.size
  clear x0 x1 x2 hb1 hb2
  obtain ⟨t, HT⟩ : ∃ t, Hid (t = n.tmod ((q : Int) - 1)) := ⟨_, rfl⟩
  have ht1 : -((q : Int) - 1) < t := by rw [HT.out]; exact Int.lt_tmod_of_pos n (by omega)
  have ht2 : t < (q : Int) - 1 := by rw [HT.out]; exact Int.tmod_lt_of_pos n (by omega)
  have e0 : n.tmod ((q : Int) - 1) = t := HT.out.symm
  have e1 : IntKind.i64.wrap (t + ((q : Int) - 1)) = t + ((q : Int) - 1) := IntWalk.i64_in _ (by omega)
  have e2 : IntKind.i64.wrap ((q : Int) - 1) = (q : Int) - 1 := IntWalk.i64_in _ (by omega)
  have e3 : (t + ((q : Int) - 1)).tmod ((q : Int) - 1) = (np : Int) := by rw [HNP.out, HT.out]; exact tmod_fix _ _ (by omega)
  have e4 : ((q : Int) - 1 == 0) = false := by simp; omega
  have e5 : ¬ (q : Int) - 1 = 0 := by omega
  go_wp2
  clear e0 e1 e2 e3 e4 e5 ht1 ht2
  have HQ := Lib.hid hq
  clear hq hXd hnd
  go_loopg [9, 10] np (fun g out i wr => ∃ k : Nat, k ≤ np ∧ g = np - k ∧ out = .int .i64 (f k) ∧ i = .int .i64 k ∧ Below (w.alloc (.cells #[.int .i64 P, .int .i64 M, .slice A nn c] 24)).heap.size (w.alloc (.cells #[.int .i64 P, .int .i64 M, .slice A nn c] 24)) wr)
  case atStart => exact ⟨0, Nat.zero_le _, rfl, by rw [HF0.out], rfl, hb3⟩
  case round =>
    obtain ⟨k, hk, HGQ, rfl, rfl, hb⟩ := hrel
    replace HGQ := Lib.hid HGQ
    clear hb3
    obtain ⟨x0, x1, x2, _⟩ := box3 hb
    by_cases hlt : k < np
    · have hlt' : (k : Int) < (np : Int) := by omega
      go_wp2_with fail
      go_at_call 21
      refine (CM.out _ k (below_box hb)).mono ?_
      rintro e w4 ⟨rfl, hb4⟩
      have HB5 := Lib.hid (below_step hb hb4 hb.size)
      have hqq : (q : Int) ≤ 256 := by have := HQ.out; omega
      clear hb hb4 x0 x1 x2
      go_wp2
      go_roundg (np - (k + 1))
      case rel => exact ⟨k + 1, by omega, rfl, rfl, by go_num, HB5.out⟩
      case measure => have := HGQ.out; omega
    · obtain rfl : k = np := by omega
      have HB5 := Lib.hid hb
      clear hb
      go_wp2
      go_ret2
      exact ⟨rfl, below_box HB5.out⟩

end Go.Proofs.Ytjbfccconjjofaa
