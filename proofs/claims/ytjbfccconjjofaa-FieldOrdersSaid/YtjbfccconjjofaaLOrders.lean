/- The multiplicative order of an element is the least exponent that gives 1: the walk of the law. -/
import Derived.Test.YtjbfccconjjofaaOrd
namespace Go.Proofs.Ytjbfccconjjofaa
open Go.RowKit
attribute [local go_sem ↓] Go.wp_at_zero Go.wp_at_succ

set_option maxHeartbeats 2000000 in
theorem lawOrders (P M : Int) (A : Option Addr) (c : Nat) (mod : List Int) (x : Int) (w : World) (hr : Rd w A mod) (hnil : A = none → c = 0) :
    Calls Try.prog 10 #[.agg #[.int .i64 P, .int .i64 M, .slice A mod.length c], .int .i64 x] w fun e w' => e = .returned (.bool true) ∧ Below w.heap.size w w' := by
  have hu := Try.underlying24
  have HR := Lib.hid hr
  have HNIL := Lib.hid hnil
  clear hr hnil
  obtain ⟨n, HN⟩ : ∃ n, Hid (n = mod.length) := ⟨_, rfl⟩
  rw [← HN.out]
  have HMADE : Hid (∀ W1 : World, Rd W1 A mod → Calls Try.prog 18 #[.agg #[.int .i64 P, .int .i64 M, .slice A n c]] W1 fun e w' => MadeRet P M mod W1 e w') := by
    intro W1 h1; rw [HN.out]; exact made_calls P M A c mod W1 h1 HNIL.out
  have HNONE : Hid (∀ W1 : World, Rd W1 A mod → ¬ RefGood P M mod → Calls Try.prog 19 #[.agg #[.int .i64 P, .int .i64 M, .slice A n c]] W1 fun e w' => e = .returned (.bool true) ∧ Below W1.heap.size W1 w') := by
    intro W1 h1 h2; rw [HN.out]; exact none_calls P M A c mod W1 h1 HNIL.out h2
  go_enter Try.func10, Try.ntmps10
  go_wp2_with fail
  go_at_call 17
  refine (alive_calls _).mono ?_
  rintro e w1 ⟨rfl, hb1⟩
  obtain ⟨x0, x1, x2, hs1⟩ := box3 hb1
  go_wp2_with fail
  go_at_call 18
  refine (HMADE.out _ ((HR.out.alloc _).below hb1 (Nat.le_refl _))).mono ?_
  rintro e w2 ⟨hret, hb2⟩
  have hb3 := below_step hb1 hb2 hb1.size
  clear x0 x1 x2 hs1
  obtain ⟨x0, x1, x2, hs1⟩ := box3 hb3
  have HR3 := Lib.hid ((HR.out.alloc _).below hb3 (Nat.le_refl _))
  have HB := Lib.hid (below_box hb3)
  clear hb1 hb2 hb3
  rcases hret with ⟨v, rfl, hno⟩ | ⟨g, m, q, p, ex, lg, rfl, rfl, hg1, hg2, hg3⟩
  · have HNO := Lib.hid hno
    clear hno
    go_wp2_with fail
    go_at_call 19
    refine (HNONE.out _ HR3.out HNO.out).mono ?_
    rintro e w3 ⟨rfl, hb4⟩
    go_wp2
    go_ret
    exact ⟨rfl, below_step HB.out hb4 HB.out.size⟩
  · have HG2 := Lib.hid hg2
    have HG3 := Lib.hid hg3
    clear hg1 hg2 hg3
    have hq := HG3.out.q256
    by_cases hx : inn q x = 0
    · have HX := Lib.hid hx
      clear hx
      go_wp2_with fail
      go_at_call 33
      refine (gfOrd0_calls g P m mod q ex lg x _ HG2.out HX.out).mono ?_
      rintro e w3 ⟨rfl, hb3⟩
      obtain ⟨k0, k1, k2, kb⟩ := keepS x0 x1 x2 hb3
      clear x0 x1 x2 hb3
      go_wp2_with fail
      go_at_call 40
      refine (refOrd0_calls P m A n c x _ (by rw [HG3.out.ordq]; exact HX.out)).mono ?_
      rintro e w4 ⟨rfl, hb4⟩
      (have hk := keepS k0 k1 k2 hb4; replace kb := below_step kb hb4 kb.size; clear k0 k1 k2 hb4; obtain ⟨k0, k1, k2, _⟩ := hk)
      go_wp2
      go_ret
      exact ⟨rfl, below_step HB.out kb HB.out.size⟩
    · have HX := Lib.hid hx
      clear hx
      obtain ⟨i, hi, hl, ho⟩ := HG3.out.ordOf x HX.out
      have HL := Lib.hid hl
      have HO := Lib.hid ho
      have ho1 := ho.pos
      have hdv : (q - 1) / Nat.gcd (q - 1) i ∣ q - 1 := Nat.div_dvd_of_dvd (Nat.gcd_dvd_left _ _)
      obtain ⟨o, HOE⟩ : ∃ o, Hid (o = (q - 1) / Nat.gcd (q - 1) i) := ⟨_, rfl⟩
      have C1 : Hid (∀ W1 : World, Below w2.heap.size w2 W1 → Calls Try.prog 33 #[.pointer (some ⟨g, 0, none⟩), .int .i64 x] W1 fun e w' => e = .returned (.tuple #[.int .i64 o, .int .i64 0]) ∧ Below W1.heap.size W1 w') := by
        intro W1 h; rw [HOE.out]; exact gfOrd_calls g P m mod q ex lg p x i W1 (HG2.out.below h) HG3.out HX.out hi HL.out
      have C2 : Hid (∀ W1 : World, Below w2.heap.size w2 W1 → Calls Try.prog 40 #[.agg #[.int .i64 P, .int .i64 m, .slice A n c], .int .i64 x] W1 fun e w' => e = .returned (.int .i64 o) ∧ Below W1.heap.size W1 w') := by
        intro W1 h; rw [HOE.out, HN.out]
        exact refOrd_calls P m A c mod q ex lg p x _ W1 (HR3.out.below h (Nat.le_refl _)) HG3.out HX.out HO.out (by have := Nat.div_le_self (q - 1) (Nat.gcd (q - 1) i); omega)
      rw [← HOE.out] at ho1 hdv
      obtain ⟨j, hj⟩ := hdv
      have e3 : ((q : Int) - 1).tmod (o : Int) = 0 := by
        rw [Int.tmod_eq_emod_of_nonneg (by omega), show (q : Int) - 1 = ((q - 1 : Nat) : Int) from by omega, hj]
        simp
      have HJ := Lib.hid hj
      have e2 : IntKind.i64.wrap ((q : Int) - 1) = (q : Int) - 1 := IntWalk.i64_in _ (by omega)
      have hod : ((o : Int) == 0) = false := by simp; omega
      have hon : ¬ (o : Int) = 0 := by omega
      clear hl ho hi hj
      go_wp2_with fail
      go_at_call 33
      refine (C1.out _ (Below.refl _ _)).mono ?_
      rintro e w3 ⟨rfl, hb3⟩
      obtain ⟨k0, k1, k2, kb⟩ := keepS x0 x1 x2 hb3
      clear x0 x1 x2 hb3
      go_wp2_with fail
      go_at_call 40
      refine (C2.out _ kb).mono ?_
      rintro e w4 ⟨rfl, hb4⟩
      (have hk := keepS k0 k1 k2 hb4; replace kb := below_step kb hb4 kb.size; clear k0 k1 k2 hb4; obtain ⟨k0, k1, k2, _⟩ := hk)
      go_wp2_with fail
      go_at_call 41
      refine (gfOrder_calls g P m mod q ex lg _ (HG2.out.below kb)).mono ?_
      rintro e w5 ⟨rfl, hb5⟩
      (have hk := keepS k0 k1 k2 hb5; replace kb := below_step kb hb5 kb.size; clear k0 k1 k2 hb5; obtain ⟨k0, k1, k2, _⟩ := hk)
      go_wp2
      go_ret
      exact ⟨by simp, below_step HB.out kb HB.out.size⟩

end Go.Proofs.Ytjbfccconjjofaa
