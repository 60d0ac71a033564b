/- Powers are repeated products: the walk of the law. -/
import Derived.Test.YtjbfccconjjofaaLawKit
import Derived.Test.YtjbfccconjjofaaRefPow
namespace Go.Proofs.Ytjbfccconjjofaa
open Go.RowKit
attribute [local go_sem ↓] Go.wp_at_zero Go.wp_at_succ

set_option maxHeartbeats 2000000 in
theorem lawPowers (P M : Int) (A : Option Addr) (c : Nat) (mod : List Int) (x y : Int) (w : World) (hr : Rd w A mod) (hnil : A = none → c = 0) :
    Calls Try.prog 12 #[.agg #[.int .i64 P, .int .i64 M, .slice A mod.length c], .int .i64 x, .int .i64 y] w fun e w' => e = .returned (.bool true) ∧ Below w.heap.size w w' := by
  have hu := Try.underlying24
  have HR := Lib.hid hr
  have HNIL := Lib.hid hnil
  clear hr hnil
  obtain ⟨n, HN⟩ : ∃ n, Hid (n = mod.length) := ⟨_, rfl⟩
  rw [← HN.out]
  have HMADE : Hid (∀ W1 : World, Rd W1 A mod → Calls Try.prog 18 #[.agg #[.int .i64 P, .int .i64 M, .slice A n c]] W1 fun e w' => MadeRet P M mod W1 e w') := by
    intro W1 h1; rw [HN.out]; exact made_calls P M A c mod W1 h1 HNIL.out
  have HNONE : Hid (∀ W1 : World, Rd W1 A mod → ¬ RefGood P M mod → Calls Try.prog 19 #[.agg #[.int .i64 P, .int .i64 M, .slice A n c]] W1 fun e w' => e = .returned (.bool true) ∧ Below W1.heap.size W1 w') := by
    intro W1 h1 h2; rw [HN.out]; exact none_calls P M A c mod W1 h1 HNIL.out h2
  go_enter Try.func12, Try.ntmps12
  go_wp2_with fail
  go_at_call 17
  refine (alive_calls _).mono ?_
  rintro e w1 ⟨rfl, hb1⟩
  obtain ⟨x0, x1, x2, hs1⟩ := box3 hb1
  go_wp2_with fail
  go_at_call 18
  refine (HMADE.out _ ((HR.out.alloc _).below hb1 (Nat.le_refl _))).mono ?_
  rintro e w2 ⟨hret, hb2⟩
  have hb3 := below_step hb1 hb2 hb1.size
  clear x0 x1 x2 hs1
  obtain ⟨x0, x1, x2, hs1⟩ := box3 hb3
  have HR3 := Lib.hid ((HR.out.alloc _).below hb3 (Nat.le_refl _))
  have HB := Lib.hid (below_box hb3)
  clear hb1 hb2 hb3
  rcases hret with ⟨v, rfl, hno⟩ | ⟨g, m, q, p, ex, lg, rfl, rfl, hg1, hg2, hg3⟩
  · have HNO := Lib.hid hno
    clear hno
    go_wp2_with fail
    go_at_call 19
    refine (HNONE.out _ HR3.out HNO.out).mono ?_
    rintro e w3 ⟨rfl, hb4⟩
    go_wp2
    go_ret
    exact ⟨rfl, below_step HB.out hb4 HB.out.size⟩
  · have HG2 := Lib.hid hg2
    have HG3 := Lib.hid hg3
    clear hg1 hg2 hg3
    obtain ⟨u, v, HC⟩ : ∃ u v : Int, Hid ((∀ W1 : World, Below w2.heap.size w2 W1 → Calls Try.prog 45 #[.pointer (some ⟨g, 0, none⟩), .int .i64 x, .int .i64 y] W1 fun e w' => e = .returned (.tuple #[.int .i64 u, .int .i64 v]) ∧ Below W1.heap.size W1 w') ∧
        (∀ W1 : World, Below w2.heap.size w2 W1 → Calls Try.prog 46 #[.agg #[.int .i64 P, .int .i64 m, .slice A n c], .int .i64 x, .int .i64 y] W1 fun e w' => e = .returned (.tuple #[.int .i64 u, .int .i64 v]) ∧ Below W1.heap.size W1 w')) := by
      rw [HN.out]
      by_cases hy : y = 0
      · subst hy
        exact ⟨1, 0, fun W1 h => gfPow0_calls g P m mod q ex lg x W1 (HG2.out.below h), fun W1 _ => refPow0_calls P m A c mod x W1⟩
      · by_cases hx : inn q x = 0
        · exact ⟨0, if y < 0 then 7 else 0, fun W1 h => gfPowZ_calls g P m mod q ex lg x y W1 (HG2.out.below h) hy hx, fun W1 _ => refPowZ_calls P m A c mod x y W1 hy (by rw [HG3.out.ordq]; exact hx)⟩
        · exact ⟨_, _, fun W1 h => gfPow_calls g P m mod q ex lg p x y W1 (HG2.out.below h) HG3.out hy hx, fun W1 h => refPow_calls P m A c mod q ex lg p x y W1 (HR3.out.below h (Nat.le_refl _)) HG3.out hy hx⟩
    go_wp2_with fail
    go_at_call 45
    refine (HC.out.1 _ (Below.refl _ _)).mono ?_
    rintro e w3 ⟨rfl, hb3⟩
    obtain ⟨k0, k1, k2, kb⟩ := keepS x0 x1 x2 hb3
    clear x0 x1 x2 hb3
    go_wp2_with fail
    go_at_call 46
    refine (HC.out.2 _ kb).mono ?_
    rintro e w4 ⟨rfl, hb4⟩
    (have hk := keepS k0 k1 k2 hb4; replace kb := below_step kb hb4 kb.size; clear k0 k1 k2 hb4; obtain ⟨k0, k1, k2, _⟩ := hk)
    go_wp2
    go_ret
    exact ⟨by simp, below_step HB.out kb HB.out.size⟩

end Go.Proofs.Ytjbfccconjjofaa
