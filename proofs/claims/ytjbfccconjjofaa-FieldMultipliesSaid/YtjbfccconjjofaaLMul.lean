/- Products are those of the polynomials: the walk of the law. -/
import Derived.Test.YtjbfccconjjofaaLawKit
namespace Go.Proofs.Ytjbfccconjjofaa
open Go.RowKit
attribute [local go_sem ↓] Go.wp_at_zero Go.wp_at_succ

set_option maxHeartbeats 1000000 in
theorem lawMultiplies (P M : Int) (A : Option Addr) (c : Nat) (mod : List Int) (x y : Int) (w : World) (hr : Rd w A mod) (hnil : A = none → c = 0) :
    Calls Try.prog 3 #[.agg #[.int .i64 P, .int .i64 M, .slice A mod.length c], .int .i64 x, .int .i64 y] w fun e w' => e = .returned (.bool true) ∧ Below w.heap.size w w' := by
  have hu := Try.underlying24
  have HR := Lib.hid hr
  have HNIL := Lib.hid hnil
  clear hr hnil
  obtain ⟨n, HN⟩ : ∃ n, Hid (n = mod.length) := ⟨_, rfl⟩
  rw [← HN.out]
  have HMADE : Hid (∀ W1 : World, Rd W1 A mod → Calls Try.prog 18 #[.agg #[.int .i64 P, .int .i64 M, .slice A n c]] W1 fun e w' => MadeRet P M mod W1 e w') := by
    intro W1 h1; rw [HN.out]; exact made_calls P M A c mod W1 h1 HNIL.out
  have HNONE : Hid (∀ W1 : World, Rd W1 A mod → ¬ RefGood P M mod → Calls Try.prog 19 #[.agg #[.int .i64 P, .int .i64 M, .slice A n c]] W1 fun e w' => e = .returned (.bool true) ∧ Below W1.heap.size W1 w') := by
    intro W1 h1 h2; rw [HN.out]; exact none_calls P M A c mod W1 h1 HNIL.out h2
  go_enter Try.func3, Try.ntmps3
  go_wp2_with fail
  go_at_call 17
  refine (alive_calls _).mono ?_
  rintro e w1 ⟨rfl, hb1⟩
  obtain ⟨x0, x1, x2, hs1⟩ := box3 hb1
  go_wp2_with fail
  go_at_call 18
  refine (HMADE.out _ ((HR.out.alloc _).below hb1 (Nat.le_refl _))).mono ?_
  rintro e w2 ⟨hret, hb2⟩
  have hb3 := below_step hb1 hb2 hb1.size
  clear x0 x1 x2 hs1
  obtain ⟨x0, x1, x2, hs1⟩ := box3 hb3
  have HR3 := Lib.hid ((HR.out.alloc _).below hb3 (Nat.le_refl _))
  have HB := Lib.hid (below_box hb3)
  clear hb1 hb2 hb3
  rcases hret with ⟨v, rfl, hno⟩ | ⟨g, m, q, p, ex, lg, rfl, rfl, hg1, hg2, hg3⟩
  · have HNO := Lib.hid hno
    clear hno
    go_wp2_with fail
    go_at_call 19
    refine (HNONE.out _ HR3.out HNO.out).mono ?_
    rintro e w3 ⟨rfl, hb4⟩
    go_wp2
    go_ret
    exact ⟨rfl, below_step HB.out hb4 HB.out.size⟩
  · have HG2 := Lib.hid hg2
    have HG3 := Lib.hid hg3
    clear hg1 hg2 hg3
    have HREF : Hid (∀ W1 : World, Rd W1 A mod → Calls Try.prog 21 #[.agg #[.int .i64 P, .int .i64 m, .slice A n c], .int .i64 x, .int .i64 y] W1 fun e w' => e = .returned (.int .i64 (refMul P m mod (inn (P ^ m) x) (inn (P ^ m) y))) ∧ Below W1.heap.size W1 w') := by
      intro W1 h1; rw [HN.out]; exact refMul_calls P m A mod c x y W1 h1 HG3.out.shp
    obtain ⟨z, HZ⟩ : ∃ z, Hid (z = refMul P m mod (inn (P ^ m) x) (inn (P ^ m) y)) := ⟨_, rfl⟩
    have HZ2 : Hid (z = gmul q ex lg (inn q x) (inn q y)) := by unfold Hid; rw [HZ.out, HG3.out.mulr]
    rw [← HZ.out] at HREF
    go_wp2
    go_region_held3 (fun w' => w'.cell? ⟨w.heap.size, 0, none⟩ = some (.int .i64 P) ∧ w'.cell? ⟨w.heap.size, 1, none⟩ = some (.int .i64 m) ∧ w'.cell? ⟨w.heap.size, 2, none⟩ = some (.slice A n c) ∧ Below w2.heap.size w2 w') (first | (exact keepC x0 x1 x2 (by assumption) (by assumption)) | (exact keepS x0 x1 x2 (Below.refl _ _).drew))
      (first | (go_at_call 20; refine (gfMul_calls g P m mod q ex lg p x y _ (HG2.out.below (belowS (by assumption))) HG3.out).mono ?_; rw [← HZ2.out]; rintro e w3 ⟨rfl, hb4⟩) | (go_at_call 21; refine (HREF.out _ (HR3.out.below (belowS (by assumption)) (Nat.le_refl _))).mono ?_; rintro e w4 ⟨rfl, hb5⟩))
    go_wp2
    go_ret
    rename_i hS
    exact ⟨by simp, below_step HB.out hS.2.2.2 HB.out.size⟩

end Go.Proofs.Ytjbfccconjjofaa
