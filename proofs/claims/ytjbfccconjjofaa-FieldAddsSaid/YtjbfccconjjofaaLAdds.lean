/- Sums, negatives and differences are those of the coefficients: the walk of the law. -/
import Derived.Test.YtjbfccconjjofaaLawKit
namespace Go.Proofs.Ytjbfccconjjofaa
open Go.RowKit
attribute [local go_sem ↓] Go.wp_at_zero Go.wp_at_succ

set_option maxHeartbeats 2000000 in
theorem lawAdds (P M : Int) (A : Option Addr) (c : Nat) (mod : List Int) (x y : Int) (w : World) (hr : Rd w A mod) (hnil : A = none → c = 0) :
    Calls Try.prog 7 #[.agg #[.int .i64 P, .int .i64 M, .slice A mod.length c], .int .i64 x, .int .i64 y] w fun e w' => e = .returned (.bool true) ∧ Below w.heap.size w w' := by
  have hu := Try.underlying24
  have HR := Lib.hid hr
  have HNIL := Lib.hid hnil
  clear hr hnil
  obtain ⟨n, HN⟩ : ∃ n, Hid (n = mod.length) := ⟨_, rfl⟩
  rw [← HN.out]
  have HMADE : Hid (∀ W1 : World, Rd W1 A mod → Calls Try.prog 18 #[.agg #[.int .i64 P, .int .i64 M, .slice A n c]] W1 fun e w' => MadeRet P M mod W1 e w') := by
    intro W1 h1; rw [HN.out]; exact made_calls P M A c mod W1 h1 HNIL.out
  have HNONE : Hid (∀ W1 : World, Rd W1 A mod → ¬ RefGood P M mod → Calls Try.prog 19 #[.agg #[.int .i64 P, .int .i64 M, .slice A n c]] W1 fun e w' => e = .returned (.bool true) ∧ Below W1.heap.size W1 w') := by
    intro W1 h1 h2; rw [HN.out]; exact none_calls P M A c mod W1 h1 HNIL.out h2
  go_enter Try.func7, Try.ntmps7
  go_wp2_with fail
  go_at_call 17
  refine (alive_calls _).mono ?_
  rintro e w1 ⟨rfl, hb1⟩
  obtain ⟨x0, x1, x2, hs1⟩ := box3 hb1
  go_wp2_with fail
  go_at_call 18
  refine (HMADE.out _ ((HR.out.alloc _).below hb1 (Nat.le_refl _))).mono ?_
  rintro e w2 ⟨hret, hb2⟩
  have hb3 := below_step hb1 hb2 hb1.size
  clear x0 x1 x2 hs1
  obtain ⟨x0, x1, x2, hs1⟩ := box3 hb3
  have HR3 := Lib.hid ((HR.out.alloc _).below hb3 (Nat.le_refl _))
  have HB := Lib.hid (below_box hb3)
  clear hb1 hb2 hb3
  rcases hret with ⟨v, rfl, hno⟩ | ⟨g, m, q, p, ex, lg, rfl, rfl, hg1, hg2, hg3⟩
  · have HNO := Lib.hid hno
    clear hno
    go_wp2_with fail
    go_at_call 19
    refine (HNONE.out _ HR3.out HNO.out).mono ?_
    rintro e w3 ⟨rfl, hb4⟩
    go_wp2
    go_ret
    exact ⟨rfl, below_step HB.out hb4 HB.out.size⟩
  · have HG2 := Lib.hid hg2
    have HG3 := Lib.hid hg3
    clear hg1 hg2 hg3
    have hp2 := HG3.out.shp.p256
    have HARGS := Lib.hid (And.intro HG3.out.shp.p2 (And.intro HG3.out.shp.m8 (And.intro HG3.out.shp.q HG3.out.shp.m1)))
    obtain ⟨z1, HZ1⟩ : ∃ z, Hid (z = addS P m (inn (P ^ m) x) (inn (P ^ m) y)) := ⟨_, rfl⟩
    obtain ⟨z2, HZ2⟩ : ∃ z, Hid (z = negS P m (inn (P ^ m) x)) := ⟨_, rfl⟩
    obtain ⟨z3, HZ3⟩ : ∃ z, Hid (z = addS P m (inn (P ^ m) x) (negS P m (inn (P ^ m) y))) := ⟨_, rfl⟩
    have C1 : Hid (∀ W1 : World, Below w2.heap.size w2 W1 → Calls Try.prog 22 #[.pointer (some ⟨g, 0, none⟩), .int .i64 x, .int .i64 y] W1 fun e w' => e = .returned (.int .i64 z1) ∧ Below W1.heap.size W1 w') := by
      intro W1 h; rw [HZ1.out, ← HG3.out.hq]; exact gfAdd_calls g P m mod q ex lg p x y W1 (HG2.out.below h) HG3.out
    have C2 : Hid (∀ W1 : World, Below w2.heap.size w2 W1 → Calls Try.prog 29 #[.pointer (some ⟨g, 0, none⟩), .int .i64 x] W1 fun e w' => e = .returned (.int .i64 z2) ∧ Below W1.heap.size W1 w') := by
      intro W1 h; rw [HZ2.out, ← HG3.out.hq]; exact gfNeg_calls g P m mod q ex lg p x W1 (HG2.out.below h) HG3.out
    have C3 : Hid (∀ W1 : World, Below w2.heap.size w2 W1 → Calls Try.prog 31 #[.pointer (some ⟨g, 0, none⟩), .int .i64 x, .int .i64 y] W1 fun e w' => e = .returned (.int .i64 z3) ∧ Below W1.heap.size W1 w') := by
      intro W1 h; rw [HZ3.out, ← HG3.out.hq]; exact gfSub_calls g P m mod q ex lg p x y W1 (HG2.out.below h) HG3.out
    have D1 : Hid (∀ W1 : World, Calls Try.prog 28 #[.agg #[.int .i64 P, .int .i64 m, .slice A n c], .int .i64 x, .int .i64 y] W1 fun e w' => e = .returned (.int .i64 z1) ∧ Below W1.heap.size W1 w') := by
      intro W1; rw [HZ1.out]; exact refAdd_calls P m A n c x y W1 HARGS.out.1 hp2 HARGS.out.2.1 HARGS.out.2.2.1 HARGS.out.2.2.2
    have D2 : Hid (∀ W1 : World, Calls Try.prog 30 #[.agg #[.int .i64 P, .int .i64 m, .slice A n c], .int .i64 x] W1 fun e w' => e = .returned (.int .i64 z2) ∧ Below W1.heap.size W1 w') := by
      intro W1; rw [HZ2.out]; exact refNeg_calls P m A n c x W1 HARGS.out.1 hp2 HARGS.out.2.1 HARGS.out.2.2.1 HARGS.out.2.2.2
    have D3 : Hid (∀ W1 : World, Calls Try.prog 32 #[.agg #[.int .i64 P, .int .i64 m, .slice A n c], .int .i64 x, .int .i64 y] W1 fun e w' => e = .returned (.int .i64 z3) ∧ Below W1.heap.size W1 w') := by
      intro W1; rw [HZ3.out]; exact refSub_calls P m A n c x y W1 HARGS.out.1 hp2 HARGS.out.2.1 HARGS.out.2.2.1 HARGS.out.2.2.2
    clear hp2
    go_wp2
    go_region_held3 (fun w' => w'.cell? ⟨w.heap.size, 0, none⟩ = some (.int .i64 P) ∧ w'.cell? ⟨w.heap.size, 1, none⟩ = some (.int .i64 m) ∧ w'.cell? ⟨w.heap.size, 2, none⟩ = some (.slice A n c) ∧ Below w2.heap.size w2 w') (first | (exact keepC x0 x1 x2 (by assumption) (by assumption)) | (exact keepS x0 x1 x2 (Below.refl _ _).drew))
      (first | (go_at_call 22; refine (C1.out _ (belowS (by assumption))).mono ?_; rintro e w3 ⟨rfl, hb4⟩) | (go_at_call 29; refine (C2.out _ (belowS (by assumption))).mono ?_; rintro e w3 ⟨rfl, hb4⟩) | (go_at_call 31; refine (C3.out _ (belowS (by assumption))).mono ?_; rintro e w3 ⟨rfl, hb4⟩) | (go_at_call 28; refine (D1.out _).mono ?_; rintro e w3 ⟨rfl, hb4⟩) | (go_at_call 30; refine (D2.out _).mono ?_; rintro e w3 ⟨rfl, hb4⟩) | (go_at_call 32; refine (D3.out _).mono ?_; rintro e w3 ⟨rfl, hb4⟩))
    go_wp2
    go_ret
    rename_i hS
    exact ⟨by simp, below_step HB.out hS.2.2.2 HB.out.size⟩

end Go.Proofs.Ytjbfccconjjofaa
