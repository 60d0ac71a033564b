/- The field's Check. -/
import Derived.Test.YtjbfccconjjofaaLawKit
import Derived.Test.YtjbfccconjjofaaRefPow
namespace Go.Proofs.Ytjbfccconjjofaa
open Go.RowKit
attribute [local go_sem ↓] Go.wp_at_zero Go.wp_at_succ

set_option maxHeartbeats 2000000 in
theorem check_calls (P M : Int) (A : Option Addr) (c : Nat) (mod : List Int) (w : World) (hr : Rd w A mod) (_hnil : A = none → c = 0) :
    Calls Try.prog 49 #[.agg #[.int .i64 P, .int .i64 M, .slice A mod.length c]] w fun e w' => CheckRet (Good P M mod) w e w' := by
  have hu := Try.underlying24
  have HR := Lib.hid hr
  clear hr
  obtain ⟨n, HN⟩ : ∃ n, Hid (n = mod.length) := ⟨_, rfl⟩
  rw [← HN.out]
  have hnl := fun (w : World) (a : Option Addr) (n c n' c' : Nat) => Lib.run_eql_slice_nil (P := Try.prog) w 22 3 a n c n' c' Try.underlying22
  by_cases hs : ∃ m : Nat, M = m ∧ Shp P m mod
  rotate_left
  · have HS := Lib.hid hs
    have CS : Hid (∀ W1 : World, Below w.heap.size w W1 → Calls Try.prog 65 #[.agg #[.int .i64 P, .int .i64 M, .slice A n c]] W1 fun e w' => e = .returned (.bool false) ∧ Below W1.heap.size W1 w') := by
      intro W1 h1; rw [HN.out]
      exact (shape_calls P M A c mod W1 (HR.out.below h1 (Nat.le_refl _))).mono fun e w' ⟨b, he, hb, hl⟩ => ⟨by rw [he, show b = false from by cases b; rfl; exact absurd (hb.1 rfl) HS.out], hl⟩
    clear hs
    go_enter Try.func49, Try.ntmps49
    go_wp2
    have HB0 : Hid (∀ o : Obj, Below w.heap.size w (w.alloc o)) := fun o => (Below.refl _ _).alloc (Nat.le_refl _) o
    first | (go_region_with (first | (go_at_call 65; refine (CS.out _ (by first | exact HB0.out _ | exact (HB0.out _).drew)).mono ?_; rintro e w1 ⟨rfl, hb1⟩))) | (fail)
    all_goals
      go_wp2
      go_ret
      refine CheckRet.no (fun ⟨m, h1, h2, _⟩ => HS.out ⟨m, h1, h2⟩) ?_
      first | exact below_step (HB0.out _) hb1 (HB0.out _).size | exact below_step (HB0.out _).drew hb1 (HB0.out _).drew.size | exact (below_step (HB0.out _) hb1 (HB0.out _).size).drew | exact (below_step (HB0.out _).drew hb1 (HB0.out _).drew.size).drew | exact below_drewN (below_step (HB0.out _) hb1 (HB0.out _).size) _ | exact below_drewN (below_step (HB0.out _).drew hb1 (HB0.out _).drew.size) _
  obtain ⟨m, rfl, hs⟩ := hs
  have HS := Lib.hid hs
  have CS : Hid (∀ W1 : World, Below w.heap.size w W1 → Calls Try.prog 65 #[.agg #[.int .i64 P, .int .i64 m, .slice A n c]] W1 fun e w' => e = .returned (.bool true) ∧ Below W1.heap.size W1 w') := by
    intro W1 h1; rw [HN.out]
    exact (shape_calls P m A c mod W1 (HR.out.below h1 (Nat.le_refl _))).mono fun e w' ⟨b, he, hb, hl⟩ => ⟨by rw [he, hb.2 ⟨m, rfl, HS.out⟩], hl⟩
  obtain ⟨q, HQ⟩ : ∃ q : Nat, Hid ((q : Int) = P ^ m) := ⟨(P ^ m).toNat, Int.toNat_of_nonneg (by have := pow_ge P HS.out.p2 m; omega)⟩
  have hq2 : (q : Int) ≤ 256 := by rw [HQ.out]; exact HS.out.q
  have CO : Hid (∀ W1 : World, Calls Try.prog 66 #[.int .i64 P, .int .i64 m] W1 fun e w' => e = .returned (.int .i64 q) ∧ Below W1.heap.size W1 w') := by
    intro W1
    have h := order_calls P m W1
    rw [HS.out.ord, ← HQ.out] at h
    exact h
  have CG : Hid (∀ W1 : World, Below w.heap.size w W1 → Calls Try.prog 67 #[.agg #[.int .i64 P, .int .i64 m, .slice A n c], .int .i64 q] W1 fun e w' => GenRet (mulS P m (lowOf m mod)) q W1 e w') := by
    intro W1 h1; rw [HN.out]; exact generator_calls P m A mod c q W1 (HR.out.below h1 (Nat.le_refl _)) HS.out HQ.out
  clear hs
  by_cases hg : ∃ x : Int, 1 ≤ x ∧ x < q ∧ IsGen (mulS P m (lowOf m mod)) q x
  · have HG := Lib.hid hg
    have CG2 : Hid (∀ W1 : World, Below w.heap.size w W1 → Calls Try.prog 67 #[.agg #[.int .i64 P, .int .i64 m, .slice A n c], .int .i64 q] W1 fun e w' => (∃ ge cape, e = .returned (.slice (some ⟨ge, 0, none⟩) (q - 1) cape)) ∧ Below W1.heap.size W1 w') := by
      intro W1 h1
      refine (CG.out W1 h1).mono fun e w' h => ⟨?_, h.2⟩
      rcases h.1 with ⟨_, hno⟩ | ⟨x, ge, cape, _, _, _, he, _⟩
      · obtain ⟨x, h2, h3, h4⟩ := HG.out
        exact absurd h4 (hno x h2 h3)
      · exact ⟨ge, cape, he⟩
    clear hg CG
    go_enter Try.func49, Try.ntmps49
    go_wp2
    go_region_held3 (fun w' => w'.cell? ⟨w.heap.size, 0, none⟩ = some (.int .i64 P) ∧ w'.cell? ⟨w.heap.size, 1, none⟩ = some (.int .i64 m) ∧ w'.cell? ⟨w.heap.size, 2, none⟩ = some (.slice A n c) ∧ Below (w.alloc (.cells #[.int .i64 P, .int .i64 m, .slice A n c] 24)).heap.size (w.alloc (.cells #[.int .i64 P, .int .i64 m, .slice A n c] 24)) w') (first | (exact keep3 (by simp) (by assumption) (by assumption)) | (exact ⟨by simp, by simp, by simp, (Below.refl _ _).drew⟩))
      (first | (go_at_call 65; refine (CS.out _ (below_box (belowS (by assumption)))).mono ?_; rintro e w1 ⟨rfl, hb1⟩) | (go_at_call 66; refine (CO.out _).mono ?_; rintro e w1 ⟨rfl, hb1⟩) | (go_at_call 67; refine (CG2.out _ (below_box (belowS (by assumption)))).mono ?_; rintro e w1 ⟨⟨ge, cape, rfl⟩, hb1⟩))
    all_goals
      go_wp2
      go_ret
      rename_i hS
      exact CheckRet.yes ⟨m, rfl, HS.out, q, by obtain ⟨x, h2, h3, h4⟩ := HG.out; exact ⟨x, HQ.out, h2, h3, h4⟩⟩ (below_box hS.2.2.2)
  · have HG := Lib.hid hg
    have CG2 : Hid (∀ W1 : World, Below w.heap.size w W1 → Calls Try.prog 67 #[.agg #[.int .i64 P, .int .i64 m, .slice A n c], .int .i64 q] W1 fun e w' => e = .returned (.slice none 0 0) ∧ Below W1.heap.size W1 w') := by
      intro W1 h1
      refine (CG.out W1 h1).mono fun e w' h => ⟨?_, h.2⟩
      rcases h.1 with ⟨he, _⟩ | ⟨x, ge, cape, h2, h3, h4, _⟩
      · exact he
      · exact absurd ⟨x, h2, h3, h4⟩ HG.out
    clear hg CG
    go_enter Try.func49, Try.ntmps49
    go_wp2
    go_region_held3 (fun w' => w'.cell? ⟨w.heap.size, 0, none⟩ = some (.int .i64 P) ∧ w'.cell? ⟨w.heap.size, 1, none⟩ = some (.int .i64 m) ∧ w'.cell? ⟨w.heap.size, 2, none⟩ = some (.slice A n c) ∧ Below (w.alloc (.cells #[.int .i64 P, .int .i64 m, .slice A n c] 24)).heap.size (w.alloc (.cells #[.int .i64 P, .int .i64 m, .slice A n c] 24)) w') (first | (exact keep3 (by simp) (by assumption) (by assumption)) | (exact ⟨by simp, by simp, by simp, (Below.refl _ _).drew⟩))
      (first | (go_at_call 65; refine (CS.out _ (below_box (belowS (by assumption)))).mono ?_; rintro e w1 ⟨rfl, hb1⟩) | (go_at_call 66; refine (CO.out _).mono ?_; rintro e w1 ⟨rfl, hb1⟩) | (go_at_call 67; refine (CG2.out _ (below_box (belowS (by assumption)))).mono ?_; rintro e w1 ⟨rfl, hb1⟩))
    all_goals
      go_wp2
      go_ret
      rename_i hS
      refine CheckRet.no ?_ (below_box hS.2.2.2)
      rintro ⟨m', hm', _, q', x, hq', h1, h2, h3⟩
      obtain rfl : m' = m := by omega
      obtain rfl : q' = q := by have := HQ.out; omega
      exact HG.out ⟨x, h1, h2, h3⟩

end Go.Proofs.Ytjbfccconjjofaa
