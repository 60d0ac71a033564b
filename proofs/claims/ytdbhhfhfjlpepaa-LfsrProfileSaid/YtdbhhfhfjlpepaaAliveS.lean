/- Chapter 37's example holds. -/
import Derived.Test.YtdbhhfhfjlpepaaLawA
namespace Go.Proofs.Ytdbhhfhfjlpepaa
open Go.RowKit
attribute [local go_sem ↓] Go.wp_at_zero Go.wp_at_succ

theorem shp21 : Shp 2 1 [] where
  prm := ⟨by decide, fun d h1 h2 => by omega⟩
  m1 := by decide
  m8 := by decide
  q := by decide
  one := by decide
  len := by decide
  dig := Dig.nil _
theorem good21 : Good 2 1 [] := ⟨1, rfl, shp21, 2, 1, by decide, by decide, by decide, by
  refine ⟨by decide, ?_, by decide⟩
  have : ∀ j, j < 2 - 1 → ∀ i, i < j → pw (mulS 2 1 (lowOf 1 [])) 1 i ≠ pw (mulS 2 1 (lowOf 1 [])) 1 j := by decide
  exact fun i j h1 h2 => this j h2 i h1⟩
/-- The example's field. -/
def fs21 : FS := ⟨2, 1, [], shp21⟩
theorem eg_c : (fs21.bm [1, 0, 0, 1, 0, 1, 1]).c = [1, 0, 1, 1] := by decide +kernel
theorem eg_l : (fs21.bm [1, 0, 0, 1, 0, 1, 1]).l = 3 := by decide +kernel
theorem eg_p : fs21.prof [1, 0, 0, 1, 0, 1, 1] = [0, 1, 1, 1, 3, 3, 3, 3] := by decide +kernel
theorem fs21_eq (S : FS) (h1 : S.P = 2) (h2 : S.M = 1) (h3 : S.mod = []) : S = fs21 := by
  obtain ⟨P, M, mod, h⟩ := S
  obtain rfl : P = 2 := h1
  obtain rfl : M = 1 := h2
  obtain rfl : mod = [] := h3
  rfl
theorem rd_lit (w : World) (xs : List Int) (hl : xs.length ≤ 1000) : Rd (w.alloc (.cells (ints xs).toArray 3)) (some ⟨w.heap.size, 0, none⟩) xs := by
  refine ⟨by omega, fun _ => ⟨_, rfl, by simp, fun j hj => ?_⟩⟩
  rw [add_plain, World.cell?_alloc_new]
  simp [ints, List.getElem?_eq_getElem hj, List.getD_eq_getElem?_getD]

set_option maxHeartbeats 2000000 in
theorem aliveS_calls (w : World) : Calls Try.prog 13 #[] w fun e w' => e = .returned (.bool true) ∧ Below w.heap.size w w' := by
  go_enter Try.func13, Try.ntmps13
  go_wp2_with fail
  go_at_call 14
  refine (madeS_calls 2 1 none 0 [] _ (Rd.nil _ _) (fun _ => rfl)).mono ?_
  rintro e w1 ⟨hret, hb1⟩
  rcases hret with ⟨rfl, hno⟩ | ⟨g, S, h1, h2, h3, rfl, hf⟩
  · exact absurd ((good_iff 2 1 []).2 good21) hno
  · obtain rfl := fs21_eq S h1 (by omega) h3
    have HF := Lib.hid hf
    have HB1 := Lib.hid hb1
    clear hf hb1 h1 h2 h3
    go_wp2_with fail
    obtain ⟨w2, hw2⟩ : ∃ w2, w2 = w1.alloc (.cells #[.int .i64 1, .int .i64 0, .int .i64 0, .int .i64 1, .int .i64 0, .int .i64 1, .int .i64 1] 3) := ⟨_, rfl⟩
    have HS2 : Hid (Rd w2 (some ⟨w1.heap.size, 0, none⟩) [1, 0, 0, 1, 0, 1, 1]) := by rw [hw2]; exact rd_lit w1 [1, 0, 0, 1, 0, 1, 1] (by simp)
    have hb2 : Below w1.heap.size w1 w2 := by rw [hw2]; exact (Below.refl _ _).alloc (Nat.le_refl _) _
    have HF2 := Lib.hid (HF.out.below hb2)
    have HB2 := Lib.hid (below_step HB1.out hb2 HB1.out.size)
    rw [← hw2]
    clear hw2 hb2
    have CS : Hid (∀ W, Below w2.heap.size w2 W → Calls Try.prog 21 #[.pointer (some ⟨g, 0, none⟩), .slice (some ⟨w1.heap.size, 0, none⟩) 7 7] W fun e w' => ∃ A c, e = .returned (.tuple #[.slice A 4 c, .int .i64 3]) ∧ Rd w' A [1, 0, 1, 1] ∧ Below W.heap.size W w') := by
      intro W hW
      have := shortest_calls g fs21 (some ⟨w1.heap.size, 0, none⟩) 7 [1, 0, 0, 1, 0, 1, 1] W (HF2.out.below hW) (HS2.out.below hW (Nat.le_refl _)) (by simp)
      rw [eg_c, eg_l] at this
      exact this
    have CP : Hid (∀ W, Below w2.heap.size w2 W → Calls Try.prog 24 #[.pointer (some ⟨g, 0, none⟩), .slice (some ⟨w1.heap.size, 0, none⟩) 7 7] W fun e w' => NewL W e w' [0, 1, 1, 1, 3, 3, 3, 3]) := by
      intro W hW
      have := profile_calls g fs21 (some ⟨w1.heap.size, 0, none⟩) 7 [1, 0, 0, 1, 0, 1, 1] W (HF2.out.below hW) (HS2.out.below hW (Nat.le_refl _)) (by simp)
      rw [eg_p] at this
      exact this
    go_at_call 21
    refine (CS.out _ (Below.refl _ _)).mono ?_
    rintro e w3 ⟨A, c, rfl, hr3, hb3⟩
    have HR3 := Lib.hid hr3
    have HB3 := Lib.hid hb3
    clear hr3 hb3
    go_wp2_with fail
    obtain ⟨w4, hw4⟩ : ∃ w4, w4 = w3.alloc (.cells #[.int .i64 1, .int .i64 0, .int .i64 1, .int .i64 1] 3) := ⟨_, rfl⟩
    have HS4 : Hid (Rd w4 (some ⟨w3.heap.size, 0, none⟩) [1, 0, 1, 1]) := by rw [hw4]; exact rd_lit w3 [1, 0, 1, 1] (by simp)
    have HB4 : Hid (Below w3.heap.size w3 w4) := by rw [hw4]; exact (Below.refl _ _).alloc (Nat.le_refl _) _
    rw [← hw4]
    clear hw4
    go_at_call 18
    refine (lawsame_calls A c [1, 0, 1, 1] (some ⟨w3.heap.size, 0, none⟩) 4 [1, 0, 1, 1] w4 (HR3.out.below HB4.out (Nat.le_refl _)) HS4.out rfl (by simp)).mono ?_
    rintro e w5 ⟨rfl, hb5⟩
    have HB5 := Lib.hid (below_step (below_step HB3.out HB4.out HB3.out.size) hb5 (Nat.le_trans HB3.out.size HB4.out.size))
    clear hb5
    go_wp2_with fail
    go_at_call 24
    refine (CP.out _ HB5.out).mono ?_
    rintro e w6 ⟨A6, c6, rfl, hr6, _, _, _, hb6⟩
    have HR6 := Lib.hid hr6
    have HB6 := Lib.hid (below_step HB5.out hb6 HB5.out.size)
    clear hr6 hb6
    go_wp2_with fail
    obtain ⟨w7, hw7⟩ : ∃ w7, w7 = w6.alloc (.cells #[.int .i64 0, .int .i64 1, .int .i64 1, .int .i64 1, .int .i64 3, .int .i64 3, .int .i64 3, .int .i64 3] 3) := ⟨_, rfl⟩
    have HS7 : Hid (Rd w7 (some ⟨w6.heap.size, 0, none⟩) [0, 1, 1, 1, 3, 3, 3, 3]) := by rw [hw7]; exact rd_lit w6 [0, 1, 1, 1, 3, 3, 3, 3] (by simp)
    have HB7 : Hid (Below w6.heap.size w6 w7) := by rw [hw7]; exact (Below.refl _ _).alloc (Nat.le_refl _) _
    rw [← hw7]
    clear hw7
    go_at_call 18
    refine (lawsame_calls A6 c6 [0, 1, 1, 1, 3, 3, 3, 3] (some ⟨w6.heap.size, 0, none⟩) 8 [0, 1, 1, 1, 3, 3, 3, 3] w7 (HR6.out.below HB7.out (Nat.le_refl _)) HS7.out rfl (by simp)).mono ?_
    rintro e w8 ⟨rfl, hb8⟩
    have HB8 := Lib.hid (below_step (below_step HB6.out HB7.out HB6.out.size) hb8 (Nat.le_trans HB6.out.size HB7.out.size))
    clear hb8
    go_wp2
    go_ret
    exact ⟨rfl, below_step HB2.out HB8.out HB2.out.size⟩

end Go.Proofs.Ytdbhhfhfjlpepaa
