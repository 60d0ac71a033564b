/- The law's helper alive: the examples hold. -/
import Derived.Test.YtjbfccconjjofaaAlive
namespace Go.Proofs.Ytjbfccconjjofaa
open Go.RowKit
attribute [local go_sem ↓] Go.wp_at_zero Go.wp_at_succ

theorem shp22 : Shp 2 2 [1, 1] where
  prm := ⟨by decide, fun d h1 h2 => by omega⟩
  m1 := by decide
  m8 := by decide
  q := by decide
  one := by decide
  len := by decide
  dig := Dig.cons (by decide) (by decide) (Dig.cons (by decide) (by decide) (Dig.nil _))
theorem shp32 : Shp 3 2 [1, 0] where
  prm := ⟨by decide, fun d h1 h2 => by obtain rfl : d = 2 := by omega
                                       decide⟩
  m1 := by decide
  m8 := by decide
  q := by decide
  one := by decide
  len := by decide
  dig := Dig.cons (by decide) (by decide) (Dig.cons (by decide) (by decide) (Dig.nil _))
theorem good22 : Good 2 2 [1, 1] := ⟨2, rfl, shp22, 4, 2, by decide, by decide, by decide, by
  refine ⟨by decide, ?_, by decide⟩
  have : ∀ j, j < 4 - 1 → ∀ i, i < j → pw (mulS 2 2 (lowOf 2 [1, 1])) 2 i ≠ pw (mulS 2 2 (lowOf 2 [1, 1])) 2 j := by decide
  exact fun i j h1 h2 => this j h2 i h1⟩
theorem good32 : Good 3 2 [1, 0] := ⟨2, rfl, shp32, 9, 4, by decide, by decide, by decide, by
  refine ⟨by decide, ?_, by decide⟩
  have : ∀ j, j < 9 - 1 → ∀ i, i < j → pw (mulS 3 2 (lowOf 2 [1, 0])) 4 i ≠ pw (mulS 3 2 (lowOf 2 [1, 0])) 4 j := by decide
  exact fun i j h1 h2 => this j h2 i h1⟩

theorem rd_two (w : World) (a b : Int) : Rd (w.alloc (.cells #[.int .i64 a, .int .i64 b] 3)) (some ⟨w.heap.size, 0, none⟩) [a, b] := by
  refine ⟨by simp, fun _ => ⟨_, rfl, by simp, fun j hj => ?_⟩⟩
  have h := heap_alloc_new w (.cells #[.int .i64 a, .int .i64 b] 3)
  have hj2 : j = 0 ∨ j = 1 := by simp at hj; omega
  rcases hj2 with rfl | rfl
  · exact (cell_of_row _ _ 0 _ _ _ h).trans rfl
  · exact (cell_of_row _ _ 1 _ _ _ h).trans rfl

set_option maxHeartbeats 1000000 in
theorem alive_calls (w : World) :
    Calls Try.prog 17 #[] w fun e w' => e = .returned (.bool true) ∧ Below w.heap.size w w' := by
  have HNEW : Hid (∀ W1 : World, Calls Try.prog 48 #[.agg #[.int .i64 2, .int .i64 2, .slice (some ⟨W1.heap.size, 0, none⟩) 2 2]] (W1.alloc (.cells #[.int .i64 1, .int .i64 1] 3)) fun e w' => NewRet 2 2 [1, 1] (W1.alloc (.cells #[.int .i64 1, .int .i64 1] 3)) e w') :=
    fun W1 => new_calls 2 2 _ 2 [1, 1] _ (rd_two W1 1 1) (fun h => by simp at h)
  have HNEW2 : Hid (∀ W1 : World, Calls Try.prog 48 #[.agg #[.int .i64 3, .int .i64 2, .slice (some ⟨W1.heap.size, 0, none⟩) 2 2]] (W1.alloc (.cells #[.int .i64 1, .int .i64 0] 3)) fun e w' => NewRet 3 2 [1, 0] (W1.alloc (.cells #[.int .i64 1, .int .i64 0] 3)) e w') :=
    fun W1 => new_calls 3 2 _ 2 [1, 0] _ (rd_two W1 1 0) (fun h => by simp at h)
  go_enter Try.func17, Try.ntmps17
  go_wp2_with fail
  go_at_call 48
  refine (HNEW.out _).mono ?_
  rintro e w1 ⟨hret, hb1⟩
  rcases hret with ⟨rfl, hno⟩ | ⟨g, m, q, x, ex, lg, rfl, hm, hg1, hg2, hg3⟩
  · exact absurd good22 hno
  · obtain rfl : m = 2 := by omega
    have HG2 := Lib.hid hg2
    have HG3 := Lib.hid hg3
    have HB1 := Lib.hid (below_box hb1)
    clear hg1 hg2 hg3 hm
    go_wp2_with fail
    go_at_call 48
    refine (HNEW2.out _).mono ?_
    rintro e w2 ⟨hret, hb2⟩
    rcases hret with ⟨rfl, hno⟩ | ⟨g2, m2, q2, x2, ex2, lg2, rfl, hm, hg1, hg2, hg3⟩
    · exact absurd good32 hno
    · obtain rfl : m2 = 2 := by omega
      have HB2 := Lib.hid (below_step HB1.out (below_box hb2) HB1.out.size)
      have HG1' := Lib.hid (HG2.out.below (below_box hb2))
      clear HG2 HB1 hb1 hb2 hm hg1
      have HG2' := Lib.hid hg2
      have HG3' := Lib.hid hg3
      clear hg2 hg3
      obtain rfl : q = 4 := by have := HG3.out.hq; have e : ((2 : Int) ^ 2) = 4 := by decide
                               omega
      obtain rfl : q2 = 9 := by have := HG3'.out.hq; have e : ((3 : Int) ^ 2) = 9 := by decide
                                omega
      have E1 : Hid (addS 2 2 (inn (4 : Nat) 2) (inn (4 : Nat) 3) = 1) := by unfold Hid; decide
      have E2 : Hid (gmul 4 ex lg (inn (4 : Nat) 2) (inn (4 : Nat) 2) = 3) := by
        unfold Hid; rw [HG3.out.mulr]; decide
      have E3 : Hid (gmul 4 ex lg (inn (4 : Nat) 2) (inn (4 : Nat) 3) = 1) := by
        unfold Hid; rw [HG3.out.mulr]; decide
      have E4 : Hid (gmul 9 ex2 lg2 (inn (9 : Nat) 3) (inn (9 : Nat) 3) = 2) := by
        unfold Hid; rw [HG3'.out.mulr]; decide
      go_wp2_with fail
      go_at_call 22
      refine (gfAdd_calls g 2 2 [1, 1] 4 ex lg x 2 3 _ HG1'.out HG3.out).mono ?_
      rintro e w3 ⟨rfl, hb3⟩
      rw [E1.out]
      have HB3 := Lib.hid (below_step HB2.out hb3 HB2.out.size)
      have HG4 := Lib.hid (HG1'.out.below hb3)
      have HG5 := Lib.hid (HG2'.out.below hb3)
      clear HB2 HG1' HG2' hb3
      go_wp2_with fail
      go_at_call 20
      refine (gfMul_calls g 2 2 [1, 1] 4 ex lg x 2 2 _ HG4.out HG3.out).mono ?_
      rintro e w4 ⟨rfl, hb4⟩
      rw [E2.out]
      have HB4 := Lib.hid (below_step HB3.out hb4 HB3.out.size)
      have HG6 := Lib.hid (HG4.out.below hb4)
      have HG7 := Lib.hid (HG5.out.below hb4)
      clear HB3 HG4 HG5 hb4
      go_wp2_with fail
      go_at_call 20
      refine (gfMul_calls g 2 2 [1, 1] 4 ex lg x 2 3 _ HG6.out HG3.out).mono ?_
      rintro e w5 ⟨rfl, hb5⟩
      rw [E3.out]
      have HB5 := Lib.hid (below_step HB4.out hb5 HB4.out.size)
      have HG8 := Lib.hid (HG7.out.below hb5)
      clear HB4 HG6 HG7 hb5
      go_wp2_with fail
      go_at_call 20
      refine (gfMul_calls g2 3 2 [1, 0] 9 ex2 lg2 x2 3 3 _ HG8.out HG3'.out).mono ?_
      rintro e w6 ⟨rfl, hb6⟩
      rw [E4.out]
      have HB6 := Lib.hid (below_step HB5.out hb6 HB5.out.size)
      clear HB5 HG8 hb6
      go_wp2
      go_ret
      exact ⟨rfl, HB6.out⟩

end Go.Proofs.Ytjbfccconjjofaa
