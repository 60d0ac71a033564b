/- The operations of every field are commutative, associative and distributive: the walk of the law. -/
import Derived.Test.YtjbfccconjjofaaLawKit
import Derived.Test.YtjbfccconjjofaaMathH
namespace Go.Proofs.Ytjbfccconjjofaa
open Go.RowKit
attribute [local go_sem ↓] Go.wp_at_zero Go.wp_at_succ

set_option maxHeartbeats 2000000 in
theorem lawAxioms (P M : Int) (A : Option Addr) (c : Nat) (mod : List Int) (x y z : Int) (w : World) (hr : Rd w A mod) (hnil : A = none → c = 0) :
    Calls Try.prog 4 #[.agg #[.int .i64 P, .int .i64 M, .slice A mod.length c], .agg #[.int .i64 x, .int .i64 y, .int .i64 z]] w fun e w' => e = .returned (.bool true) ∧ Below w.heap.size w w' := by
  have hu := Try.underlying24
  have HR := Lib.hid hr
  have HNIL := Lib.hid hnil
  clear hr hnil
  obtain ⟨n, HN⟩ : ∃ n, Hid (n = mod.length) := ⟨_, rfl⟩
  rw [← HN.out]
  have HMADE : Hid (∀ W1 : World, Rd W1 A mod → Calls Try.prog 18 #[.agg #[.int .i64 P, .int .i64 M, .slice A n c]] W1 fun e w' => MadeRet P M mod W1 e w') := by
    intro W1 h1; rw [HN.out]; exact made_calls P M A c mod W1 h1 HNIL.out
  have HNONE : Hid (∀ W1 : World, Rd W1 A mod → ¬ RefGood P M mod → Calls Try.prog 19 #[.agg #[.int .i64 P, .int .i64 M, .slice A n c]] W1 fun e w' => e = .returned (.bool true) ∧ Below W1.heap.size W1 w') := by
    intro W1 h1 h2; rw [HN.out]; exact none_calls P M A c mod W1 h1 HNIL.out h2
  go_enter Try.func4, Try.ntmps4
  go_wp2_with fail
  go_at_call 17
  refine (alive_calls _).mono ?_
  rintro e w1 ⟨rfl, hb1⟩
  have hb0 := below_box hb1
  obtain ⟨k0, k1, k2, _⟩ := box3 hb0
  have hy := box3 hb1
  rw [World.size_alloc] at hy
  obtain ⟨y0, y1, y2, _⟩ := hy
  have kb := below_box hb0
  have HR1 := Lib.hid ((HR.out.alloc _).below hb0 (Nat.le_refl _))
  clear hb1 hb0
  have HBQ := Lib.hid (fun k => below_drewN (Below.refl w1.heap.size w1) k)
  go_wp2
  go_quiet (fail)
  clear y0 y1 y2
  go_wp2_with fail
  go_at_call 18
  refine (HMADE.out _ (HR1.out.below (HBQ.out _) (Nat.le_refl _))).mono ?_
  rintro e w2 ⟨hret, hb2⟩
  replace hb2 := below_step (HBQ.out _) hb2 (HBQ.out _).size
  have HR3 := Lib.hid (HR1.out.below hb2 (Nat.le_refl _))
  (have hk := keepS k0 k1 k2 hb2; replace kb := below_step kb hb2 kb.size; clear k0 k1 k2 hb2; obtain ⟨k0, k1, k2, _⟩ := hk)
  have HB := Lib.hid kb
  rcases hret with ⟨v, rfl, hno⟩ | ⟨g, m, q, p, ex, lg, rfl, rfl, hg1, hg2, hg3⟩
  · have HNO := Lib.hid hno
    clear hno
    go_wp2_with fail
    go_at_call 19
    refine (HNONE.out _ HR3.out HNO.out).mono ?_
    rintro e w3 ⟨rfl, hb4⟩
    go_wp2
    go_ret
    exact ⟨rfl, below_step HB.out hb4 HB.out.size⟩
  · have HG2 := Lib.hid hg2
    have HG3 := Lib.hid hg3
    clear hg1 hg2 hg3
    have HAX := Lib.hid (HG3.out.axi x y z)
    obtain ⟨X, HX⟩ : ∃ z, Hid (z = inn q x) := ⟨_, rfl⟩
    have HORD : Hid (ord P m = q) := by
      have h := HG3.out.shp
      unfold Hid
      rw [ord_eq P m h.p2 (by have := h.m1; omega) (by have := h.m8; omega) (by simpa using h.q), HG3.out.hq]; simp
    obtain ⟨s, t, s3, r, t3, y2, d, k, HE⟩ : ∃ s t s3 r t3 y2 d k : Int, Hid (addS P m (inn q x) (inn q 0) = X ∧ gmul q ex lg (inn q x) (inn q 1) = X ∧ addS P m (inn q x) (inn q y) = s ∧ addS P m (inn q y) (inn q x) = s ∧ gmul q ex lg (inn q x) (inn q y) = t ∧ gmul q ex lg (inn q y) (inn q x) = t ∧
        addS P m (inn q s) (inn q z) = s3 ∧ addS P m (inn q y) (inn q z) = r ∧ addS P m (inn q x) (inn q r) = s3 ∧ gmul q ex lg (inn q t) (inn q z) = t3 ∧ gmul q ex lg (inn q y) (inn q z) = y2 ∧ gmul q ex lg (inn q x) (inn q y2) = t3 ∧
        gmul q ex lg (inn q x) (inn q r) = d ∧ gmul q ex lg (inn q x) (inn q z) = k ∧ addS P m (inn q t) (inn q k) = d) := by
      unfold Hid
      rw [HX.out]
      exact HAX.out
    clear HAX
    obtain ⟨e1, e2, e3, e4, e5, e6, e7, e8, e9, e10, e11, e12, e13, e14, e15⟩ := HE.out
    have E1 := Lib.hid e1
    have E2 := Lib.hid e2
    have E3 := Lib.hid e3
    have E4 := Lib.hid e4
    have E5 := Lib.hid e5
    have E6 := Lib.hid e6
    have E7 := Lib.hid e7
    have E8 := Lib.hid e8
    have E9 := Lib.hid e9
    have E10 := Lib.hid e10
    have E11 := Lib.hid e11
    have E12 := Lib.hid e12
    have E13 := Lib.hid e13
    have E14 := Lib.hid e14
    have E15 := Lib.hid e15
    clear e1 e2 e3 e4 e5 e6 e7 e8 e9 e10 e11 e12 e13 e14 e15 HE
    have CA : Hid (∀ (W1 : World) (u v r : Int), Below w2.heap.size w2 W1 → addS P m (inn q u) (inn q v) = r → Calls Try.prog 22 #[.pointer (some ⟨g, 0, none⟩), .int .i64 u, .int .i64 v] W1 fun e w' => e = .returned (.int .i64 r) ∧ Below W1.heap.size W1 w') := by
      intro W1 u v r h1 h2; rw [← h2]; exact gfAdd_calls g P m mod q ex lg p u v W1 (HG2.out.below h1) HG3.out
    have CM : Hid (∀ (W1 : World) (u v r : Int), Below w2.heap.size w2 W1 → gmul q ex lg (inn q u) (inn q v) = r → Calls Try.prog 20 #[.pointer (some ⟨g, 0, none⟩), .int .i64 u, .int .i64 v] W1 fun e w' => e = .returned (.int .i64 r) ∧ Below W1.heap.size W1 w') := by
      intro W1 u v r h1 h2; rw [← h2]; exact gfMul_calls g P m mod q ex lg p u v W1 (HG2.out.below h1) HG3.out
    have CI : Hid (∀ W1 : World, Calls Try.prog 23 #[.agg #[.int .i64 P, .int .i64 m, .slice A n c], .int .i64 x] W1 fun e w' => e = .returned (.int .i64 X) ∧ Below W1.heap.size W1 w') := by
      intro W1; rw [HX.out, ← HORD.out]; exact refIn_calls P m A n c x W1
    clear kb
    have kb := Below.refl w2.heap.size w2
    go_wp2_with fail
    go_at_call 22
    refine (CA.out _ x 0 X kb E1.out).mono ?_
    rintro e w3 ⟨rfl, hb3⟩
    (have hk := keepS k0 k1 k2 hb3; replace kb := below_step kb hb3 kb.size; clear k0 k1 k2 hb3; obtain ⟨k0, k1, k2, _⟩ := hk)
    go_wp2_with fail
    go_at_call 23
    refine (CI.out _).mono ?_
    rintro e w3 ⟨rfl, hb3⟩
    (have hk := keepS k0 k1 k2 hb3; replace kb := below_step kb hb3 kb.size; clear k0 k1 k2 hb3; obtain ⟨k0, k1, k2, _⟩ := hk)
    go_wp2_with fail
    go_at_call 20
    refine (CM.out _ x 1 X kb E2.out).mono ?_
    rintro e w3 ⟨rfl, hb3⟩
    (have hk := keepS k0 k1 k2 hb3; replace kb := below_step kb hb3 kb.size; clear k0 k1 k2 hb3; obtain ⟨k0, k1, k2, _⟩ := hk)
    go_wp2_with fail
    go_at_call 22
    refine (CA.out _ x y s kb E3.out).mono ?_
    rintro e w3 ⟨rfl, hb3⟩
    (have hk := keepS k0 k1 k2 hb3; replace kb := below_step kb hb3 kb.size; clear k0 k1 k2 hb3; obtain ⟨k0, k1, k2, _⟩ := hk)
    go_wp2_with fail
    go_at_call 22
    refine (CA.out _ y x s kb E4.out).mono ?_
    rintro e w3 ⟨rfl, hb3⟩
    (have hk := keepS k0 k1 k2 hb3; replace kb := below_step kb hb3 kb.size; clear k0 k1 k2 hb3; obtain ⟨k0, k1, k2, _⟩ := hk)
    go_wp2_with fail
    go_at_call 20
    refine (CM.out _ x y t kb E5.out).mono ?_
    rintro e w3 ⟨rfl, hb3⟩
    (have hk := keepS k0 k1 k2 hb3; replace kb := below_step kb hb3 kb.size; clear k0 k1 k2 hb3; obtain ⟨k0, k1, k2, _⟩ := hk)
    go_wp2_with fail
    go_at_call 20
    refine (CM.out _ y x t kb E6.out).mono ?_
    rintro e w3 ⟨rfl, hb3⟩
    (have hk := keepS k0 k1 k2 hb3; replace kb := below_step kb hb3 kb.size; clear k0 k1 k2 hb3; obtain ⟨k0, k1, k2, _⟩ := hk)
    go_wp2_with fail
    go_at_call 22
    refine (CA.out _ x y s kb E3.out).mono ?_
    rintro e w3 ⟨rfl, hb3⟩
    (have hk := keepS k0 k1 k2 hb3; replace kb := below_step kb hb3 kb.size; clear k0 k1 k2 hb3; obtain ⟨k0, k1, k2, _⟩ := hk)
    go_wp2_with fail
    go_at_call 22
    refine (CA.out _ s z s3 kb E7.out).mono ?_
    rintro e w3 ⟨rfl, hb3⟩
    (have hk := keepS k0 k1 k2 hb3; replace kb := below_step kb hb3 kb.size; clear k0 k1 k2 hb3; obtain ⟨k0, k1, k2, _⟩ := hk)
    go_wp2_with fail
    go_at_call 22
    refine (CA.out _ y z r kb E8.out).mono ?_
    rintro e w3 ⟨rfl, hb3⟩
    (have hk := keepS k0 k1 k2 hb3; replace kb := below_step kb hb3 kb.size; clear k0 k1 k2 hb3; obtain ⟨k0, k1, k2, _⟩ := hk)
    go_wp2_with fail
    go_at_call 22
    refine (CA.out _ x r s3 kb E9.out).mono ?_
    rintro e w3 ⟨rfl, hb3⟩
    (have hk := keepS k0 k1 k2 hb3; replace kb := below_step kb hb3 kb.size; clear k0 k1 k2 hb3; obtain ⟨k0, k1, k2, _⟩ := hk)
    go_wp2_with fail
    go_at_call 20
    refine (CM.out _ x y t kb E5.out).mono ?_
    rintro e w3 ⟨rfl, hb3⟩
    (have hk := keepS k0 k1 k2 hb3; replace kb := below_step kb hb3 kb.size; clear k0 k1 k2 hb3; obtain ⟨k0, k1, k2, _⟩ := hk)
    go_wp2_with fail
    go_at_call 20
    refine (CM.out _ t z t3 kb E10.out).mono ?_
    rintro e w3 ⟨rfl, hb3⟩
    (have hk := keepS k0 k1 k2 hb3; replace kb := below_step kb hb3 kb.size; clear k0 k1 k2 hb3; obtain ⟨k0, k1, k2, _⟩ := hk)
    go_wp2_with fail
    go_at_call 20
    refine (CM.out _ y z y2 kb E11.out).mono ?_
    rintro e w3 ⟨rfl, hb3⟩
    (have hk := keepS k0 k1 k2 hb3; replace kb := below_step kb hb3 kb.size; clear k0 k1 k2 hb3; obtain ⟨k0, k1, k2, _⟩ := hk)
    go_wp2_with fail
    go_at_call 20
    refine (CM.out _ x y2 t3 kb E12.out).mono ?_
    rintro e w3 ⟨rfl, hb3⟩
    (have hk := keepS k0 k1 k2 hb3; replace kb := below_step kb hb3 kb.size; clear k0 k1 k2 hb3; obtain ⟨k0, k1, k2, _⟩ := hk)
    go_wp2_with fail
    go_at_call 22
    refine (CA.out _ y z r kb E8.out).mono ?_
    rintro e w3 ⟨rfl, hb3⟩
    (have hk := keepS k0 k1 k2 hb3; replace kb := below_step kb hb3 kb.size; clear k0 k1 k2 hb3; obtain ⟨k0, k1, k2, _⟩ := hk)
    go_wp2_with fail
    go_at_call 20
    refine (CM.out _ x r d kb E13.out).mono ?_
    rintro e w3 ⟨rfl, hb3⟩
    (have hk := keepS k0 k1 k2 hb3; replace kb := below_step kb hb3 kb.size; clear k0 k1 k2 hb3; obtain ⟨k0, k1, k2, _⟩ := hk)
    go_wp2_with fail
    go_at_call 20
    refine (CM.out _ x y t kb E5.out).mono ?_
    rintro e w3 ⟨rfl, hb3⟩
    (have hk := keepS k0 k1 k2 hb3; replace kb := below_step kb hb3 kb.size; clear k0 k1 k2 hb3; obtain ⟨k0, k1, k2, _⟩ := hk)
    go_wp2_with fail
    go_at_call 20
    refine (CM.out _ x z k kb E14.out).mono ?_
    rintro e w3 ⟨rfl, hb3⟩
    (have hk := keepS k0 k1 k2 hb3; replace kb := below_step kb hb3 kb.size; clear k0 k1 k2 hb3; obtain ⟨k0, k1, k2, _⟩ := hk)
    go_wp2_with fail
    go_at_call 22
    refine (CA.out _ t k d kb E15.out).mono ?_
    rintro e w3 ⟨rfl, hb3⟩
    (have hk := keepS k0 k1 k2 hb3; replace kb := below_step kb hb3 kb.size; clear k0 k1 k2 hb3; obtain ⟨k0, k1, k2, _⟩ := hk)
    go_wp2
    go_ret
    exact ⟨by simp, below_step HB.out kb HB.out.size⟩

end Go.Proofs.Ytjbfccconjjofaa
