/- Inverses and quotients give back what they are taken of: the walk of the law. -/
import Derived.Test.YtjbfccconjjofaaLawKit
import Derived.Test.YtjbfccconjjofaaGFc
namespace Go.Proofs.Ytjbfccconjjofaa
open Go.RowKit
attribute [local go_sem ↓] Go.wp_at_zero Go.wp_at_succ

set_option maxHeartbeats 2000000 in
theorem lawDivides (P M : Int) (A : Option Addr) (c : Nat) (mod : List Int) (x y : Int) (w : World) (hr : Rd w A mod) (hnil : A = none → c = 0) :
    Calls Try.prog 11 #[.agg #[.int .i64 P, .int .i64 M, .slice A mod.length c], .int .i64 x, .int .i64 y] w fun e w' => e = .returned (.bool true) ∧ Below w.heap.size w w' := by
  have hu := Try.underlying24
  have HR := Lib.hid hr
  have HNIL := Lib.hid hnil
  clear hr hnil
  obtain ⟨n, HN⟩ : ∃ n, Hid (n = mod.length) := ⟨_, rfl⟩
  rw [← HN.out]
  have HMADE : Hid (∀ W1 : World, Rd W1 A mod → Calls Try.prog 18 #[.agg #[.int .i64 P, .int .i64 M, .slice A n c]] W1 fun e w' => MadeRet P M mod W1 e w') := by
    intro W1 h1; rw [HN.out]; exact made_calls P M A c mod W1 h1 HNIL.out
  have HNONE : Hid (∀ W1 : World, Rd W1 A mod → ¬ RefGood P M mod → Calls Try.prog 19 #[.agg #[.int .i64 P, .int .i64 M, .slice A n c]] W1 fun e w' => e = .returned (.bool true) ∧ Below W1.heap.size W1 w') := by
    intro W1 h1 h2; rw [HN.out]; exact none_calls P M A c mod W1 h1 HNIL.out h2
  go_enter Try.func11, Try.ntmps11
  go_wp2_with fail
  go_at_call 17
  refine (alive_calls _).mono ?_
  rintro e w1 ⟨rfl, hb1⟩
  obtain ⟨x0, x1, x2, hs1⟩ := box3 hb1
  go_wp2_with fail
  go_at_call 18
  refine (HMADE.out _ ((HR.out.alloc _).below hb1 (Nat.le_refl _))).mono ?_
  rintro e w2 ⟨hret, hb2⟩
  have hb3 := below_step hb1 hb2 hb1.size
  clear x0 x1 x2 hs1
  obtain ⟨x0, x1, x2, hs1⟩ := box3 hb3
  have HR3 := Lib.hid ((HR.out.alloc _).below hb3 (Nat.le_refl _))
  have HB := Lib.hid (below_box hb3)
  clear hb1 hb2 hb3
  rcases hret with ⟨v, rfl, hno⟩ | ⟨g, m, q, p, ex, lg, rfl, rfl, hg1, hg2, hg3⟩
  · have HNO := Lib.hid hno
    clear hno
    go_wp2_with fail
    go_at_call 19
    refine (HNONE.out _ HR3.out HNO.out).mono ?_
    rintro e w3 ⟨rfl, hb4⟩
    go_wp2
    go_ret
    exact ⟨rfl, below_step HB.out hb4 HB.out.size⟩
  · have HG2 := Lib.hid hg2
    have HG3 := Lib.hid hg3
    clear hg1 hg2 hg3
    have HORD : Hid (ord P m = q) := by
      have h := HG3.out.shp
      unfold Hid
      rw [ord_eq P m h.p2 (by have := h.m1; omega) (by have := h.m8; omega) (by simpa using h.q), HG3.out.hq]; simp
    obtain ⟨X, HX⟩ : ∃ z, Hid (z = inn q x) := ⟨_, rfl⟩
    obtain ⟨Y, HY⟩ : ∃ z, Hid (z = inn q y) := ⟨_, rfl⟩
    have C1 : Hid (∀ W1 : World, Calls Try.prog 23 #[.agg #[.int .i64 P, .int .i64 m, .slice A n c], .int .i64 x] W1 fun e w' => e = .returned (.int .i64 X) ∧ Below W1.heap.size W1 w') := by
      intro W1; rw [HX.out, ← HORD.out]; exact refIn_calls P m A n c x W1
    have C2 : Hid (∀ W1 : World, Calls Try.prog 23 #[.agg #[.int .i64 P, .int .i64 m, .slice A n c], .int .i64 y] W1 fun e w' => e = .returned (.int .i64 Y) ∧ Below W1.heap.size W1 w') := by
      intro W1; rw [HY.out, ← HORD.out]; exact refIn_calls P m A n c y W1
    go_wp2
    go_region_held3 (fun w' => w'.cell? ⟨w.heap.size, 0, none⟩ = some (.int .i64 P) ∧ w'.cell? ⟨w.heap.size, 1, none⟩ = some (.int .i64 m) ∧ w'.cell? ⟨w.heap.size, 2, none⟩ = some (.slice A n c) ∧ Below w2.heap.size w2 w') (first | (exact keepC x0 x1 x2 (by assumption) (by assumption)) | (exact keepS x0 x1 x2 (Below.refl _ _).drew))
      (first | (go_at_call 23; refine (C1.out _).mono ?_; rintro e w3 ⟨rfl, hb4⟩) | (go_at_call 23; refine (C2.out _).mono ?_; rintro e w3 ⟨rfl, hb4⟩))
    rename_i wq hS
    obtain ⟨k0, k1, k2, kb⟩ := hS
    clear x0 x1 x2 hs1
    by_cases hY : Y = 0
    · have HY0 : Hid (inn q y = 0) := by unfold Hid; rw [← HY.out]; exact hY
      subst hY
      go_wp2_with fail
      go_at_call 42
      refine (gfInv0_calls g P m mod q ex lg y _ (HG2.out.below kb) HY0.out).mono ?_
      rintro e w3 ⟨rfl, hb3⟩
      have kb2 := below_step kb hb3 kb.size
      go_wp2_with fail
      go_at_call 43
      refine (gfDiv0_calls g P m mod q ex lg x y _ (HG2.out.below kb2) HY0.out).mono ?_
      rintro e w4 ⟨rfl, hb4⟩
      have kb3 := below_step kb2 hb4 kb2.size
      go_wp2
      go_ret
      exact ⟨rfl, below_step HB.out kb3 HB.out.size⟩
    · have HY0 : Hid (inn q y ≠ 0) := by unfold Hid; rw [← HY.out]; exact hY
      obtain ⟨iv, qu, hi, hj, e1, e2, e3, e4⟩ := HG3.out.divides x y HY0.out
      have HI := Lib.hid hi
      have HJ := Lib.hid hj
      have E1 := Lib.hid e1
      have E2 := Lib.hid e2
      have E3 := Lib.hid e3
      have E4 := Lib.hid e4
      clear hi hj e1 e2 e3 e4
      have hYd : (Y == 0) = false := by simpa using hY
      clear hY
      have CM : Hid (∀ (W1 : World) (u v r : Int), Below w2.heap.size w2 W1 → refMul P m mod (inn (P ^ m) u) (inn (P ^ m) v) = r → Calls Try.prog 21 #[.agg #[.int .i64 P, .int .i64 m, .slice A n c], .int .i64 u, .int .i64 v] W1 fun e w' => e = .returned (.int .i64 r) ∧ Below W1.heap.size W1 w') := by
        intro W1 u v r h1 h2; rw [← h2, HN.out]; exact refMul_calls P m A mod c u v W1 (HR3.out.below h1 (Nat.le_refl _)) HG3.out.shp
      rw [← HX.out, ← HY.out] at E4
      rw [← HY.out] at E3
      go_wp2_with fail
      go_at_call 42
      refine (gfInv_calls g P m mod q ex lg p y _ (HG2.out.below kb) HG3.out HY0.out).mono ?_
      rw [E1.out]
      rintro e w3 ⟨rfl, hb3⟩
      (have hk := keepS k0 k1 k2 hb3; replace kb := below_step kb hb3 kb.size; clear k0 k1 k2 hb3; obtain ⟨k0, k1, k2, _⟩ := hk)
      go_wp2_with fail
      go_at_call 43
      refine (gfDiv_calls g P m mod q ex lg p x y _ (HG2.out.below kb) HG3.out HY0.out).mono ?_
      rw [E1.out, E2.out]
      rintro e w4 ⟨rfl, hb4⟩
      (have hk := keepS k0 k1 k2 hb4; replace kb := below_step kb hb4 kb.size; clear k0 k1 k2 hb4; obtain ⟨k0, k1, k2, _⟩ := hk)
      go_wp2_with fail
      go_at_call 44
      refine (gfIs_calls g P m mod q ex lg iv _ (HG2.out.below kb)).mono ?_
      rintro e w5 ⟨b, rfl, hbb, hb5⟩
      obtain rfl : b = true := hbb.2 HI.out
      clear hbb
      (have hk := keepS k0 k1 k2 hb5; replace kb := below_step kb hb5 kb.size; clear k0 k1 k2 hb5; obtain ⟨k0, k1, k2, _⟩ := hk)
      go_wp2_with fail
      go_at_call 44
      refine (gfIs_calls g P m mod q ex lg qu _ (HG2.out.below kb)).mono ?_
      rintro e w6 ⟨b, rfl, hbb, hb6⟩
      obtain rfl : b = true := hbb.2 HJ.out
      clear hbb
      (have hk := keepS k0 k1 k2 hb6; replace kb := below_step kb hb6 kb.size; clear k0 k1 k2 hb6; obtain ⟨k0, k1, k2, _⟩ := hk)
      go_wp2_with fail
      go_at_call 21
      refine (CM.out _ iv Y 1 kb E3.out).mono ?_
      rintro e w7 ⟨rfl, hb7⟩
      (have hk := keepS k0 k1 k2 hb7; replace kb := below_step kb hb7 kb.size; clear k0 k1 k2 hb7; obtain ⟨k0, k1, k2, _⟩ := hk)
      go_wp2_with fail
      go_at_call 21
      refine (CM.out _ qu Y X kb E4.out).mono ?_
      rintro e w8 ⟨rfl, hb8⟩
      (have hk := keepS k0 k1 k2 hb8; replace kb := below_step kb hb8 kb.size; clear k0 k1 k2 hb8; obtain ⟨k0, k1, k2, _⟩ := hk)
      go_wp2
      go_ret
      exact ⟨by simp, below_step HB.out kb HB.out.size⟩

end Go.Proofs.Ytjbfccconjjofaa
