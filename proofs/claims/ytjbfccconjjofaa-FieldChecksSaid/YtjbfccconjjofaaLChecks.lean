/- Check accepts exactly the descriptions of fields, and the field tells its description: the walk of the law. -/
import Derived.Test.YtjbfccconjjofaaChk
import Derived.Test.YtjbfccconjjofaaFld
import Derived.Test.YtjbfccconjjofaaOrd
import Derived.Test.YtjbfccconjjofaaLSame
namespace Go.Proofs.Ytjbfccconjjofaa
open Go.RowKit
attribute [local go_sem ↓] Go.wp_at_zero Go.wp_at_succ

set_option maxHeartbeats 4000000 in
theorem lawChecks (P M : Int) (A : Option Addr) (c : Nat) (mod : List Int) (x : Int) (w : World) (hr : Rd w A mod) (hnil : A = none → c = 0) :
    Calls Try.prog 14 #[.agg #[.int .i64 P, .int .i64 M, .slice A mod.length c], .int .i64 x] w fun e w' => e = .returned (.bool true) ∧ Below w.heap.size w w' := by
  have hu := Try.underlying24
  have HR := Lib.hid hr
  have HNIL := Lib.hid hnil
  clear hr hnil
  obtain ⟨n, HN⟩ : ∃ n, Hid (n = mod.length) := ⟨_, rfl⟩
  rw [← HN.out]
  have C1 : Hid (∀ W1 : World, Below w.heap.size w W1 → Calls Try.prog 48 #[.agg #[.int .i64 P, .int .i64 M, .slice A n c]] W1 fun e w' => NewRet P M mod W1 e w') := by
    intro W1 h1; rw [HN.out]; exact new_calls P M A c mod W1 (HR.out.below h1 (Nat.le_refl _)) HNIL.out
  have C2 : Hid (∀ W1 : World, Below w.heap.size w W1 → Calls Try.prog 47 #[.agg #[.int .i64 P, .int .i64 M, .slice A n c]] W1 fun e w' => CheckRet (RefGood P M mod) W1 e w') := by
    intro W1 h1; rw [HN.out]; exact refCheck_calls P M A c mod W1 (HR.out.below h1 (Nat.le_refl _)) HNIL.out
  have C3 : Hid (∀ W1 : World, Below w.heap.size w W1 → Calls Try.prog 49 #[.agg #[.int .i64 P, .int .i64 M, .slice A n c]] W1 fun e w' => CheckRet (Good P M mod) W1 e w') := by
    intro W1 h1; rw [HN.out]; exact check_calls P M A c mod W1 (HR.out.below h1 (Nat.le_refl _)) HNIL.out
  go_enter Try.func14, Try.ntmps14
  go_wp2_with fail
  go_at_call 17
  refine (alive_calls _).mono ?_
  rintro e w1 ⟨rfl, hb1⟩
  obtain ⟨k0, k1, k2, _⟩ := box3 hb1
  have kb := below_box hb1
  clear hb1
  go_wp2_with fail
  go_at_call 47
  refine (C2.out _ kb).mono ?_
  rintro e w2 ⟨k, rfl, hk, hb2⟩
  (have hk := keepS k0 k1 k2 hb2; replace kb := below_step kb hb2 kb.size; clear k0 k1 k2 hb2; obtain ⟨k0, k1, k2, _⟩ := hk)
  have HKK := Lib.hid hk
  clear hk
  by_cases hgood : Good P M mod
  rotate_left
  · have HNG := Lib.hid hgood
    clear hgood
    obtain rfl : k = 1 := by
      rcases HKK.out with ⟨_, h⟩ | ⟨h, _⟩
      · exact absurd ((good_iff P M mod).1 h) HNG.out
      · exact h
    go_wp2_with fail
    go_at_call 48
    refine (C1.out _ kb).mono ?_
    rintro e w3 ⟨hret, hb3⟩
    rcases hret with ⟨rfl, _⟩ | ⟨g, m, q, p, ex, lg, rfl, rfl, hg1, hg2, hg3⟩
    rotate_left
    · exact absurd hg3.good HNG.out
    (have hk := keepS k0 k1 k2 hb3; replace kb := below_step kb hb3 kb.size; clear k0 k1 k2 hb3; obtain ⟨k0, k1, k2, _⟩ := hk)
    go_wp2_with fail
    go_at_call 49
    refine (C3.out _ kb).mono ?_
    rintro e w4 ⟨k', rfl, hk', hb4⟩
    obtain rfl : k' = 1 := by
      rcases hk' with ⟨_, h⟩ | ⟨h, _⟩
      · exact absurd h HNG.out
      · exact h
    clear hk'
    (have hk := keepS k0 k1 k2 hb4; replace kb := below_step kb hb4 kb.size; clear k0 k1 k2 hb4; obtain ⟨k0, k1, k2, _⟩ := hk)
    go_wp2
    go_ret
    exact ⟨by first | rfl | simp, kb⟩
  have HG := Lib.hid hgood
  clear hgood
  obtain rfl : k = 0 := by
    rcases HKK.out with ⟨h, _⟩ | ⟨_, h⟩
    · exact h
    · exact absurd ((good_iff P M mod).2 HG.out) h
  go_wp2_with fail
  go_at_call 48
  refine (C1.out _ kb).mono ?_
  rintro e w3 ⟨hret, hb3⟩
  rcases hret with ⟨_, hno⟩ | ⟨g, m, q, p, ex, lg, rfl, rfl, hg1, hg2, hg3⟩
  · exact absurd HG.out hno
  have HG2 := Lib.hid hg2
  have HG3 := Lib.hid hg3
  clear hg1 hg2 hg3
  (have hk := keepS k0 k1 k2 hb3; replace kb := below_step kb hb3 kb.size; clear k0 k1 k2 hb3; obtain ⟨k0, k1, k2, _⟩ := hk)
  go_wp2_with fail
  go_at_call 49
  refine (C3.out _ kb).mono ?_
  rintro e w4 ⟨k', rfl, hk', hb4⟩
  obtain rfl : k' = 0 := by
    rcases hk' with ⟨h, _⟩ | ⟨_, h⟩
    · exact h
    · exact absurd HG.out h
  have HG4 := Lib.hid (HG2.out.below hb4)
  clear hk'
  (have hk := keepS k0 k1 k2 hb4; replace kb := below_step kb hb4 kb.size; clear k0 k1 k2 hb4; obtain ⟨k0, k1, k2, _⟩ := hk)
  have HKB := Lib.hid kb
  clear kb
  obtain ⟨b0, HB0⟩ := boolEx (0 ≤ x ∧ x < q)
  have HORD := Lib.hid HG3.out.ordq
  have D1 : Hid (∀ W1 : World, Below w4.heap.size w4 W1 → Calls Try.prog 50 #[.pointer (some ⟨g, 0, none⟩)] W1 fun e w' => ∃ b' c', e = .returned (.agg #[.int .i64 P, .int .i64 m, .slice (some ⟨b', 0, none⟩) n c']) ∧ Own w' b' c' mod ∧ Below W1.heap.size W1 w') := by
    intro W1 h; rw [HN.out]; exact gfField_calls g P m mod q ex lg p W1 (HG4.out.below h) HG3.out
  have D2 : Hid (∀ (W1 : World) (b' c' : Nat), Below w4.heap.size w4 W1 → Own W1 b' c' mod → Calls Try.prog 26 #[.agg #[.int .i64 P, .int .i64 m, .slice (some ⟨b', 0, none⟩) n c'], .agg #[.int .i64 P, .int .i64 m, .slice A n c]] W1 fun e w' => e = .returned (.bool true) ∧ Below W1.heap.size W1 w') := by
    intro W1 b' c' h h2; rw [HN.out]
    exact (same_calls P m (some ⟨b', 0, none⟩) c' mod P m A c mod W1 (h2.rd (by have := HG3.out.shp.modLen; omega)) (HR.out.below (below_step HKB.out h HKB.out.size) (Nat.le_refl _))).mono fun e w' ⟨b, he, hb, hl⟩ => ⟨by rw [he, hb.2 ⟨rfl, rfl, rfl⟩], hl⟩
  have D3 : Hid (∀ (W1 : World) (b' c' : Nat), Below w4.heap.size w4 W1 → Own W1 b' c' mod → Calls Try.prog 27 #[.agg #[.int .i64 P, .int .i64 m, .slice (some ⟨b', 0, none⟩) n c'], .agg #[.int .i64 P, .int .i64 m, .slice A n c]] W1 fun e w' => e = .returned (.bool true) ∧ Below W1.heap.size W1 w') := by
    intro W1 b' c' h h2; rw [HN.out]
    exact (refSame_calls P m (some ⟨b', 0, none⟩) c' mod P m A c mod W1 (h2.rd (by have := HG3.out.shp.modLen; omega)) (HR.out.below (below_step HKB.out h HKB.out.size) (Nat.le_refl _))).mono fun e w' ⟨b, he, hb, hl⟩ => ⟨by rw [he, hb.2 ⟨rfl, rfl, rfl⟩], hl⟩
  have D4 : Hid (∀ W1 : World, Below w4.heap.size w4 W1 → Calls Try.prog 41 #[.pointer (some ⟨g, 0, none⟩)] W1 fun e w' => e = .returned (.int .i64 q) ∧ Below W1.heap.size W1 w') := by
    intro W1 h; exact gfOrder_calls g P m mod q ex lg W1 (HG4.out.below h)
  have D5 : Hid (∀ W1 : World, Calls Try.prog 25 #[.agg #[.int .i64 P, .int .i64 m, .slice A n c]] W1 fun e w' => e = .returned (.int .i64 q) ∧ Below W1.heap.size W1 w') := by
    intro W1; rw [← HORD.out]; exact refOrder_calls P m A n c W1
  have D6 : Hid (∀ W1 : World, Below w4.heap.size w4 W1 → Calls Try.prog 44 #[.pointer (some ⟨g, 0, none⟩), .int .i64 x] W1 fun e w' => e = .returned (.bool b0) ∧ Below W1.heap.size W1 w') := by
    intro W1 h
    exact (gfIs_calls g P m mod q ex lg x W1 (HG4.out.below h)).mono fun e w' ⟨b, he, hb, hl⟩ => ⟨by rw [he, boolOf hb HB0.out], hl⟩
  have D7 : Hid (∀ W1 : World, Calls Try.prog 51 #[.agg #[.int .i64 P, .int .i64 m, .slice A n c], .int .i64 x] W1 fun e w' => e = .returned (.bool b0) ∧ Below W1.heap.size W1 w') := by
    intro W1
    refine (refIs_calls P m A n c x W1).mono fun e w' ⟨b, he, hb, hl⟩ => ⟨?_, hl⟩
    rw [HORD.out] at hb
    rw [he, boolOf hb HB0.out]
  clear HB0
  cases b0
  all_goals
    go_wp2
    go_region_held3 (fun wx => wx.cell? ⟨w.heap.size, 0, none⟩ = some (.int .i64 P) ∧ wx.cell? ⟨w.heap.size, 1, none⟩ = some (.int .i64 m) ∧ wx.cell? ⟨w.heap.size, 2, none⟩ = some (.slice A n c) ∧ Below w4.heap.size w4 wx)
      (first | (exact keepC k0 k1 k2 (by assumption) (by assumption)) | (exact keepS k0 k1 k2 (Below.refl _ _).drew))
      (first | (go_at_call 50; refine (D1.out _ (belowS (by assumption))).mono ?_; rintro e w5 ⟨b', c', rfl, ho, hb5⟩) | (go_at_call 26; refine (D2.out _ _ _ (belowS (by assumption)) (by first | assumption | exact Own.drew (by assumption))).mono ?_; rintro e w6 ⟨rfl, hb6⟩) | (go_at_call 27; refine (D3.out _ _ _ (belowS (by assumption)) (by first | assumption | exact Own.drew (by assumption))).mono ?_; rintro e w6 ⟨rfl, hb6⟩) | (go_at_call 41; refine (D4.out _ (belowS (by assumption))).mono ?_; rintro e w6 ⟨rfl, hb6⟩) | (go_at_call 25; refine (D5.out _).mono ?_; rintro e w6 ⟨rfl, hb6⟩) | (go_at_call 44; refine (D6.out _ (belowS (by assumption))).mono ?_; rintro e w6 ⟨rfl, hb6⟩) | (go_at_call 51; refine (D7.out _).mono ?_; rintro e w6 ⟨rfl, hb6⟩))
    go_wp2
    go_ret
    rename_i hS
    exact ⟨by first | rfl | simp, below_step HKB.out hS.2.2.2 HKB.out.size⟩

end Go.Proofs.Ytjbfccconjjofaa
