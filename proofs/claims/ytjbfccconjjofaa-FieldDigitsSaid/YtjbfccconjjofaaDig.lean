/- The field's digits and what comes back from them; the comparison of two lists. -/
import Derived.Test.YtjbfccconjjofaaLawKit
import Derived.Test.YtjbfccconjjofaaMult
namespace Go.Proofs.Ytjbfccconjjofaa
open Go.RowKit
attribute [local go_sem ↓] Go.wp_at_zero Go.wp_at_succ

theorem keepB0 {W w' : World} {g : Nat} (hg : g < W.heap.size) (h : Below W.heap.size W w') : (∀ o, w'.cell? ⟨g, o, none⟩ = W.cell? ⟨g, o, none⟩) ∧ Below W.heap.size W w' :=
  ⟨fun o => h.cell (p := ⟨g, o, none⟩) hg, h⟩
set_option maxHeartbeats 400000 in
theorem gfDigits_calls (g : Nat) (P : Int) (M : Nat) (mod : List Int) (q : Nat) (ex lg : List Int) (p x : Int) (w : World) (hg : GFat w g P M mod q ex lg) (hm : Made P M mod q p ex lg) :
    Calls Try.prog 35 #[.pointer (some ⟨g, 0, none⟩), .int .i64 x] w fun e w' => ∃ gd, e = .returned (.slice (some ⟨gd, 0, none⟩) M M) ∧ w.heap.size ≤ gd ∧ Own w' gd M (digs M (inn q x) P) ∧ Below w.heap.size w w' := by
  have hu := Try.underlying71
  have hu2 := Try.underlying24
  have hq := hm.q256
  have hp := hm.shp.p2
  have hp2 := hm.shp.p256
  have hm8 := hm.shp.m8
  have HB := Lib.hid (inn_bd (q := (q : Int)) (x := x) (by omega))
  have HQ := Lib.hid hq
  have HG := Lib.hid hg
  have hlt := hg.lt
  obtain ⟨A2, c2, A4, c4, A5, c5, x0, x1, x2, x3, x4, x5, _⟩ := hg.cells
  clear hg hm x2 x3 x4 x5 hq
  go_enter Try.func35, Try.ntmps35
  go_wp2
  go_region_held3 (fun wx => (∀ o, wx.cell? ⟨g, o, none⟩ = w.cell? ⟨g, o, none⟩) ∧ Below w.heap.size w wx)
    (first | (exact keepB hlt (And.right (by assumption)) (by assumption)) | (exact keepB0 hlt (Below.refl _ _).drew))
    (first | (go_at_call 58; refine (gfin_calls g P M mod q ex lg x _ (HG.out.below (And.right (by assumption)))).mono ?_; rintro e w1 ⟨rfl, hb1⟩) | (go_at_call 60; refine (digitsOf_calls _ _ M _ HB.out.1 (by have := HB.out.2; have := HQ.out; omega) hp hp2 (by omega)).mono ?_; rintro e w2 ⟨gd, rfl, hgd, ho, hb2⟩))
  all_goals
    go_wp2
    go_ret
    rename_i hS
    exact ⟨gd, rfl, by have h1 := hb1.size; first | omega | (simp at h1; omega), ho, hS.2⟩

/-- What FromDigits returns. -/
def FromRet (P : Int) (M : Nat) (d : List Int) (e : Ending) : Prop :=
  (d.length ≠ M ∧ e = .returned (.tuple #[.int .i64 0, .int .i64 3])) ∨ (d.length = M ∧ ¬ Dig P d ∧ e = .returned (.tuple #[.int .i64 0, .int .i64 2])) ∨ (d.length = M ∧ Dig P d ∧ e = .returned (.tuple #[.int .i64 (valL P d), .int .i64 0]))
set_option maxHeartbeats 1000000 in
theorem gfFrom_calls (g : Nat) (P : Int) (M : Nat) (mod : List Int) (q : Nat) (ex lg : List Int) (p : Int) (A : Option Addr) (c : Nat) (d : List Int) (w : World) (hg : GFat w g P M mod q ex lg) (hm : Made P M mod q p ex lg) (hr : Rd w A d) :
    Calls Try.prog 36 #[.pointer (some ⟨g, 0, none⟩), .slice A d.length c] w fun e w' => FromRet P M d e ∧ Below w.heap.size w w' := by
  have hu := Try.underlying71
  have hu2 := Try.underlying24
  have HS := Lib.hid hm.shp
  have hp := hm.shp.p2
  have hp2 := hm.shp.p256
  have hm8 := hm.shp.m8
  have HG := Lib.hid hg
  have HR := Lib.hid hr
  have hln := hr.1
  obtain ⟨A2, c2, A4, c4, A5, c5, x0, x1, x2, x3, x4, x5, _⟩ := hg.cells
  clear hg hm hr x2 x3 x4 x5
  obtain ⟨n, HN⟩ : ∃ n, Hid (n = d.length) := ⟨_, rfl⟩
  rw [← HN.out] at hln ⊢
  by_cases hnM : n = M
  rotate_left
  · have hd : ((n : Int) == (M : Int)) = false := by simp; omega
    go_enter Try.func36, Try.ntmps36
    go_wp2
    go_ret2
    exact ⟨.inl ⟨by rw [← HN.out]; exact hnM, rfl⟩, Below.refl _ _⟩
  have HNM := Lib.hid hnM
  subst hnM
  have CV : Hid (∀ W1 : World, Rd W1 A d → Dig P d → Calls Try.prog 61 #[.slice A n c, .int .i64 P] W1 fun e w' => e = .returned (.int .i64 (valL P d)) ∧ Below W1.heap.size W1 w') := by
    intro W1 h1 h2; rw [HN.out]
    exact valueOf_calls P A c d W1 h1 hp hp2 h2 (by rw [← HN.out]; exact HS.out.q) (by rw [← HN.out]; omega)
  go_enter Try.func36, Try.ntmps36
  go_wp2
  go_loopg [18] n (fun g2 i wr => ∃ k : Nat, k ≤ n ∧ g2 = n - k ∧ i = .int .i64 k ∧ Hid (∀ j, j < k → 0 ≤ d.getD j 0 ∧ d.getD j 0 < P) ∧ Below w.heap.size w wr)
  case atStart => exact ⟨0, Nat.zero_le _, rfl, rfl, fun j h => by omega, Below.refl _ _⟩
  case round =>
    obtain ⟨k, hk, HGQ, rfl, HK, hb⟩ := hrel
    replace HGQ := Lib.hid HGQ
    have y0 := (hb.cell (World.block_lt_of_cell? w _ x0)).trans x0
    have y1 := (hb.cell (World.block_lt_of_cell? w _ x1)).trans x1
    by_cases hlt : k < n
    · obtain ⟨ad, rfl, hc⟩ := (HR.out.below hb (Nat.le_refl _)).get k (by rw [← HN.out]; exact hlt)
      obtain ⟨u, HU⟩ : ∃ z, Hid (z = d.getD k 0) := ⟨_, rfl⟩
      rw [← HU.out] at hc
      have HBL := Lib.hid hb
      clear hb x0 x1 y1
      by_cases h1 : u < 0
      · go_wp2
        go_ret2
        exact ⟨.inr (.inl ⟨HN.out.symm, fun h => by have := h k (by rw [← HN.out]; exact hlt); rw [← HU.out] at this; omega, rfl⟩), HBL.out⟩
      · by_cases h2 : P ≤ u
        · go_wp2
          go_ret2
          exact ⟨.inr (.inl ⟨HN.out.symm, fun h => by have := h k (by rw [← HN.out]; exact hlt); rw [← HU.out] at this; omega, rfl⟩), HBL.out⟩
        · have HB2 : Hid (0 ≤ d.getD k 0 ∧ d.getD k 0 < P) := by unfold Hid; rw [← HU.out]; omega
          have hlM : n ≤ 8 := hm8
          go_wp2
          go_roundg (n - (k + 1))
          case measure => have := HGQ.out; omega
          case rel =>
            refine ⟨k + 1, by omega, rfl, by go_num, fun j hj => ?_, HBL.out⟩
            by_cases hjk : j = k
            · rw [hjk]; exact HB2.out
            · exact HK.out j (by omega)
    · obtain rfl : k = n := by omega
      have HBL := Lib.hid hb
      have HD : Hid (Dig P d) := fun j hj => HK.out j (by rw [HN.out]; exact hj)
      clear hb x0 x1 y1
      go_wp2_with fail
      go_at_call 61
      refine (CV.out _ (HR.out.below HBL.out (Nat.le_refl _)) HD.out).mono ?_
      rintro e w3 ⟨rfl, hb3⟩
      go_wp2
      go_ret2
      exact ⟨.inr (.inr ⟨HN.out.symm, HD.out, rfl⟩), below_step HBL.out hb3 HBL.out.size⟩

set_option maxHeartbeats 1000000 in
theorem lawsame_calls (A : Option Addr) (c : Nat) (l : List Int) (B : Option Addr) (d : Nat) (r : List Int) (w : World) (hr : Rd w A l) (hr' : Rd w B r) (he : l = r) (hl : l.length ≤ 1000) :
    Calls Try.prog 37 #[.slice A l.length c, .slice B l.length d] w fun e w' => e = .returned (.bool true) ∧ Below w.heap.size w w' := by
  subst he
  have HR := Lib.hid hr
  have HR' := Lib.hid hr'
  clear hr hr'
  obtain ⟨n, HN⟩ : ∃ n, Hid (n = l.length) := ⟨_, rfl⟩
  rw [← HN.out] at hl ⊢
  go_enter Try.func37, Try.ntmps37
  go_wp2
  go_loopg [13] n (fun g2 i wr => ∃ k : Nat, k ≤ n ∧ g2 = n - k ∧ i = .int .i64 k ∧ Below w.heap.size w wr)
  case atStart => exact ⟨0, Nat.zero_le _, rfl, rfl, Below.refl _ _⟩
  case round =>
    obtain ⟨k, hk, HGQ, rfl, hb⟩ := hrel
    replace HGQ := Lib.hid HGQ
    by_cases hlt : k < n
    · obtain ⟨ad, rfl, hc⟩ := (HR.out.below hb (Nat.le_refl _)).get k (by rw [← HN.out]; exact hlt)
      obtain ⟨ad', rfl, hc'⟩ := (HR'.out.below hb (Nat.le_refl _)).get k (by rw [← HN.out]; exact hlt)
      obtain ⟨u, HU⟩ : ∃ z, Hid (z = l.getD k 0) := ⟨_, rfl⟩
      rw [← HU.out] at hc hc'
      have HBL := Lib.hid hb
      have i0 : (k : Int) < (n : Int) := by omega
      have i1 : (0 : Int) ≤ (k : Int) := by omega
      clear hb
      go_wp2
      go_quiet (fail)
      go_wp2
      go_roundg (n - (k + 1))
      case measure => have := HGQ.out; omega
      case rel => exact ⟨k + 1, by omega, rfl, by go_num, by first | exact HBL.out | exact below_drewN HBL.out _⟩
    · obtain rfl : k = n := by omega
      have HBL := Lib.hid hb
      clear hb
      go_wp2
      go_ret
      exact ⟨rfl, HBL.out⟩

end Go.Proofs.Ytjbfccconjjofaa
