/- Methods of a field that New has made: Is, in, Mul. -/
import Derived.Test.YtjbfccconjjofaaNew
namespace Go.Proofs.Ytjbfccconjjofaa
open Go.RowKit
attribute [local go_sem ↓] Go.wp_at_zero Go.wp_at_succ

theorem Own.rdTake {w : World} {g cap : Nat} {xs : List Int} (h : Own w g cap xs) (k : Nat) (hk : k ≤ xs.length) (hl : k ≤ 140737488351232) : Rd w (some ⟨g, 0, none⟩) (xs.take k) := by
  refine ⟨by rw [List.length_take]; omega, fun _ => ⟨_, rfl, h.lt, fun j hj => ?_⟩⟩
  rw [List.length_take] at hj
  rw [add_plain, h.cell j (by omega)]
  simp [List.getD_eq_getElem?_getD, show j < k by omega]
theorem Made.q256 {P : Int} {M : Nat} {mod : List Int} {q : Nat} {x : Int} {ex lg : List Int} (h : Made P M mod q x ex lg) : 2 ≤ q ∧ q ≤ 256 := by
  have h1 := h.shp.q
  rw [← h.hq] at h1
  have h2 := h.x1
  have h3 := h.xq
  omega
theorem Made.exl {P : Int} {M : Nat} {mod : List Int} {q : Nat} {x : Int} {ex lg : List Int} (h : Made P M mod q x ex lg) : ex.length = q - 1 := by rw [h.hex, pwL_length]
theorem GFat.cells {w : World} {g : Nat} {P : Int} {M : Nat} {mod : List Int} {q : Nat} {ex lg : List Int} (h : GFat w g P M mod q ex lg) :
    ∃ A2 c2 A4 c4 A5 c5, w.cell? ⟨g, 0, none⟩ = some (.int .i64 P) ∧ w.cell? ⟨g, 1, none⟩ = some (.int .i64 M) ∧ w.cell? ⟨g, 2, none⟩ = some (.slice A2 mod.length c2) ∧ w.cell? ⟨g, 3, none⟩ = some (.int .i64 q) ∧
      w.cell? ⟨g, 4, none⟩ = some (.slice A4 ex.length c4) ∧ w.cell? ⟨g, 5, none⟩ = some (.slice A5 lg.length c5) ∧ Rd w A2 mod ∧ Rd w A4 ex ∧ Rd w A5 lg ∧ (A2 = none → c2 = 0) := by
  obtain ⟨A2, c2, A4, c4, A5, c5, hb, h1, h2, h3, h4⟩ := h
  exact ⟨A2, c2, A4, c4, A5, c5, (cell_of_row w g 0 _ _ _ hb).trans rfl, (cell_of_row w g 1 _ _ _ hb).trans rfl, (cell_of_row w g 2 _ _ _ hb).trans rfl, (cell_of_row w g 3 _ _ _ hb).trans rfl, (cell_of_row w g 4 _ _ _ hb).trans rfl, (cell_of_row w g 5 _ _ _ hb).trans rfl, h1, h2, h3, h4⟩
theorem Rd.get {w : World} {A : Option Addr} {xs : List Int} (h : Rd w A xs) (j : Nat) (hj : j < xs.length) : ∃ ad, A = some ad ∧ w.cell? (ad.add j) = some (.int .i64 (xs.getD j 0)) := by
  obtain ⟨ad, e, _, hc⟩ := h.2 (by omega)
  exact ⟨ad, e, hc j hj⟩

set_option maxHeartbeats 400000 in
theorem gfIs_calls (g : Nat) (P : Int) (M : Nat) (mod : List Int) (q : Nat) (ex lg : List Int) (x : Int) (w : World) (hg : GFat w g P M mod q ex lg) :
    Calls Try.prog 44 #[.pointer (some ⟨g, 0, none⟩), .int .i64 x] w fun e w' => BoolIs (0 ≤ x ∧ x < q) w e w' := by
  have hu := Try.underlying71
  obtain ⟨A2, c2, A4, c4, A5, c5, x0, x1, x2, x3, x4, x5, _⟩ := hg.cells
  clear hg x0 x1 x2 x4 x5
  by_cases hx : 0 ≤ x
  · by_cases hq : x < q
    · go_enter Try.func44, Try.ntmps44
      go_wp2
      go_ret
      exact BoolIs.yes ⟨hx, hq⟩ (Below.refl _ _)
    · go_enter Try.func44, Try.ntmps44
      go_wp2
      go_ret
      exact BoolIs.no (fun h => by omega) (Below.refl _ _)
  · go_enter Try.func44, Try.ntmps44
    go_wp2
    go_ret
    exact BoolIs.no (fun h => by omega) (Below.refl _ _)

set_option maxHeartbeats 400000 in
theorem gfin_calls (g : Nat) (P : Int) (M : Nat) (mod : List Int) (q : Nat) (ex lg : List Int) (x : Int) (w : World) (hg : GFat w g P M mod q ex lg) :
    Calls Try.prog 58 #[.pointer (some ⟨g, 0, none⟩), .int .i64 x] w fun e w' => e = .returned (.int .i64 (inn q x)) ∧ Below w.heap.size w w' := by
  go_enter Try.func58, Try.ntmps58
  go_wp2_with fail
  go_at_call 44
  refine (gfIs_calls g P M mod q ex lg x _ hg).mono ?_
  rintro e w1 ⟨b, rfl, hb, hb1⟩
  have HB := Lib.hid hb
  clear hb hg
  cases b
  · go_wp2
    go_ret
    exact ⟨by rw [inn_no (fun h => absurd (HB.out.2 h) (by simp))]; rfl, hb1⟩
  · go_wp2
    go_ret
    have h := HB.out.1 (by simp)
    exact ⟨by rw [inn_yes h.1 h.2]; rfl, hb1⟩

/-- The product by the logarithms. -/
def gmul (q : Nat) (ex lg : List Int) (x y : Int) : Int := if x = 0 ∨ y = 0 then 0 else ex.getD (((lg.getD x.toNat 0 + lg.getD y.toNat 0) % ((q : Int) - 1)).toNat) 0

set_option maxHeartbeats 1000000 in
theorem gfMul_calls (g : Nat) (P : Int) (M : Nat) (mod : List Int) (q : Nat) (ex lg : List Int) (p x y : Int) (w : World) (hg : GFat w g P M mod q ex lg) (hm : Made P M mod q p ex lg) :
    Calls Try.prog 20 #[.pointer (some ⟨g, 0, none⟩), .int .i64 x, .int .i64 y] w fun e w' => e = .returned (.int .i64 (gmul q ex lg (inn q x) (inn q y))) ∧ Below w.heap.size w w' := by
  have hu := Try.underlying71
  have hq := hm.q256
  have bx := inn_bd (q := (q : Int)) (x := x) (by omega)
  have by_ := inn_bd (q := (q : Int)) (x := y) (by omega)
  obtain ⟨X, HX⟩ : ∃ X : Nat, Hid ((X : Int) = inn q x) := ⟨(inn q x).toNat, Int.toNat_of_nonneg bx.1⟩
  obtain ⟨Y, HY⟩ : ∃ Y : Nat, Hid ((Y : Int) = inn q y) := ⟨(inn q y).toNat, Int.toNat_of_nonneg by_.1⟩
  rw [← HX.out] at bx ⊢
  rw [← HY.out] at by_ ⊢
  have HG := Lib.hid hg
  have HEX := Lib.hid hm.exl
  have HLG := Lib.hid hm.lgl
  have HLB := Lib.hid hm.lgb
  clear hg hm
  obtain ⟨n, HN⟩ : ∃ n, Hid (n = ex.length) := ⟨_, rfl⟩
  obtain ⟨nl, HNL⟩ : ∃ n, Hid (n = lg.length) := ⟨_, rfl⟩
  go_enter Try.func20, Try.ntmps20
  go_wp2_with fail
  go_at_call 58
  refine (gfin_calls g P M mod q ex lg x _ HG.out).mono ?_
  rintro e w1 ⟨rfl, hb1⟩
  rw [← HX.out]
  have HG1 := Lib.hid (HG.out.below hb1)
  go_wp2_with fail
  go_at_call 58
  refine (gfin_calls g P M mod q ex lg y _ HG1.out).mono ?_
  rintro e w2 ⟨rfl, hb2⟩
  rw [← HY.out]
  have HG2 := Lib.hid (HG1.out.below hb2)
  have hb3 := below_step hb1 hb2 hb1.size
  clear hb1 hb2
  by_cases h0 : X = 0
  · subst h0
    go_wp2
    go_ret
    exact ⟨by unfold gmul; rw [if_pos (.inl rfl)]; rfl, hb3⟩
  · by_cases h1 : Y = 0
    · subst h1
      have hX' : ((X : Int) == 0) = false := by simp; omega
      go_wp2
      go_ret
      exact ⟨by unfold gmul; rw [if_pos (.inr rfl)]; rfl, hb3⟩
    · have hX' : ((X : Int) == 0) = false := by simp; omega
      have hY' : ((Y : Int) == 0) = false := by simp; omega
      obtain ⟨A2, c2, A4, c4, A5, c5, x0, x1, x2, x3, x4, x5, r2, r4, r5, _⟩ := HG2.out.cells
      obtain ⟨ad5, rfl, hl1⟩ := r5.get X (by rw [HLG.out]; omega)
      obtain ⟨ad5', e5, hl2⟩ := r5.get Y (by rw [HLG.out]; omega)
      obtain rfl : ad5 = ad5' := by simpa using e5
      obtain ⟨lx, HLX⟩ : ∃ z, Hid (z = lg.getD X 0) := ⟨_, rfl⟩
      obtain ⟨ly, HLY⟩ : ∃ z, Hid (z = lg.getD Y 0) := ⟨_, rfl⟩
      have bl1 := HLB.out X
      have bl2 := HLB.out Y
      rw [← HLX.out] at hl1 bl1
      rw [← HLY.out] at hl2 bl2
      obtain ⟨r, HRR⟩ : ∃ r : Nat, Hid ((r : Int) = (lx + ly) % ((q : Int) - 1)) := ⟨((lx + ly) % ((q : Int) - 1)).toNat, Int.toNat_of_nonneg (Int.emod_nonneg _ (by omega))⟩
      have hr2 : (r : Int) < (q : Int) - 1 := by rw [HRR.out]; exact Int.emod_lt_of_pos _ (by omega)
      obtain ⟨ad4, rfl, hl4⟩ := r4.get r (by rw [HEX.out]; omega)
      obtain ⟨v, HV⟩ : ∃ z, Hid (z = ex.getD r 0) := ⟨_, rfl⟩
      rw [← HV.out] at hl4
      rw [← HN.out] at x4
      rw [← HNL.out] at x5
      have i0 : (r : Int) < (n : Int) := by rw [HN.out, HEX.out]; omega
      have i1 : (X : Int) < (nl : Int) := by rw [HNL.out, HLG.out]; omega
      have i2 : (Y : Int) < (nl : Int) := by rw [HNL.out, HLG.out]; omega
      have i3 : (0 : Int) ≤ (r : Int) := by omega
      have i4 : (0 : Int) ≤ (X : Int) := by omega
      have i5 : (0 : Int) ≤ (Y : Int) := by omega
      have e1 : IntKind.i64.wrap (lx + ly) = lx + ly := IntWalk.i64_in _ (by omega)
      have e2 : IntKind.i64.wrap ((q : Int) - 1) = (q : Int) - 1 := IntWalk.i64_in _ (by omega)
      have e3 : (lx + ly).tmod ((q : Int) - 1) = (r : Int) := by rw [HRR.out]; exact Int.tmod_eq_emod_of_nonneg (by omega)
      have e4 : ((q : Int) - 1 == 0) = false := by simp; omega
      have e5 : ¬ (q : Int) - 1 = 0 := by omega
      clear r2 r4 r5 x0 x1 x2
      go_wp2
      go_quiet (fail)
      clear e1 e2 e3 e4
      go_wp2
      go_ret
      refine ⟨?_, below_drewN hb3 _⟩
      unfold gmul
      rw [if_neg (by omega), Int.toNat_natCast, Int.toNat_natCast, ← HLX.out, ← HLY.out, ← HRR.out, Int.toNat_natCast, ← HV.out]
      rfl

end Go.Proofs.Ytjbfccconjjofaa
