/- The reference's Value, Is, In, Digits. -/
import Derived.Test.YtjbfccconjjofaaRefA
import Derived.Deep.RegionHeld3
import Derived.Deep.DrawnRows
import Derived.Deep.QuietTactic
import Derived.BigQuiet
namespace Go.Proofs.Ytjbfccconjjofaa
open Go.RowKit
attribute [local go_sem ↓] Go.wp_at_zero Go.wp_at_succ

theorem valL_small (p : Int) (hp : 2 ≤ p) (d : List Int) (h : Dig p d) (hq : p ^ d.length ≤ 256) (k : Nat) : 0 ≤ valL p (d.drop k) ∧ valL p (d.drop k) ≤ 255 := by
  have h1 := valL_bd p hp (d.drop k) (h.drop k)
  have h2 := pow_mono p (by omega) (d.drop k).length d.length (by simp)
  omega

set_option maxHeartbeats 400000 in
theorem refValue_calls (P M : Int) (A0 : Option Addr) (n0 c0 : Nat) (A : Option Addr) (c : Nat) (d : List Int) (w : World) (hr : Rd w A d)
    (hp : 2 ≤ P) (hp2 : P ≤ 256) (hd : Dig P d) (hq : P ^ d.length ≤ 256) (hlen : d.length ≤ 100) :
    Calls Try.prog 39 #[.agg #[.int .i64 P, .int .i64 M, .slice A0 n0 c0], .slice A d.length c] w fun e w' => e = .returned (.int .i64 (valL P d)) ∧ Below w.heap.size w w' := by
  have hu := Try.underlying24
  have HR := Lib.hid hr
  have HD := Lib.hid hd
  have HQ := Lib.hid hq
  clear hr hd hq
  obtain ⟨n, hn⟩ : ∃ n, n = d.length := ⟨_, rfl⟩
  rw [← hn] at hlen ⊢
  have HN := Lib.hid hn
  clear hn
  go_enter Try.func39, Try.ntmps39
  go_wp2
  go_loopw [5, 6] (fun x i wr => ∃ (j y : Int), -1 ≤ j ∧ j < n ∧ i = .int .i64 j ∧ x = .int .i64 y ∧ 0 ≤ y ∧ y ≤ 255 ∧ Hid (y = valL P (d.drop (j + 1).toNat)) ∧ Below (w.heap.size + 1) (w.alloc (.cells #[.int .i64 P, .int .i64 M, .slice A0 n0 c0] 24)) wr) (fun _ i _ => (intOf i + 1).toNat)
  case atStart => exact ⟨n - 1, 0, by omega, by omega, rfl, rfl, by omega, by omega, by unfold Hid; rw [show ((n : Int) - 1 + 1).toNat = n from by omega, HN.out]; simp [valL], Below.refl _ _⟩
  case round =>
    obtain ⟨j, y, hj1, hj2, rfl, rfl, hy1, hy2, HY, hb⟩ := hrel
    by_cases hlt : 0 ≤ j
    · obtain ⟨t, rfl⟩ := Int.eq_ofNat_of_zero_le hlt
      obtain ⟨ad, rfl, hl, hc⟩ := ((HR.out.alloc _).below hb (by simp)).2 (by have := HN.out; omega)
      have hcc := hc t (by have := HN.out; omega)
      clear hc
      have hx0 := (hb.cell (p := ⟨w.heap.size, 0, none⟩) (by simp))
      have hdg := HD.out t (by have := HN.out; omega)
      obtain ⟨u, hu⟩ : ∃ u, u = d.getD t 0 := ⟨_, rfl⟩
      rw [← hu] at hcc hdg
      have HU := Lib.hid hu
      clear hu
      have hm1 : y * P ≤ 255 * 256 := Int.mul_le_mul hy2 hp2 (by omega) (by omega)
      have hm0 : 0 ≤ y * P := Int.mul_nonneg hy1 (by omega)
      go_wp2
      go_quiet (fail)
      go_wp2
      go_roundw
      case rel =>
        have e : y * P + u = valL P (d.drop t) := by rw [HY.out, HU.out]; exact (valL_drop P d t (by have := HN.out; omega)).symm
        have hs := valL_small P hp d HD.out HQ.out t
        exact ⟨t - 1, y * P + u, by omega, by omega, by go_num, rfl, by omega, by omega, by unfold Hid; rw [e]; congr 2; omega, below_drewN hb _⟩
      case measure => simp [intOf]
    · obtain rfl : j = -1 := by omega
      go_wp2
      go_ret
      exact ⟨by have := HY.out; rw [show ((-1 : Int) + 1).toNat = 0 from rfl, List.drop_zero] at this; rw [← this]; rfl, ((Below.refl _ _).alloc (Nat.le_refl _) _).trans (hb.mono (by omega))⟩

set_option maxHeartbeats 400000 in
theorem refIs_calls (P M : Int) (A : Option Addr) (n c : Nat) (x : Int) (w : World) :
    Calls Try.prog 51 #[.agg #[.int .i64 P, .int .i64 M, .slice A n c], .int .i64 x] w fun e w' => BoolIs (0 ≤ x ∧ x < ord P M) w e w' := by
  have hu := Try.underlying24
  by_cases hx : 0 ≤ x
  · go_enter Try.func51, Try.ntmps51
    go_wp2_with (go_at_call 25; refine (refOrder_calls _ _ _ _ _ _).mono ?_; rintro e w' ⟨rfl, hb⟩)
    go_ret
    exact ⟨_, rfl, by simp [hx], below_box hb⟩
  · go_enter Try.func51, Try.ntmps51
    go_wp2_with fail
    go_ret
    exact BoolIs.no (by omega) ((Below.refl _ _).alloc (Nat.le_refl _) _)

set_option maxHeartbeats 400000 in
theorem refIn_calls (P M : Int) (A : Option Addr) (n c : Nat) (x : Int) (w : World) :
    Calls Try.prog 23 #[.agg #[.int .i64 P, .int .i64 M, .slice A n c], .int .i64 x] w fun e w' => e = .returned (.int .i64 (inn (ord P M) x)) ∧ Below w.heap.size w w' := by
  have hu := Try.underlying24
  go_enter Try.func23, Try.ntmps23
  go_wp2_with (go_at_call 51; refine (refIs_calls _ _ _ _ _ _ _).mono ?_; rintro e w' ⟨b, rfl, hb, hbel⟩; cases b)
  · go_ret
    have h := mt hb.2 (by simp)
    exact ⟨by rw [inn_no h]; rfl, below_box hbel⟩
  · go_ret
    have h := hb.1 trivial
    exact ⟨by rw [inn_yes h.1 h.2]; rfl, below_box hbel⟩

set_option maxHeartbeats 400000 in
theorem refDigits_calls (P : Int) (M : Nat) (A : Option Addr) (n c : Nat) (x : Int) (w : World) (hp : 2 ≤ P) (hp2 : P ≤ 256) (hm : M ≤ 8) (hq : P ^ M ≤ 256) (hm1 : 1 ≤ M) :
    Calls Try.prog 38 #[.agg #[.int .i64 P, .int .i64 M, .slice A n c], .int .i64 x] w fun e w' => ∃ g, e = .returned (.slice (some ⟨g, 0, none⟩) M M) ∧ w.heap.size ≤ g ∧ Own w' g M (digs M (inn (P ^ M) x) P) ∧ Below w.heap.size w w' := by
  have hu := Try.underlying24
  have HO := Lib.hid (ord_eq P M hp (by omega) (by omega) (by simpa using hq))
  have HB := Lib.hid (inn_bd (q := P ^ M) (x := x) (by have := pow_ge P hp M; omega))
  have HQ := Lib.hid hq
  clear hq
  go_enter Try.func38, Try.ntmps38
  go_wp2
  go_region_held3 (fun w' => w'.cell? ⟨w.heap.size, 0, none⟩ = some (.int .i64 P) ∧ w'.cell? ⟨w.heap.size, 1, none⟩ = some (.int .i64 M) ∧ w'.cell? ⟨w.heap.size, 2, none⟩ = some (.slice A n c) ∧ Below (w.alloc (.cells #[.int .i64 P, .int .i64 M, .slice A n c] 24)).heap.size (w.alloc (.cells #[.int .i64 P, .int .i64 M, .slice A n c] 24)) w') (first | (exact keep3 (by simp) (by assumption) (by assumption)) | (exact ⟨by simp, by simp, by simp, (Below.refl _ _).drew⟩))
    (first | (go_at_call 23; refine (refIn_calls _ _ _ _ _ _ _).mono ?_; rintro e w1 ⟨rfl, hb1⟩) | (go_at_call 62; rw [HO.out]; refine (refdigits_calls _ _ M _ HB.out.1 (by have := HB.out.2; have := HQ.out; simp; omega) hp hp2 (by omega)).mono ?_; rintro e w2 ⟨g, rfl, hg, ho, hb2⟩))
  go_wp2
  go_ret
  rename_i hS
  exact ⟨g, rfl, by have h1 := hb1.size; simp at h1; omega, ho, below_box hS.2.2.2⟩

end Go.Proofs.Ytjbfccconjjofaa
