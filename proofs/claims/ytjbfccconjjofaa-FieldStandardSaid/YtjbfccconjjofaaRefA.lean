/- The reference's Order, prime, digits, Value. -/
import Derived.Test.YtjbfccconjjofaaDigits
namespace Go.Proofs.Ytjbfccconjjofaa
open Go.RowKit

set_option maxHeartbeats 400000 in
theorem refOrder_calls (P M : Int) (A : Option Addr) (n c : Nat) (w : World) :
    Calls Try.prog 25 #[.agg #[.int .i64 P, .int .i64 M, .slice A n c]] w fun e w' => e = .returned (.int .i64 (ord P M)) ∧ Below w.heap.size w w' := by
  have hu := Try.underlying24
  by_cases hP : P < 2
  · have HO := Lib.hid (ord_bad P M (.inl hP))
    go_enter Try.func25, Try.ntmps25
    go_wp2
    go_ret
    exact ⟨by rw [HO.out]; rfl, (Below.refl _ _).alloc (Nat.le_refl _) _⟩
  by_cases hM : M < 1
  · have HO := Lib.hid (ord_bad P M (.inr (.inl hM)))
    go_enter Try.func25, Try.ntmps25
    go_wp2
    go_ret
    exact ⟨by rw [HO.out]; rfl, (Below.refl _ _).alloc (Nat.le_refl _) _⟩
  by_cases hM2 : 8 < M
  · have HO := Lib.hid (ord_bad P M (.inr (.inr hM2)))
    go_enter Try.func25, Try.ntmps25
    go_wp2
    go_ret
    exact ⟨by rw [HO.out]; rfl, (Below.refl _ _).alloc (Nat.le_refl _) _⟩
  go_enter Try.func25, Try.ntmps25
  go_wp2
  go_loop [3, 4] (fun q i => ∃ (k : Nat) (y : Int), (k : Int) ≤ M ∧ i = .int .i64 k ∧ q = .int .i64 y ∧ 1 ≤ y ∧ y ≤ 256 ∧ Hid (y = P ^ k)) (fun _ i => M.toNat - (intOf i).toNat)
  case atStart => exact ⟨0, 1, by omega, rfl, rfl, by omega, by omega, by simp [Hid]⟩
  case round =>
    obtain ⟨k, y, hk, rfl, rfl, hy1, hy2, HY⟩ := hrel
    by_cases hlt : (k : Int) < M
    · by_cases hg : 256 / P < y
      · have HO := Lib.hid (ord_big P M (k + 1) (by omega) (by omega) (by rw [Int.pow_succ, ← HY.out]; exact mul_gt_of_gt_div y P (by omega) hg))
        go_wp2
        go_ret
        exact ⟨by rw [HO.out]; rfl, (Below.refl _ _).alloc (Nat.le_refl _) _⟩
      · have hm := mul_le_of_le_div y P (by omega) (by omega)
        have hm1 : 1 * 1 ≤ y * P := Int.mul_le_mul hy1 (by omega) (by omega) (by omega)
        obtain ⟨z, HZ⟩ : ∃ z, Hid (z = y * P) := ⟨_, rfl⟩
        have hz1 : 1 ≤ z := by rw [HZ.out]; omega
        have hz2 : z ≤ 256 := by rw [HZ.out]; omega
        go_wp2
        go_round
        case rel => exact ⟨k + 1, z, by omega, by go_num, by rw [HZ.out], hz1, hz2, by unfold Hid; rw [HZ.out, HY.out, Int.pow_succ]⟩
        case measure => simp [intOf]; omega
    · have hkM : M.toNat = k := by omega
      have HO := Lib.hid (ord_eq P M (by omega) (by omega) (by omega) (by rw [hkM, ← HY.out]; exact hy2))
      have HK := Lib.hid hkM
      clear hkM
      go_wp2
      go_ret
      exact ⟨by rw [HO.out, HK.out, HY.out]; rfl, (Below.refl _ _).alloc (Nat.le_refl _) _⟩

set_option maxHeartbeats 400000 in
theorem refPrime_calls (n : Int) (w : World) (hn : 2 ≤ n) (hn2 : n ≤ 256) :
    Calls Try.prog 63 #[.int .i64 n] w fun e w' => BoolIs (Prm n) w e w' := by
  go_enter Try.func63, Try.ntmps63
  go_wp2
  go_loop [3] (fun d => ∃ k : Int, d = .int .i64 k ∧ 2 ≤ k ∧ k ≤ n ∧ Hid (∀ d : Int, 2 ≤ d → d < k → n % d ≠ 0)) (fun d => (n - intOf d).toNat)
  case atStart => exact ⟨2, rfl, by omega, by omega, fun d h1 h2 => by omega⟩
  case round =>
    obtain ⟨k, rfl, hk1, hk2, HP⟩ := hrel
    by_cases hlt : k < n
    · by_cases hz : n % k = 0
      · have HZ := Lib.hid hz
        have hz' : (n % k == 0) = true := by simpa using hz
        clear hz
        go_wp2
        go_ret
        exact BoolIs.no (fun h => absurd HZ.out (h.2 k hk1 hlt)) (Below.refl _ _)
      · have hz' : (n % k == 0) = false := by simpa using hz
        have HZ := Lib.hid hz
        clear hz
        go_wp2
        go_round
        case rel =>
          refine ⟨k + 1, rfl, by omega, by omega, fun d h1 h2 => ?_⟩
          by_cases hd : d = k
          · rw [hd]; exact HZ.out
          · exact HP.out d h1 (by omega)
        case measure => simp [intOf]; omega
    · obtain rfl : k = n := by omega
      go_wp2
      go_ret
      exact BoolIs.yes ⟨hn, HP.out⟩ (Below.refl _ _)

set_option maxHeartbeats 400000 in
theorem refdigits_calls (x p : Int) (m : Nat) (w : World) (hx : 0 ≤ x) (hx2 : x ≤ 100000000) (hp : 2 ≤ p) (hp2 : p ≤ 256) (hm : m ≤ 100) :
    Calls Try.prog 62 #[.int .i64 x, .int .i64 p, .int .i64 m] w fun e w' => ∃ g, e = .returned (.slice (some ⟨g, 0, none⟩) m m) ∧ w.heap.size ≤ g ∧ Own w' g m (digs m x p) ∧ Below w.heap.size w w' := by
  have hmk := makeInts m (by omega)
  have hmade := Own.made w m (by omega)
  go_enter Try.func62, Try.ntmps62
  go_wp2
  go_loopw [0, 8] (fun x_ i wr => ∃ k : Nat, k ≤ m ∧ i = .int .i64 k ∧ x_ = .int .i64 (dv k x p) ∧ Own wr w.heap.size m (digs k x p ++ List.replicate (m - k) 0) ∧ Below w.heap.size w wr)
    (fun _ i _ => m - (intOf i).toNat)
  case atStart => exact ⟨0, Nat.zero_le _, rfl, rfl, by simpa [digs] using hmade, (Below.refl _ _).alloc (Nat.le_refl _) _⟩
  case round =>
    obtain ⟨k, hk, rfl, rfl, hown, hb⟩ := hrel
    clear hmk hmade
    have hd := dv_bd k x p hx (by omega)
    obtain ⟨y, hy⟩ : ∃ y, y = dv k x p := ⟨_, rfl⟩
    rw [← hy] at hd ⊢
    have HY := Lib.hid hy
    clear hy
    by_cases hlt : k < m
    · have hc := hown.cell k (by simp [digs_length]; omega)
      have hf := hown.free k
      have HS := Lib.hid (hown.set k (y % p))
      have HO := Lib.hid hown
      clear hown
      go_wp2
      go_roundw
      case rel =>
        refine ⟨k + 1, by omega, by go_num, by rw [HY.out]; rfl, ?_, hb.setCell (Nat.le_refl _) _⟩
        have := HS.out
        rw [set_fill _ k m _ (digs_length _ _ _) hlt, HY.out, ← digs_snoc] at this
        rw [HY.out]; exact this
      case measure => simp [intOf]; omega
    · obtain rfl : k = m := by omega
      go_wp2
      go_ret
      exact ⟨w.heap.size, rfl, Nat.le_refl _, by simpa using hown, hb⟩

end Go.Proofs.Ytjbfccconjjofaa
