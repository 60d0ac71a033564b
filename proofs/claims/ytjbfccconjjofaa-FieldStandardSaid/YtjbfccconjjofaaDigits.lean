/- digitsOf and valueOf of the package field. -/
import Derived.Test.YtjbfccconjjofaaProg
import Derived.Test.YtjbfccconjjofaaBase
import Derived.Test.YtjbfccconjjofaaPlain
namespace Go.Proofs.Ytjbfccconjjofaa
open Go.RowKit

theorem info_int : (Try.prog.info? 3).map (fun i => (i.zero, i.size, i.bytes)) = some (some (.int .i64 0), 1, 8) := by kernel_rfl

theorem size_int : (Try.prog.info? 3).map (·.size) = some 1 := by kernel_rfl
theorem makeInts (m : Nat) (hn : m ≤ 1000000) :
    ∀ W : World, (Instr.makeSlice 22 (.int .i64 (m : Int)) (.int .i64 (m : Int))).run Try.prog W = .ok (.slice (some ⟨W.heap.size, 0, none⟩) m m) (W.alloc (.cells (madeCells #[.int .i64 0] m) 3)) := by
  intro W
  obtain ⟨i, hi, hz0, hz1, hz2⟩ := info_parts info_int
  have := run_make (P := Try.prog) W 22 3 i (.int .i64 0) Try.underlying22 hi hz0 .i64 .i64 m m (by omega) (Int.le_refl _) (by rw [hz2]; omega) (by omega)
  rw [hz1, Nat.mul_one, Int.toNat_natCast] at this
  exact this

set_option maxHeartbeats 400000 in
theorem digitsOf_calls (x p : Int) (m : Nat) (w : World) (hx : 0 ≤ x) (hx2 : x ≤ 100000000) (hp : 2 ≤ p) (hp2 : p ≤ 256) (hm : m ≤ 100) :
    Calls Try.prog 60 #[.int .i64 x, .int .i64 p, .int .i64 m] w fun e w' => ∃ g, e = .returned (.slice (some ⟨g, 0, none⟩) m m) ∧ w.heap.size ≤ g ∧ Own w' g m (digs m x p) ∧ Below w.heap.size w w' := by
  have hmk := makeInts m (by omega)
  have hmade := Own.made w m (by omega)
  go_enter Try.func60, Try.ntmps60
  go_wp2
  go_loopw [0, 13] (fun x_ i wr => ∃ k : Nat, k ≤ m ∧ i = .int .i64 k ∧ x_ = .int .i64 (dv k x p) ∧ Own wr w.heap.size m (digs k x p ++ List.replicate (m - k) 0) ∧ Below w.heap.size w wr)
    (fun _ i _ => m - (intOf i).toNat)
  case atStart => exact ⟨0, Nat.zero_le _, rfl, rfl, by simpa [digs] using hmade, (Below.refl _ _).alloc (Nat.le_refl _) _⟩
  case round =>
    obtain ⟨k, hk, rfl, rfl, hown, hb⟩ := hrel
    clear hmk hmade
    have hd := dv_bd k x p hx (by omega)
    obtain ⟨y, hy⟩ : ∃ y, y = dv k x p := ⟨_, rfl⟩
    rw [← hy] at hd ⊢
    have HY := Lib.hid hy
    clear hy
    by_cases hlt : k < m
    · have hc := hown.cell k (by simp [digs_length]; omega)
      have hf := hown.free k
      have HS := Lib.hid (hown.set k (y % p))
      have HO := Lib.hid hown
      clear hown
      go_wp2
      go_roundw
      case rel =>
        refine ⟨k + 1, by omega, by go_num, by rw [HY.out]; rfl, ?_, hb.setCell (Nat.le_refl _) _⟩
        have := HS.out
        rw [set_fill _ k m _ (digs_length _ _ _) hlt, HY.out, ← digs_snoc] at this
        rw [HY.out]; exact this
      case measure => simp [intOf]; omega
    · obtain rfl : k = m := by omega
      go_wp2
      go_ret
      exact ⟨w.heap.size, rfl, Nat.le_refl _, by simpa using hown, hb⟩

end Go.Proofs.Ytjbfccconjjofaa
