/- How many numbers up to n have no common divisor with n: the law's own count. -/
import Derived.Test.YtjbfccconjjofaaLawKit
namespace Go.Proofs.Ytjbfccconjjofaa
open Go.RowKit
attribute [local go_sem ↓] Go.wp_at_zero Go.wp_at_succ

/-- The count up to k. -/
def cop (n : Nat) : Nat → Nat
  | 0 => 0
  | k + 1 => cop n k + if Nat.gcd (k + 1) n = 1 then 1 else 0
theorem cop_le (n k : Nat) : cop n k ≤ k := by
  induction k with
  | zero => exact Nat.le_refl _
  | succ k ih => rw [cop]; split <;> omega

set_option maxHeartbeats 1000000 in
theorem coprime_calls (n : Nat) (w : World) (hn : 1 ≤ n) (hn2 : n ≤ 256) :
    Calls Try.prog 34 #[.int .i64 n] w fun e w' => e = .returned (.int .i64 (cop n n)) ∧ Below w.heap.size w w' := by
  go_enter Try.func34, Try.ntmps34
  go_wp2
  go_loopg [3, 4] n (fun g c i wr => ∃ k cn : Nat, k ≤ n ∧ g = n - k ∧ c = .int .i64 cn ∧ i = .int .i64 (k + 1 : Nat) ∧ cn ≤ 256 ∧ Hid (cn = cop n k) ∧ Below w.heap.size w wr)
  case atStart => exact ⟨0, 0, Nat.zero_le _, rfl, rfl, rfl, by omega, rfl, Below.refl _ _⟩
  case round =>
    obtain ⟨k, cn, hk, HGQ, rfl, rfl, hcn, HC, hb⟩ := hrel
    replace HGQ := Lib.hid HGQ
    have HBL := Lib.hid hb
    clear hb
    obtain ⟨i, HI⟩ : ∃ i : Nat, Hid (i = k + 1) := ⟨_, rfl⟩
    rw [← HI.out]
    have hi1 : 1 ≤ i := by rw [HI.out]; omega
    by_cases hlt : i ≤ n
    · go_wp2
      go_loopw [5, 6] (fun a b wi => ∃ an bn : Nat, a = .int .i64 an ∧ b = .int .i64 bn ∧ an ≤ 256 ∧ bn ≤ 256 ∧ Hid (Nat.gcd an bn = Nat.gcd i n) ∧ Below w.heap.size w wi) (fun _ b _ => (intOf b).toNat)
      case atStart => exact ⟨i, n, rfl, rfl, by omega, by omega, rfl, HBL.out⟩
      case round =>
        obtain ⟨an, bn, rfl, rfl, ha, hbn, HGC, hb2⟩ := hrel
        have HB2 := Lib.hid hb2
        clear hb2
        by_cases h0 : 0 < bn
        · have h0' : ((bn : Int) == 0) = false := by simp; omega
          have h0n : ¬ (bn : Int) = 0 := by omega
          have e1 : (an : Int).tmod (bn : Int) = ((an % bn : Nat) : Int) := by rw [Int.tmod_eq_emod_of_nonneg (by omega), Int.natCast_emod]
          have hml := Nat.mod_lt an h0
          obtain ⟨r, HR⟩ : ∃ r, Hid (r = an % bn) := ⟨_, rfl⟩
          rw [← HR.out] at e1 hml
          have HGC2 : Hid (Nat.gcd bn r = Nat.gcd i n) := by unfold Hid; rw [← HGC.out, HR.out, Nat.gcd_comm an bn, Nat.gcd_rec bn an, Nat.gcd_comm]
          go_wp2
          go_quiet (fail)
          go_wp2
          go_roundw
          case rel => exact ⟨bn, r, rfl, rfl, by omega, by omega, HGC2.out, by first | exact HB2.out | exact below_drewN HB2.out _⟩
          case measure => simp [intOf]; omega
        · obtain rfl : bn = 0 := by omega
          have HA : Hid (an = Nat.gcd (k + 1) n) := by unfold Hid; rw [← HI.out, ← HGC.out, Nat.gcd_zero_right]
          have hle := cop_le n k
          by_cases h1 : an = 1
          · have h1' : ((an : Int) == 1) = true := by simp; omega
            have HC2 : Hid (cn + 1 = cop n (k + 1)) := by unfold Hid; rw [cop, if_pos (HA.out.symm.trans h1), HC.out]
            have hcb : cn + 1 ≤ 256 := by rw [HC.out]; have := HI.out; omega
            clear h1 hle
            go_wp2
            go_roundg (n - (k + 1))
            case measure => have := HGQ.out; have := HI.out; omega
            case rel => exact ⟨k + 1, cn + 1, by rw [← HI.out]; exact hlt, rfl, by go_num, by rw [HI.out]; go_num, hcb, HC2.out, HB2.out⟩
          · have h1' : ((an : Int) == 1) = false := by simp; omega
            have HC2 : Hid (cn = cop n (k + 1)) := by unfold Hid; rw [cop, if_neg (fun e => h1 (HA.out.trans e)), HC.out]; rfl
            clear h1 hle
            go_wp2
            go_roundg (n - (k + 1))
            case measure => have := HGQ.out; have := HI.out; omega
            case rel => exact ⟨k + 1, cn, by rw [← HI.out]; exact hlt, rfl, rfl, by rw [HI.out]; go_num, hcn, HC2.out, HB2.out⟩
    · have HK : Hid (k = n) := by unfold Hid; have := HI.out; omega
      go_wp2
      go_ret
      exact ⟨by rw [HC.out, HK.out]; rfl, HBL.out⟩

end Go.Proofs.Ytjbfccconjjofaa
