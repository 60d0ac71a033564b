/- The powers of primes: plain facts for the standard fields. No program in it. -/
import Derived.Test.YtjbfccconjjofaaMathG
namespace Go.Proofs.Ytjbfccconjjofaa

/-- The least divisor from 2 on is prime. -/
theorem least_prm (q p : Int) (hp : 2 ≤ p) (hd : q % p = 0) (hl : ∀ d : Int, 2 ≤ d → d < p → q % d ≠ 0) : Prm p := by
  refine ⟨hp, fun d h1 h2 h3 => hl d h1 h2 ?_⟩
  have e1 := Int.mul_ediv_add_emod q p
  have e2 := Int.mul_ediv_add_emod p d
  have : q = d * ((p / d) * (q / p)) := by
    rw [← Int.mul_assoc]
    have : d * (p / d) = p := by omega
    rw [this]; omega
  rw [this]; exact Int.mul_emod_right d _
/-- A prime that divides a power of a prime is that prime. -/
theorem prm_pow (p r : Int) (hp : Prm p) (hr : Prm r) (m : Nat) (h : p ^ m % r = 0) : r = p := by
  have hp2 := hp.1
  have hr2 := hr.1
  induction m with
  | zero =>
    rw [Int.pow_zero, Int.emod_eq_of_lt (by omega) (by omega)] at h
    omega
  | succ m ih =>
    by_cases hd : ∃ k, p = r * k
    · obtain ⟨k, hk⟩ := hd
      by_cases hlt : r < p
      · exfalso
        refine hp.2 r hr2 hlt ?_
        rw [hk]; exact Int.mul_emod_right r k
      · have hk1 : 1 ≤ k := by
          rcases Int.lt_trichotomy k 0 with h0 | h0 | h0
          · have : r * k ≤ r * (-1) := Int.mul_le_mul_of_nonneg_left (by omega) (by omega)
            omega
          · rw [h0] at hk; omega
          · omega
        have : r * 1 ≤ r * k := Int.mul_le_mul_of_nonneg_left hk1 (by omega)
        omega
    · obtain ⟨u, k, e⟩ := inv_mod' r hr p hd
      refine ih ?_
      have e1 := Int.mul_ediv_add_emod (p ^ (m + 1)) r
      rw [h] at e1
      have e2 : p ^ m = r * (u * (p ^ (m + 1) / r) - k * p ^ m) := by
        have e3 : u * p ^ (m + 1) = p ^ m + r * k * p ^ m := by
          rw [Int.pow_succ, Int.mul_left_comm, Int.mul_comm (p ^ m), Int.mul_comm u p, Int.mul_comm p u, e, Int.add_mul, Int.one_mul]
        have e4 : u * p ^ (m + 1) = r * (u * (p ^ (m + 1) / r)) := by
          rw [Int.mul_left_comm]; congr 1; omega
        rw [Int.mul_sub, ← e4, e3, Int.mul_assoc]; omega
      rw [e2]; exact Int.mul_emod_right r _

end Go.Proofs.Ytjbfccconjjofaa
