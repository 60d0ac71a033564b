/- The orders of the elements. No program in it. -/
import Derived.Test.YtjbfccconjjofaaMathH
namespace Go.Proofs.Ytjbfccconjjofaa

section
variable {P : Int} {M : Nat} {mod : List Int} {q : Nat} {x : Int} {ex lg : List Int}
theorem Made.g_ord (h : Made P M mod q x ex lg) : El.IsOrd h.g (q - 1) := by
  have hq := h.q2
  refine ⟨by omega, h.g_one, fun k hk => ?_⟩
  rw [El.pow_mod h.g_one k] at hk
  have hlt := Nat.mod_lt k (show 0 < q - 1 by omega)
  refine Nat.dvd_of_mod_eq_zero ?_
  rcases Nat.eq_zero_or_pos (k % (q - 1)) with h0 | h0
  · exact h0
  · refine absurd ?_ (h.gen.2.1 0 (k % (q - 1)) h0 hlt)
    have e1 : pw h.fs.mul h.g.1 (k % (q - 1)) = (El.pow h.g (k % (q - 1))).1 := El.pw_val h.g _
    rw [hk] at e1
    exact e1.symm
end
theorem El.IsOrd.gcd {S : FS} {a : El S} {n : Nat} (h : El.IsOrd a n) (i : Nat) : El.IsOrd (El.pow a i) (n / Nat.gcd n i) := by
  have hn := h.pos
  have hg : 0 < Nat.gcd n i := Nat.gcd_pos_of_pos_left _ (by omega)
  obtain ⟨m, e1⟩ := Nat.gcd_dvd_left n i
  obtain ⟨j, e2⟩ := Nat.gcd_dvd_right n i
  have hm : n / Nat.gcd n i = m := Nat.div_eq_of_eq_mul_right hg e1
  have hmp : 1 ≤ m := by
    rcases Nat.eq_zero_or_pos m with h0 | h0
    · rw [h0, Nat.mul_zero] at e1; omega
    · exact h0
  have hc : Nat.Coprime m j := by
    have h := Nat.gcd_mul_left (Nat.gcd n i) m j
    rw [← e1, ← e2] at h
    exact Nat.eq_of_mul_eq_mul_left hg (by rw [Nat.mul_one]; exact h.symm)
  rw [hm]
  refine ⟨hmp, ?_, fun k hk => ?_⟩
  · rw [← El.pow_mul]
    refine El.pow_dvd h.one ⟨j, ?_⟩
    have : i * m = Nat.gcd n i * m * j := by
      calc i * m = Nat.gcd n i * j * m := by rw [← e2]
        _ = Nat.gcd n i * m * j := by rw [Nat.mul_right_comm]
    rw [this, ← e1]
  · rw [← El.pow_mul] at hk
    obtain ⟨t, ht⟩ := h.dvd _ hk
    have h3 : Nat.gcd n i * (j * k) = Nat.gcd n i * (m * t) := by
      rw [← Nat.mul_assoc, ← Nat.mul_assoc, ← e1, ← e2]; exact ht
    have h4 := Nat.eq_of_mul_eq_mul_left hg h3
    have h5 : m ∣ j * k := ⟨t, h4⟩
    exact hc.dvd_of_dvd_mul_left h5
section
variable {P : Int} {M : Nat} {mod : List Int} {q : Nat} {x : Int} {ex lg : List Int}
/-- An element's order by its logarithm. -/
theorem Made.ordOf (h : Made P M mod q x ex lg) (u : Int) (hu : inn q u ≠ 0) : ∃ i : Nat, i < q - 1 ∧ lg.getD (inn q u).toNat 0 = i ∧ El.IsOrd (h.el u) ((q - 1) / Nat.gcd (q - 1) i) := by
  have hb : h.el u ≠ 0 := fun e => hu (congrArg Subtype.val e)
  obtain ⟨i, hi, e1, e2⟩ := h.log_at (h.el u) hb
  refine ⟨i, hi, e1, ?_⟩
  have := h.g_ord.gcd i
  rwa [e2] at this
end

end Go.Proofs.Ytjbfccconjjofaa
