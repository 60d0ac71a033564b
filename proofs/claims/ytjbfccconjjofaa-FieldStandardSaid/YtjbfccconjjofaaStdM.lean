/- The standard field of an order, as numbers. No program in it. -/
import Derived.Test.YtjbfccconjjofaaMathM
import Derived.Test.YtjbfccconjjofaaRefCheck
namespace Go.Proofs.Ytjbfccconjjofaa

theorem pow_less (P : Int) (hP : 2 ≤ P) (a b : Nat) (h : a < b) : P ^ a < P ^ b := by
  have h1 := pow_mono P (by omega) (a + 1) b h
  have h2 := pow_ge P hP a
  rw [Int.pow_succ] at h1
  have h3 : P ^ a * 2 ≤ P ^ a * P := Int.mul_le_mul_of_nonneg_left hP (by omega)
  omega
/-- P, m, mod describe the standard field of order q. -/
def Std (q P : Int) (m : Nat) (mod : List Int) : Prop :=
  2 ≤ q ∧ q ≤ 256 ∧ Prm P ∧ 1 ≤ m ∧ m ≤ 8 ∧ P ^ m = q ∧ (m = 1 → mod = []) ∧ (m ≠ 1 → ∃ v : Nat, (v : Int) < q ∧ mod = digs m v P ∧ IrrL P mod ∧ ∀ u : Nat, u < v → ¬ IrrL P (digs m u P))
theorem pow_self_mod (P : Int) (m : Nat) (h : 1 ≤ m) : P ^ m % P = 0 := by
  obtain ⟨k, rfl⟩ : ∃ k, m = k + 1 := ⟨m - 1, by omega⟩
  rw [Int.pow_succ, Int.mul_comm]; exact Int.mul_emod_right P _
theorem Std.base {q P : Int} {m : Nat} {mod : List Int} (h : Std q P m mod) : P ^ m = q ∧ Prm P ∧ 1 ≤ m ∧ m ≤ 8 ∧ 2 ≤ P ∧ P ≤ q := by
  obtain ⟨h1, h2, h3, h4, h5, h6, _⟩ := h
  have h8 := pow_mono P (by have := h3.1; omega) 1 m h4
  rw [Int.pow_succ, Int.pow_zero, Int.one_mul, h6] at h8
  exact ⟨h6, h3, h4, h5, h3.1, h8⟩
theorem Std.uniq {q P P' : Int} {m m' : Nat} {mod mod' : List Int} (h : Std q P m mod) (h' : Std q P' m' mod') : P = P' ∧ m = m' ∧ mod = mod' := by
  obtain ⟨b1, b2, b3, b4, b5, _⟩ := h.base
  obtain ⟨c1, c2, c3, c4, c5, _⟩ := h'.base
  have hP : P' = P := prm_pow P P' b2 c2 m (by rw [b1, ← c1]; exact pow_self_mod P' m' c3)
  subst hP
  have hm : m = m' := by
    rcases Nat.lt_trichotomy m m' with hl | he | hl
    · have := pow_less P' b5 m m' hl; omega
    · exact he
    · have := pow_less P' b5 m' m hl; omega
  subst hm
  refine ⟨rfl, rfl, ?_⟩
  obtain ⟨_, _, _, _, _, _, h7, h8⟩ := h
  obtain ⟨_, _, _, _, _, _, k7, k8⟩ := h'
  by_cases hm1 : m = 1
  · rw [h7 hm1, k7 hm1]
  · obtain ⟨v, _, e1, i1, l1⟩ := h8 hm1
    obtain ⟨u, _, e2, i2, l2⟩ := k8 hm1
    rcases Nat.lt_trichotomy v u with hl | he | hl
    · exact absurd (by rw [← e1]; exact i1) (l2 v hl)
    · rw [e1, e2, he]
    · exact absurd (by rw [← e2]; exact i2) (l1 u hl)
theorem Std.ord {q P : Int} {m : Nat} {mod : List Int} (h : Std q P m mod) : ord P m = q := by
  obtain ⟨h1, h2, h3, h4, h5, h6, _⟩ := h
  rw [ord_eq P m h3.1 (by omega) (by omega) (by simpa [h6] using h2), Int.toNat_natCast, h6]
theorem ord_pow {P q : Int} {m : Nat} (h : Go.Proofs.Ytjbfccconjjofaa.ord P m = q) (hq : 2 ≤ q) : 2 ≤ P ∧ 1 ≤ m ∧ m ≤ 8 ∧ P ^ m = q := by
  unfold Go.Proofs.Ytjbfccconjjofaa.ord at h
  split at h
  · rename_i h1
    rw [Int.toNat_natCast] at h h1
    exact ⟨h1.1, by omega, by omega, h⟩
  · omega
theorem ord_below {q P : Int} {m : Nat} {mod : List Int} (h : Std q P m mod) (k : Nat) (hk : 1 ≤ k) (hkm : k < m) : Go.Proofs.Ytjbfccconjjofaa.ord P k < q := by
  obtain ⟨b1, b2, b3, b4, b5, _⟩ := h.base
  have h2 := h.2.1
  have h3 := pow_less P b5 k m hkm
  rw [b1] at h3
  rw [ord_eq P k b5 (by omega) (by omega) (by rw [Int.toNat_natCast]; omega), Int.toNat_natCast]
  exact h3
/-- What the search for the exponent ends at, where P is the least divisor of q. -/
theorem Std.found {q P p : Int} {m k : Nat} {mod : List Int} (h : Std q P m mod) (hp : 2 ≤ p) (hd : q % p = 0) (hl : ∀ d : Int, 2 ≤ d → d < p → q % d ≠ 0) (hk1 : 1 ≤ k) (hk8 : k ≤ 8) (hlow : ∀ i : Nat, 1 ≤ i → i < k → Go.Proofs.Ytjbfccconjjofaa.ord p i < q)
    (hend : ¬ (Go.Proofs.Ytjbfccconjjofaa.ord p k < q ∧ k < 8)) : P = p ∧ m = k := by
  obtain ⟨b1, b2, b3, b4, b5, _⟩ := h.base
  have hpp := least_prm q p hp hd hl
  have hP : p = P := prm_pow P p b2 hpp m (by rw [b1]; exact hd)
  subst hP
  refine ⟨rfl, ?_⟩
  rcases Nat.lt_trichotomy m k with hl2 | he | hl2
  · have h1 := hlow m b3 hl2
    rw [h.ord] at h1; omega
  · exact he
  · have h1 := ord_below h k hk1 hl2
    exact absurd ⟨h1, by omega⟩ hend
/-- The reference's search: nothing answers at exponent m and base p. -/
def Ans (q : Int) (m : Nat) (p : Int) : Prop := Prm p ∧ Go.Proofs.Ytjbfccconjjofaa.ord p m = q ∧ (m = 1 ∨ ∃ v : Nat, (v : Int) < q ∧ IrrL p (digs m v p))
theorem Std.ans {q P : Int} {m : Nat} {mod : List Int} (h : Std q P m mod) : Ans q m P := by
  refine ⟨h.base.2.1, h.ord, ?_⟩
  by_cases hm : m = 1
  · exact .inl hm
  · obtain ⟨v, h1, h2, h3, _⟩ := h.2.2.2.2.2.2.2 hm
    exact .inr ⟨v, h1, by rw [← h2]; exact h3⟩
theorem std_one {q p : Int} (hq : 2 ≤ q) (hq2 : q ≤ 256) (hp : Prm p) (h : Go.Proofs.Ytjbfccconjjofaa.ord p (1 : Nat) = q) : Std q p 1 [] := by
  obtain ⟨_, _, _, h4⟩ := ord_pow h hq
  exact ⟨hq, hq2, hp, Nat.le_refl _, by omega, h4, fun _ => rfl, fun h => absurd rfl h⟩
theorem std_more {q p : Int} {m v : Nat} (hq : 2 ≤ q) (hq2 : q ≤ 256) (hp : Prm p) (h : Go.Proofs.Ytjbfccconjjofaa.ord p m = q) (hm : m ≠ 1) (hv : (v : Int) < q) (hi : IrrL p (digs m v p)) (hl : ∀ u : Nat, u < v → ¬ IrrL p (digs m u p)) : Std q p m (digs m v p) := by
  obtain ⟨_, h2, h3, h4⟩ := ord_pow h hq
  exact ⟨hq, hq2, hp, h2, h3, h4, fun h => absurd h hm, fun _ => ⟨v, hv, rfl, hi, hl⟩⟩
/-- A description that has the right shape is good just if its polynomial is irreducible. -/
theorem good_digs {q p : Int} {m v : Nat} (hq : 2 ≤ q) (hq2 : q ≤ 256) (hp : Prm p) (h : Go.Proofs.Ytjbfccconjjofaa.ord p m = q) (hm : m ≠ 1) : Good p m (digs m v p) ↔ IrrL p (digs m v p) := by
  obtain ⟨_, h2, h3, h4⟩ := ord_pow h hq
  rw [← good_iff]
  constructor
  · rintro ⟨m', e, _, h7⟩
    obtain rfl : m = m' := by omega
    exact h7 hm
  · intro hi
    exact ⟨m, rfl, ⟨hp, h2, h3, by rw [h4]; exact hq2, fun h => absurd h hm, fun _ => digs_length _ _ _, digs_dig _ _ _ hp.1⟩, fun _ => hi⟩

end Go.Proofs.Ytjbfccconjjofaa
