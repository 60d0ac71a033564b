/- Counting the elements of an order. No program in it. -/
import Derived.Test.YtjbfccconjjofaaMathI
namespace Go.Proofs.Ytjbfccconjjofaa

/-- How many i < n have p. -/
def cnt (p : Nat → Bool) : Nat → Nat
  | 0 => 0
  | n + 1 => cnt p n + (p n).toNat
theorem cnt_congr {p r : Nat → Bool} (n : Nat) (h : ∀ i, i < n → p i = r i) : cnt p n = cnt r n := by
  induction n with
  | zero => rfl
  | succ n ih => rw [cnt, cnt, ih fun i hi => h i (by omega), h n (by omega)]
theorem cnt_swap {p r : Nat → Bool} (n j : Nat) (hj : j < n) (h : ∀ i, i < n → i ≠ j → p i = r i) : cnt p n + (r j).toNat = cnt r n + (p j).toNat := by
  induction n with
  | zero => omega
  | succ n ih =>
    rw [cnt, cnt]
    by_cases hjn : j = n
    · subst hjn
      rw [cnt_congr j fun i hi => h i (by omega) (by omega)]; omega
    · have := ih (by omega) fun i hi hne => h i (by omega) hne
      rw [h n (by omega) (by omega)]; omega
/-- A bijection does not change the count. -/
theorem cnt_perm (p : Nat → Bool) (n : Nat) : ∀ f : Nat → Nat, (∀ i, i < n → f i < n) → (∀ i j, i < j → j < n → f i ≠ f j) → cnt (fun i => p (f i)) n = cnt p n := by
  induction n with
  | zero => intro f _ _; rfl
  | succ n ih =>
    intro f h1 h2
    have key := ih (fun i => if f i = n then f n else f i) (fun i hi => by
      show (if f i = n then f n else f i) < n
      have a1 := h1 i (by omega)
      have a2 := h1 n (by omega)
      have a3 := h2 i n hi (by omega)
      split <;> omega) (fun i j hij hj => by
      show (if f i = n then f n else f i) ≠ (if f j = n then f n else f j)
      have a1 := h2 i j hij (by omega)
      have a2 := h2 i n (by omega) (by omega)
      have a3 := h2 j n (by omega) (by omega)
      split <;> split <;> omega)
    rw [cnt, cnt, ← key]
    by_cases ha : f n = n
    · have e0 : cnt (fun i => p (f i)) n = cnt (fun i => p (if f i = n then f n else f i)) n := cnt_congr n fun i hi => by
        have := h2 i n hi (by omega)
        show p (f i) = p (if f i = n then f n else f i)
        rw [if_neg (by omega)]
      have e1 : p (f n) = p n := by rw [ha]
      rw [e0, e1]
    · obtain ⟨j, hj, e⟩ := inj_onto (n + 1) f h1 h2 n (by omega)
      have hjn : j ≠ n := fun e2 => ha (by rw [← e2]; omega)
      have hs : cnt (fun i => p (f i)) n + (p (if f j = n then f n else f j)).toNat = cnt (fun i => p (if f i = n then f n else f i)) n + (p (f j)).toNat := cnt_swap (p := fun i => p (f i)) (r := fun i => p (if f i = n then f n else f i)) n j (by omega) fun i hi hne => by
        show p (f i) = p (if f i = n then f n else f i)
        have : f i ≠ f j := by
          rcases Nat.lt_or_gt_of_ne hne with h | h
          · exact h2 i j h (by omega)
          · exact (h2 j i h (by omega)).symm
        rw [if_neg (by omega)]
      rw [if_pos e, e] at hs
      omega
/-- Where only the multiples of d have p. -/
theorem cnt_mult (p : Nat → Bool) (d : Nat) (hd : 1 ≤ d) (h : ∀ i, p i = true → d ∣ i) : ∀ n, cnt p (d * n) = cnt (fun j => p (d * j)) n := by
  intro n
  have gap : ∀ m r, (∀ i, m ≤ i → i < m + r → p i = false) → cnt p (m + r) = cnt p m := by
    intro m r
    induction r with
    | zero => intro _; rfl
    | succ r ih =>
      intro hh
      rw [← Nat.add_assoc, cnt, ih fun i h1 h2 => hh i h1 (by omega), hh (m + r) (by omega) (by omega)]; rfl
  induction n with
  | zero => rfl
  | succ n ih =>
    rw [Nat.mul_succ, show d * n + d = (d * n + 1) + (d - 1) from by omega, gap (d * n + 1) (d - 1) (fun i h1 h2 => by
      cases hp : p i with
      | false => rfl
      | true =>
        exfalso
        obtain ⟨c, hc⟩ := h i hp
        have h3 : d * n < d * c := by omega
        have h4 : d * c < d * (n + 1) := by rw [Nat.mul_succ]; omega
        have h5 := Nat.lt_of_mul_lt_mul_left h3
        have h6 := Nat.lt_of_mul_lt_mul_left h4
        omega), cnt, cnt, ih]
theorem cnt_none (p : Nat → Bool) (n : Nat) (h : ∀ i, i < n → p i = false) : cnt p n = 0 := by
  induction n with
  | zero => rfl
  | succ n ih => rw [cnt, ih fun i hi => h i (by omega), h n (by omega)]; rfl

end Go.Proofs.Ytjbfccconjjofaa
