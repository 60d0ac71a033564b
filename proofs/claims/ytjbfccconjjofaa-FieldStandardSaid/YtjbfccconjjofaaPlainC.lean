/- Plain facts on division with remainder: no program in it. -/
import Derived.Test.YtjbfccconjjofaaPlainB
namespace Go.Proofs.Ytjbfccconjjofaa

/-- k entries from place t on, each with a multiple of one of low's added. -/
def updK (p : Int) (low : List Int) (t : Nat) (c : Int) : Nat → List Int → List Int
  | 0, r => r
  | k + 1, r => (updK p low t c k r).set (t + k) (((updK p low t c k r).getD (t + k) 0 + (p - c) * low.getD k 0) % p)
/-- n steps of the division, from the highest place on. -/
def remN (p : Int) (low : List Int) : Nat → List Int → List Int
  | 0, r => r
  | n + 1, r => remN p low n ((updK p low n (r.getD (low.length + n) 0) low.length r).set (low.length + n) 0)
/-- The remainder of the polynomial with the low coefficients mod, divided by the one with the low coefficients low. -/
def remOf (p : Int) (low mod : List Int) : List Int := remN p low (mod.length + 1 - low.length) (mod ++ [1])
def DividesL (p : Int) (low mod : List Int) : Prop := ∀ j, (remOf p low mod).getD j 0 = 0
theorem updK_length (p : Int) (low : List Int) (t : Nat) (c : Int) (k : Nat) (r : List Int) : (updK p low t c k r).length = r.length := by
  induction k with
  | zero => rfl
  | succ k ih => rw [updK, List.length_set, ih]
theorem Dig.set {p : Int} {r : List Int} (h : Dig p r) (k : Nat) (u : Int) (h0 : 0 ≤ u) (h1 : u < p) : Dig p (r.set k u) := by
  intro j hj
  rw [List.length_set] at hj
  by_cases e : k = j
  · subst e; simp [List.getD_eq_getElem?_getD, hj, h0, h1]
  · have := h j hj
    simpa [List.getD_eq_getElem?_getD, List.getElem?_set, e] using this
theorem updK_dig (p : Int) (hp : 0 < p) (low : List Int) (t : Nat) (c : Int) (k : Nat) (r : List Int) (h : Dig p r) : Dig p (updK p low t c k r) := by
  induction k with
  | zero => exact h
  | succ k ih => exact ih.set _ _ (Int.emod_nonneg _ (by omega)) (Int.emod_lt_of_pos _ hp)
theorem remN_length (p : Int) (low : List Int) (n : Nat) (r : List Int) : (remN p low n r).length = r.length := by
  induction n generalizing r with
  | zero => rfl
  | succ n ih => rw [remN, ih, List.length_set, updK_length]
theorem Dig.append {p : Int} {a b : List Int} (ha : Dig p a) (hb : Dig p b) : Dig p (a ++ b) := by
  intro j hj
  rw [List.length_append] at hj
  by_cases h : j < a.length
  · have := ha j h
    simpa [List.getD_eq_getElem?_getD, List.getElem?_append_left h] using this
  · have := hb (j - a.length) (by omega)
    simpa [List.getD_eq_getElem?_getD, List.getElem?_append_right (Nat.le_of_not_lt h)] using this
theorem Dig.one {p : Int} (hp : 2 ≤ p) : Dig p [1] := Dig.cons (by omega) (by omega) (Dig.nil p)
/-- No polynomial of a degree from 1 to half of its own divides the one with the low coefficients mod. -/
def IrrL (p : Int) (mod : List Int) : Prop := ∀ d : Nat, 1 ≤ d → 2 * d ≤ mod.length → ∀ v : Int, 0 ≤ v → v < p ^ d → ¬ DividesL p (digs d v p) mod

end Go.Proofs.Ytjbfccconjjofaa
