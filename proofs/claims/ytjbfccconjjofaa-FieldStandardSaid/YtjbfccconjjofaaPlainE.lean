/- Plain facts on the reference's product: no program in it. -/
import Derived.Test.YtjbfccconjjofaaPlainD
namespace Go.Proofs.Ytjbfccconjjofaa

/-- k entries from place t on, each with x times one of l's added, modulo p. -/
def addK (p : Int) (l : List Int) (t : Nat) (x : Int) : Nat → List Int → List Int
  | 0, r => r
  | k + 1, r => (addK p l t x k r).set (t + k) (((addK p l t x k r).getD (t + k) 0 + x * l.getD k 0) % p)
theorem addK_length (p : Int) (l : List Int) (t : Nat) (x : Int) (k : Nat) (r : List Int) : (addK p l t x k r).length = r.length := by
  induction k with
  | zero => rfl
  | succ k ih => rw [addK, List.length_set, ih]
theorem addK_dig (p : Int) (hp : 0 < p) (l : List Int) (t : Nat) (x : Int) (k : Nat) (r : List Int) (h : Dig p r) : Dig p (addK p l t x k r) := by
  induction k with
  | zero => exact h
  | succ k ih => exact ih.set _ _ (Int.emod_nonneg _ (by omega)) (Int.emod_lt_of_pos _ hp)
theorem addK_far (p : Int) (l : List Int) (t : Nat) (x : Int) (k : Nat) (r : List Int) (j : Nat) (h : t + k ≤ j) : (addK p l t x k r).getD j 0 = r.getD j 0 := by
  induction k with
  | zero => rfl
  | succ k ih =>
    rw [addK, ← ih (by omega)]
    have : t + k ≠ j := by omega
    simp [List.getD_eq_getElem?_getD, this]
theorem updK_eq (p : Int) (low : List Int) (t : Nat) (c : Int) (k : Nat) (r : List Int) : updK p low t c k r = addK p low t (p - c) k r := by
  induction k with
  | zero => rfl
  | succ k ih => rw [updK, addK, ih]
/-- The product of two polynomials with M coefficients, n of the rounds done. -/
def mulC (p : Int) (M : Nat) (a b : List Int) : Nat → List Int
  | 0 => List.replicate (2 * M - 1) 0
  | n + 1 => addK p b n (a.getD n 0) M (mulC p M a b n)
theorem mulC_length (p : Int) (M : Nat) (a b : List Int) (n : Nat) : (mulC p M a b n).length = 2 * M - 1 := by
  induction n with
  | zero => simp [mulC]
  | succ n ih => rw [mulC, addK_length, ih]
theorem Dig.zeros {p : Int} (hp : 0 < p) (n : Nat) : Dig p (List.replicate n 0) := by
  intro j hj
  rw [List.length_replicate] at hj
  simp [List.getD_eq_getElem?_getD, hj, hp]
theorem mulC_dig (p : Int) (hp : 0 < p) (M : Nat) (a b : List Int) (n : Nat) : Dig p (mulC p M a b n) := by
  induction n with
  | zero => exact Dig.zeros hp _
  | succ n ih => exact addK_dig p hp _ _ _ _ _ ih
/-- The reduction by the field's polynomial: n places from the highest on. -/
def redN (p : Int) (mod : List Int) (M : Nat) : Nat → List Int → List Int
  | 0, c => c
  | n + 1, c => redN p mod M n (addK p mod n (p - c.getD (M + n) 0) M c)
theorem redN_length (p : Int) (mod : List Int) (M n : Nat) (c : List Int) : (redN p mod M n c).length = c.length := by
  induction n generalizing c with
  | zero => rfl
  | succ n ih => rw [redN, ih, addK_length]
theorem redN_dig (p : Int) (hp : 0 < p) (mod : List Int) (M n : Nat) (c : List Int) (h : Dig p c) : Dig p (redN p mod M n c) := by
  induction n generalizing c with
  | zero => exact h
  | succ n ih => exact ih _ (addK_dig p hp _ _ _ _ _ h)
/-- The reference's product. -/
def refMul (P : Int) (M : Nat) (mod : List Int) (x y : Int) : Int := valL P ((redN P mod M (M - 1) (mulC P M (digs M x P) (digs M y P) M)).take M)

end Go.Proofs.Ytjbfccconjjofaa
