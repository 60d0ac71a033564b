/- Plain facts on sums of elements: no program in it. -/
import Derived.Test.YtjbfccconjjofaaPlainC
namespace Go.Proofs.Ytjbfccconjjofaa

theorem addS_zero (P x y : Int) : addS P 0 x y = 0 := rfl
theorem addS_succ (P : Int) (M : Nat) (x y : Int) : addS P (M + 1) x y = addS P M (x / P) (y / P) * P + (x % P + y % P) % P := rfl
theorem addS_00 (P : Int) (M : Nat) : addS P M 0 0 = 0 := by
  induction M with
  | zero => rfl
  | succ M ih => rw [addS_succ]; simp [ih]
theorem addS_bd (P : Int) (hp : 2 ≤ P) (M : Nat) (x y : Int) : 0 ≤ addS P M x y ∧ addS P M x y < P ^ M := by
  have := valL_bd P hp (addL P (digs M x P) (digs M y P)) (addL_dig P (by omega) _ _)
  rwa [addL_length _ _ _ (by rw [digs_length, digs_length]), digs_length] at this
theorem nat_xor_step (a b : Nat) : a ^^^ b = ((a / 2) ^^^ (b / 2)) * 2 + (a % 2 + b % 2) % 2 := by
  have h1 : (a ^^^ b) / 2 = a / 2 ^^^ b / 2 := Nat.xor_div_two
  have h2 : (a ^^^ b) % 2 = (a + b) % 2 := by
    have h := @Nat.xor_mod_two_eq_one a b
    omega
  omega
theorem addS_xor (M : Nat) : ∀ a b : Nat, a < 2 ^ M → b < 2 ^ M → ((a ^^^ b : Nat) : Int) = addS 2 M a b := by
  induction M with
  | zero =>
    intro a b ha hb
    have : a = 0 := by simpa using ha
    have : b = 0 := by simpa using hb
    subst a b; rfl
  | succ M ih =>
    intro a b ha hb
    rw [Nat.pow_succ] at ha hb
    rw [nat_xor_step, addS_succ]
    have := ih (a / 2) (b / 2) (by omega) (by omega)
    simp only [Int.natCast_add, Int.natCast_mul, Int.natCast_emod, Int.natCast_ediv] at this ⊢
    rw [this]; rfl

end Go.Proofs.Ytjbfccconjjofaa
