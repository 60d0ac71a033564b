/- The elements of a field in range are a commutative ring. No program in it. -/
import Derived.Test.YtjbfccconjjofaaMathB
namespace Go.Proofs.Ytjbfccconjjofaa

theorem ev_zero (P : Int) (M : Nat) : ev P M 0 = v0 := by
  have : ∀ M, ∀ j, (digs M 0 P).getD j 0 = 0 := by
    intro M
    induction M with
    | zero => intro j; simp [digs]
    | succ M ih =>
      intro j
      cases j with
      | zero => simp [digs]
      | succ j => have := ih j; simpa [digs] using this
  funext j; exact this M j
theorem ev_one (P : Int) (hP : 2 ≤ P) (M : Nat) (hM : 1 ≤ M) : ev P M 1 = e0 := by
  obtain ⟨k, rfl⟩ : ∃ k, M = k + 1 := ⟨M - 1, by omega⟩
  funext j
  have h1 : (1 : Int) % P = 1 := Int.emod_eq_of_lt (by omega) (by omega)
  have h2 : (1 : Int) / P = 0 := Int.ediv_eq_zero_of_lt (by omega) (by omega)
  unfold ev vecL e0
  simp only [digs, h1, h2]
  cases j with
  | zero => simp
  | succ j =>
    have := congrFun (ev_zero P k) j
    simpa [ev, vecL, v0] using this
theorem addS_cg {P : Int} (hP : 2 ≤ P) (M : Nat) (x y : Int) : Cg P (ev P M (addS P M x y)) (va (ev P M x) (ev P M y)) := by
  unfold ev addS
  have e := digs_val P hP (addL P (digs M x P) (digs M y P)) (addL_dig P (by omega) _ _)
  rw [addL_length _ _ _ (by rw [digs_length, digs_length]), digs_length] at e
  rw [e]
  intro j
  by_cases hj : j < M
  · have h := addL_at P (digs M x P) (digs M y P) j (by rw [digs_length]; exact hj) (by rw [digs_length]; exact hj)
    obtain ⟨k, hk⟩ := emod_wit P ((digs M x P).getD j 0 + (digs M y P).getD j 0)
    exact ⟨k, by show (addL P (digs M x P) (digs M y P)).getD j 0 = _; rw [h, hk]; rfl⟩
  · refine ⟨0, ?_⟩
    rw [vecL_far _ _ (by rw [addL_length _ _ _ (by rw [digs_length, digs_length]), digs_length]; omega)]
    show 0 = vecL _ j + vecL _ j + _
    rw [vecL_far _ _ (by rw [digs_length]; omega), vecL_far _ _ (by rw [digs_length]; omega)]; omega
theorem negS_cg {P : Int} (hP : 2 ≤ P) (M : Nat) (x : Int) : Cg P (ev P M (negS P M x)) (vs (-1) (ev P M x)) := by
  unfold ev negS
  have e := digs_val P hP (negL P (digs M x P)) (negL_dig P (by omega) _)
  have hl : (negL P (digs M x P)).length = M := by simp [negL, digs_length]
  rw [hl] at e
  rw [e]
  intro j
  by_cases hj : j < M
  · obtain ⟨k, hk⟩ := emod_wit P (P - (digs M x P).getD j 0)
    refine ⟨1 + k, ?_⟩
    have h : (negL P (digs M x P)).getD j 0 = (P - (digs M x P).getD j 0) % P := by
      simp [negL, List.getD_eq_getElem?_getD, List.getElem?_map, List.getElem?_eq_getElem (show j < (digs M x P).length by rw [digs_length]; exact hj)]
    show (negL P (digs M x P)).getD j 0 = -1 * (digs M x P).getD j 0 + _
    rw [h, hk, Int.mul_add]; omega
  · refine ⟨0, ?_⟩
    rw [vecL_far _ _ (by rw [hl]; omega)]
    show 0 = -1 * vecL _ j + _
    rw [vecL_far _ _ (by rw [digs_length]; omega)]; omega

/-- A description in range. -/
structure FS where
  P : Int
  M : Nat
  mod : List Int
  shp : Shp P M mod
namespace FS
def q (S : FS) : Nat := (S.P ^ S.M).toNat
theorem hq (S : FS) : (S.q : Int) = S.P ^ S.M := Int.toNat_of_nonneg (by have := pow_ge S.P S.shp.p2 S.M; omega)
theorem q2 (S : FS) : 2 ≤ S.q := by
  have h1 := pow_mono S.P (by have := S.shp.p2; omega) 1 S.M S.shp.m1
  rw [Int.pow_succ, Int.pow_zero, Int.one_mul, ← S.hq] at h1
  have := S.shp.p2
  omega
theorem q256 (S : FS) : S.q ≤ 256 := by have := S.shp.q; rw [← S.hq] at this; omega
/-- The field's polynomial, its low coefficients. -/
def low (S : FS) : List Int := lowOf S.M S.mod
def mul (S : FS) : Int → Int → Int := mulS S.P S.M S.low
theorem lowLen (S : FS) : S.low.length = S.M := S.shp.lowLen
theorem mul_bd (S : FS) (x y : Int) : 0 ≤ S.mul x y ∧ S.mul x y < S.q := by
  rw [S.hq]
  have := valL_bd S.P S.shp.p2 (hor S.P S.low (digs S.M x S.P) (digs S.M y S.P)) (hor_dig S.P (by have := S.shp.p2; omega) _ _ _)
  rw [hor_length _ _ _ _ (by rw [S.lowLen]; exact S.shp.m1) (by rw [digs_length, S.lowLen]), S.lowLen] at this
  exact this
theorem add_bd (S : FS) (x y : Int) : 0 ≤ addS S.P S.M x y ∧ addS S.P S.M x y < S.q := by rw [S.hq]; exact addS_bd S.P S.shp.p2 S.M x y
theorem neg_bd (S : FS) (x : Int) : 0 ≤ negS S.P S.M x ∧ negS S.P S.M x < S.q := by rw [S.hq]; exact negS_bd S.P S.shp.p2 S.M x
end FS
/-- An element. -/
def El (S : FS) : Type := { x : Int // 0 ≤ x ∧ x < S.q }
namespace El
variable {S : FS}
theorem eq {a b : El S} (h : a.1 = b.1) : a = b := Subtype.ext h
instance : DecidableEq (El S) := inferInstanceAs (DecidableEq { x : Int // 0 ≤ x ∧ x < S.q })
instance : Zero (El S) := ⟨⟨0, Int.le_refl _, by have := S.q2; omega⟩⟩
instance : One (El S) := ⟨⟨1, by omega, by have := S.q2; omega⟩⟩
instance : Add (El S) := ⟨fun a b => ⟨addS S.P S.M a.1 b.1, S.add_bd _ _⟩⟩
instance : Mul (El S) := ⟨fun a b => ⟨S.mul a.1 b.1, S.mul_bd _ _⟩⟩
instance : Neg (El S) := ⟨fun a => ⟨negS S.P S.M a.1, S.neg_bd _⟩⟩
theorem val_add (a b : El S) : (a + b).1 = addS S.P S.M a.1 b.1 := rfl
theorem val_mul (a b : El S) : (a * b).1 = S.mul a.1 b.1 := rfl
theorem val_neg (a : El S) : (-a).1 = negS S.P S.M a.1 := rfl
theorem val_zero : (0 : El S).1 = 0 := rfl
theorem val_one : (1 : El S).1 = 1 := rfl
/-- The vector of an element. -/
def v (a : El S) : Nat → Int := ev S.P S.M a.1
theorem ext {a b : El S} (h : Cg S.P a.v b.v) : a = b :=
  eq (el_ext S.shp.p2 a.2.1 (by rw [← S.hq]; exact a.2.2) b.2.1 (by rw [← S.hq]; exact b.2.2) h)
/-- b as a polynomial, times a vector. -/
def op (b : El S) (u : Nat → Int) : Nat → Int := act S.M (vecL S.low) (digs S.M b.1 S.P) u
theorem op_e0 (b : El S) : b.op e0 = b.v := ev_act _ _ _ _
theorem op_comm (a b : El S) (u : Nat → Int) : a.op (b.op u) = b.op (a.op u) := act_comm _ _ _ _ _
theorem op_cg (a : El S) {u w : Nat → Int} (h : Cg S.P u w) : Cg S.P (a.op u) (a.op w) := Cg.act _ _ _ h
theorem op_va (a : El S) (u w : Nat → Int) : a.op (va u w) = va (a.op u) (a.op w) := act_va _ _ _ _ _
theorem v_mul (a b : El S) : Cg S.P (a * b).v (b.op a.v) := mulS_cg S.shp a.1 b.1
theorem v_add (a b : El S) : Cg S.P (a + b).v (va a.v b.v) := addS_cg S.shp.p2 S.M a.1 b.1
theorem v_neg (a : El S) : Cg S.P (-a).v (vs (-1) a.v) := negS_cg S.shp.p2 S.M a.1
theorem v_zero : (0 : El S).v = v0 := ev_zero _ _
theorem v_one : (1 : El S).v = e0 := ev_one _ S.shp.p2 _ S.shp.m1
theorem mul_comm (a b : El S) : a * b = b * a := by
  apply ext
  refine (v_mul a b).trans (Cg.trans ?_ (v_mul b a).symm)
  rw [← op_e0 a, op_comm, op_e0]
  exact Cg.refl _ _
theorem mul_assoc (a b c : El S) : a * b * c = a * (b * c) := by
  apply ext
  refine (v_mul (a * b) c).trans ((op_cg c (v_mul a b)).trans ?_)
  rw [mul_comm a (b * c)]
  refine Cg.symm ((v_mul (b * c) a).trans ((op_cg a (v_mul b c)).trans ?_))
  rw [← op_e0 a, ← op_e0 b, op_comm b a, op_comm a c]
  exact Cg.refl _ _
theorem mul_one (a : El S) : a * 1 = a := by
  rw [mul_comm]
  apply ext
  refine (v_mul 1 a).trans ?_
  rw [v_one, op_e0]; exact Cg.refl _ _
theorem one_mul (a : El S) : 1 * a = a := by rw [mul_comm, mul_one]
theorem add_comm (a b : El S) : a + b = b + a := by
  apply ext
  refine (v_add a b).trans (Cg.trans ?_ (v_add b a).symm)
  rw [va_comm]; exact Cg.refl _ _
theorem add_assoc (a b c : El S) : a + b + c = a + (b + c) := by
  apply ext
  refine (v_add (a + b) c).trans (((v_add a b).va (Cg.refl _ _)).trans ?_)
  rw [va_assoc]
  exact Cg.symm ((v_add a (b + c)).trans ((Cg.refl _ _).va (v_add b c)))
theorem add_zero (a : El S) : a + 0 = a := by
  apply ext
  refine (v_add a 0).trans ?_
  rw [v_zero, va_zero]; exact Cg.refl _ _
theorem zero_add (a : El S) : 0 + a = a := by rw [add_comm, add_zero]
theorem add_neg (a : El S) : a + -a = 0 := by
  apply ext
  refine (v_add a (-a)).trans (((Cg.refl _ _).va (v_neg a)).trans ?_)
  rw [v_zero]
  intro j
  exact ⟨0, by show a.v j + -1 * a.v j = 0 + _; omega⟩
theorem neg_add (a : El S) : -a + a = 0 := by rw [add_comm, add_neg]
theorem add_mul (a b c : El S) : (a + b) * c = a * c + b * c := by
  apply ext
  refine (v_mul (a + b) c).trans ((op_cg c (v_add a b)).trans ?_)
  rw [op_va]
  exact Cg.symm ((v_add (a * c) (b * c)).trans ((v_mul a c).va (v_mul b c)))
theorem mul_add (a b c : El S) : a * (b + c) = a * b + a * c := by rw [mul_comm, add_mul, mul_comm b, mul_comm c]
theorem mul_left_comm (a b c : El S) : a * (b * c) = b * (a * c) := by rw [← mul_assoc, mul_comm a b, mul_assoc]
theorem add_left_comm (a b c : El S) : a + (b + c) = b + (a + c) := by rw [← add_assoc, add_comm a b, add_assoc]
theorem add_left_cancel {a b c : El S} (h : a + b = a + c) : b = c := by
  have : -a + (a + b) = -a + (a + c) := by rw [h]
  rwa [← add_assoc, ← add_assoc, neg_add, zero_add, zero_add] at this
theorem mul_zero (a : El S) : a * 0 = 0 := by
  have h : a * 0 + a * 0 = a * 0 + 0 := by rw [← mul_add, add_zero, add_zero]
  exact add_left_cancel h
theorem zero_mul (a : El S) : 0 * a = 0 := by rw [mul_comm, mul_zero]
theorem neg_eq {a b : El S} (h : a + b = 0) : b = -a := add_left_cancel (h.trans (add_neg a).symm)
theorem neg_neg (a : El S) : - -a = a := (neg_eq (neg_add a)).symm
theorem neg_mul (a b : El S) : -a * b = -(a * b) := neg_eq (by rw [← add_mul, add_neg, zero_mul])
theorem mul_neg (a b : El S) : a * -b = -(a * b) := by rw [mul_comm, neg_mul, mul_comm]
theorem neg_zero : -(0 : El S) = 0 := (neg_eq (add_zero 0)).symm
theorem sub_eq {a b : El S} : a + -b = 0 ↔ a = b := by
  constructor
  · intro h
    have : a + -b + b = 0 + b := by rw [h]
    rwa [add_assoc, neg_add, add_zero, zero_add] at this
  · rintro rfl; exact add_neg a
theorem one_ne_zero : (1 : El S) ≠ 0 := fun h => by
  have := congrArg Subtype.val h
  exact absurd this (by show (1 : Int) ≠ 0; omega)
theorem neg_add_rev (a b : El S) : -(a + b) = -a + -b := by
  symm
  apply neg_eq
  rw [add_assoc, add_left_comm b, add_neg, add_zero, add_neg]
/-- The powers of an element. -/
def pow (a : El S) : Nat → El S
  | 0 => 1
  | n + 1 => pow a n * a
theorem pow_add (a : El S) (m n : Nat) : pow a (m + n) = pow a m * pow a n := by
  induction n with
  | zero => rw [Nat.add_zero, pow, mul_one]
  | succ n ih => rw [← Nat.add_assoc, pow, ih, pow, mul_assoc]
theorem pow_mul (a : El S) (m n : Nat) : pow a (m * n) = pow (pow a m) n := by
  induction n with
  | zero => rw [Nat.mul_zero]; rfl
  | succ n ih => rw [Nat.mul_succ, pow_add, ih, pow]
theorem one_pow (n : Nat) : pow (1 : El S) n = 1 := by
  induction n with
  | zero => rfl
  | succ n ih => rw [pow, ih, mul_one]
theorem mul_pow (a b : El S) (n : Nat) : pow (a * b) n = pow a n * pow b n := by
  induction n with
  | zero => rw [pow, pow, pow, mul_one]
  | succ n ih => rw [pow, ih, pow, pow]; simp only [mul_assoc, mul_left_comm]
theorem pow_one (a : El S) : pow a 1 = a := by rw [pow, pow, one_mul]
/-- 'pw' is the power. -/
theorem pw_val (a : El S) (n : Nat) : pw S.mul a.1 n = (pow a n).1 := by
  match n with
  | 0 => rfl
  | 1 => rw [pow_one]; rfl
  | n + 2 =>
    show S.mul (pw S.mul a.1 (n + 1)) a.1 = (pow a (n + 1) * a).1
    rw [pw_val a (n + 1)]; rfl
/-- No zero divisors. -/
def Dom (S : FS) : Prop := ∀ a b : El S, a * b = 0 → a = 0 ∨ b = 0
end El

end Go.Proofs.Ytjbfccconjjofaa
