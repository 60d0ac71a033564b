/- Polynomials acting on vectors of integers by a shift: the ring of residues. No program in it. -/
import Derived.Test.YtjbfccconjjofaaPlainE
namespace Go.Proofs.Ytjbfccconjjofaa

/-- X times the residue v, modulo X^m + F. -/
def shf (m : Nat) (F v : Nat → Int) : Nat → Int := fun j => if j < m then (if j = 0 then 0 else v (j - 1)) - v (m - 1) * F j else 0
def va (u v : Nat → Int) : Nat → Int := fun j => u j + v j
def vs (c : Int) (v : Nat → Int) : Nat → Int := fun j => c * v j
def v0 : Nat → Int := fun _ => 0
/-- The polynomial c times v. -/
def act (m : Nat) (F : Nat → Int) : List Int → (Nat → Int) → (Nat → Int)
  | [], _ => v0
  | c :: cs, v => va (vs c v) (shf m F (act m F cs v))
theorem va_comm (u v : Nat → Int) : va u v = va v u := by funext j; exact Int.add_comm _ _
theorem va_assoc (u v x : Nat → Int) : va (va u v) x = va u (va v x) := by funext j; exact Int.add_assoc _ _ _
theorem va_left (u v x : Nat → Int) : va u (va v x) = va v (va u x) := by funext j; exact Int.add_left_comm _ _ _
theorem va_zero (u : Nat → Int) : va u v0 = u := by funext j; exact Int.add_zero _
theorem zero_va (u : Nat → Int) : va v0 u = u := by funext j; exact Int.zero_add _
theorem vs_va (c : Int) (u v : Nat → Int) : vs c (va u v) = va (vs c u) (vs c v) := by funext j; exact Int.mul_add _ _ _
theorem vs_add (c d : Int) (u : Nat → Int) : vs (c + d) u = va (vs c u) (vs d u) := by funext j; exact Int.add_mul _ _ _
theorem vs_vs (c d : Int) (u : Nat → Int) : vs c (vs d u) = vs (c * d) u := by funext j; exact (Int.mul_assoc _ _ _).symm
theorem vs_comm (c d : Int) (u : Nat → Int) : vs c (vs d u) = vs d (vs c u) := by rw [vs_vs, vs_vs, Int.mul_comm]
theorem vs_zero (c : Int) : vs c v0 = v0 := by funext j; exact Int.mul_zero _
theorem zero_vs (u : Nat → Int) : vs 0 u = v0 := by funext j; exact Int.zero_mul _
theorem one_vs (u : Nat → Int) : vs 1 u = u := by funext j; exact Int.one_mul _
theorem shf_va (m : Nat) (F u v : Nat → Int) : shf m F (va u v) = va (shf m F u) (shf m F v) := by
  funext j
  unfold shf va
  by_cases h : j < m
  · by_cases h0 : j = 0
    · simp only [h0, if_true, Int.add_mul]; split <;> omega
    · simp only [h, h0, if_true, if_false, Int.add_mul]; omega
  · simp [h]
theorem shf_vs (m : Nat) (F : Nat → Int) (c : Int) (v : Nat → Int) : shf m F (vs c v) = vs c (shf m F v) := by
  funext j
  unfold shf vs
  by_cases h : j < m
  · by_cases h0 : j = 0
    · subst h0; simp only [h, if_true, Int.mul_sub, Int.mul_zero, Int.mul_assoc]
    · simp only [h, h0, if_true, if_false, Int.mul_sub, Int.mul_assoc]
  · simp [h]
theorem shf_v0 (m : Nat) (F : Nat → Int) : shf m F v0 = v0 := by funext j; unfold shf v0; split <;> (try split) <;> simp
theorem act_v0 (m : Nat) (F : Nat → Int) (c : List Int) : act m F c v0 = v0 := by
  induction c with
  | nil => rfl
  | cons x xs ih => rw [act, ih, shf_v0, vs_zero, va_zero]
theorem act_va (m : Nat) (F : Nat → Int) (c : List Int) (u v : Nat → Int) : act m F c (va u v) = va (act m F c u) (act m F c v) := by
  induction c with
  | nil => exact (va_zero _).symm
  | cons x xs ih => simp only [act]; rw [ih, shf_va, vs_va]; simp only [va_assoc, va_left]
theorem act_vs (m : Nat) (F : Nat → Int) (c : List Int) (k : Int) (v : Nat → Int) : act m F c (vs k v) = vs k (act m F c v) := by
  induction c with
  | nil => exact (vs_zero _).symm
  | cons x xs ih => simp only [act]; rw [ih, shf_vs, vs_va, vs_comm]
theorem act_shf (m : Nat) (F : Nat → Int) (c : List Int) (v : Nat → Int) : act m F c (shf m F v) = shf m F (act m F c v) := by
  induction c with
  | nil => exact (shf_v0 _ _).symm
  | cons x xs ih => simp only [act]; rw [ih, shf_va, shf_vs]
theorem act_comm (m : Nat) (F : Nat → Int) (c d : List Int) (v : Nat → Int) : act m F c (act m F d v) = act m F d (act m F c v) := by
  induction c with
  | nil => exact (act_v0 m F d).symm
  | cons x xs ih => simp only [act]; rw [ih, act_va, act_vs, act_shf]
/-- The sum of two lists of coefficients. -/
def pad : List Int → List Int → List Int
  | [], d => d
  | c :: cs, [] => c :: cs
  | c :: cs, d :: ds => (c + d) :: pad cs ds
theorem act_pad (m : Nat) (F : Nat → Int) (c d : List Int) (v : Nat → Int) : act m F (pad c d) v = va (act m F c v) (act m F d v) := by
  induction c generalizing d with
  | nil => exact (zero_va _).symm
  | cons x xs ih =>
    cases d with
    | nil => exact (va_zero _).symm
    | cons y ys => simp only [pad, act]; rw [ih, shf_va, vs_add]; simp only [va_assoc, va_left]
theorem act_scale (m : Nat) (F : Nat → Int) (k : Int) (c : List Int) (v : Nat → Int) : act m F (c.map (k * ·)) v = vs k (act m F c v) := by
  induction c with
  | nil => exact (vs_zero _).symm
  | cons x xs ih => simp only [List.map_cons, act]; rw [ih, shf_vs, vs_va, vs_vs]
/-- X to the power of n times v. -/
def shN (m : Nat) (F : Nat → Int) : Nat → (Nat → Int) → (Nat → Int)
  | 0, v => v
  | n + 1, v => shf m F (shN m F n v)
theorem shN_va (m : Nat) (F : Nat → Int) (n : Nat) (u v : Nat → Int) : shN m F n (va u v) = va (shN m F n u) (shN m F n v) := by
  induction n with
  | zero => rfl
  | succ n ih => simp only [shN]; rw [ih, shf_va]
theorem shN_vs (m : Nat) (F : Nat → Int) (n : Nat) (c : Int) (v : Nat → Int) : shN m F n (vs c v) = vs c (shN m F n v) := by
  induction n with
  | zero => rfl
  | succ n ih => simp only [shN]; rw [ih, shf_vs]
theorem shN_v0 (m : Nat) (F : Nat → Int) (n : Nat) : shN m F n v0 = v0 := by
  induction n with
  | zero => rfl
  | succ n ih => rw [shN, ih, shf_v0]
theorem shN_shf (m : Nat) (F : Nat → Int) (n : Nat) (v : Nat → Int) : shN m F n (shf m F v) = shf m F (shN m F n v) := by
  induction n with
  | zero => rfl
  | succ n ih => simp only [shN]; rw [ih]
theorem shN_add (m : Nat) (F : Nat → Int) (a b : Nat) (v : Nat → Int) : shN m F (a + b) v = shN m F a (shN m F b v) := by
  induction a with
  | zero => rw [Nat.zero_add]; rfl
  | succ a ih => rw [Nat.succ_add]; simp only [shN]; rw [ih]
theorem act_shN (m : Nat) (F : Nat → Int) (c : List Int) (n : Nat) (v : Nat → Int) : act m F c (shN m F n v) = shN m F n (act m F c v) := by
  induction n with
  | zero => rfl
  | succ n ih => simp only [shN]; rw [act_shf, ih]
theorem act_append (m : Nat) (F : Nat → Int) (c d : List Int) (v : Nat → Int) : act m F (c ++ d) v = va (act m F c v) (shN m F c.length (act m F d v)) := by
  induction c with
  | nil => exact (zero_va _).symm
  | cons x xs ih => simp only [List.cons_append, act, List.length_cons, shN]; rw [ih, shf_va, va_assoc]
/-- The residue 1. -/
def e0 : Nat → Int := fun j => if j = 0 then 1 else 0
def vecL (l : List Int) : Nat → Int := fun j => l.getD j 0
theorem vecL_far (l : List Int) (j : Nat) (h : l.length ≤ j) : vecL l j = 0 := by
  simp [vecL, List.getD_eq_getElem?_getD, List.getElem?_eq_none h]
theorem act_e0 (m : Nat) (F : Nat → Int) (l : List Int) (h : l.length ≤ m) : act m F l e0 = vecL l := by
  induction l with
  | nil => funext j; simp [act, v0, vecL]
  | cons c cs ih =>
    rw [act, ih (by simp at h; omega)]
    funext j
    have h0 : vecL cs (m - 1) = 0 := vecL_far _ _ (by simp at h; omega)
    unfold va vs shf
    rw [h0]
    cases j with
    | zero => simp [e0, vecL]
    | succ j =>
      by_cases hj : j + 1 < m
      · simp [hj, e0, vecL]
      · have := vecL_far (c :: cs) (j + 1) (by simp at h ⊢; omega)
        rw [this]; simp [hj, e0]
theorem shN_e0 (m : Nat) (F : Nat → Int) (n : Nat) (h : n < m) : shN m F n e0 = fun j => if j = n then 1 else 0 := by
  have h1 := act_append m F (List.replicate n 0) [1] e0
  have h2 : act m F (List.replicate n 0) e0 = v0 := by
    clear h1
    induction n with
    | zero => rfl
    | succ n ih => rw [List.replicate_succ, act, ih (by omega), shf_v0, zero_vs, va_zero]
  have h3 : act m F [1] e0 = e0 := by simp only [act]; rw [shf_v0, va_zero, one_vs]
  rw [h2, h3, zero_va, List.length_replicate] at h1
  rw [← h1, act_e0 m F _ (by simp; omega)]
  funext j
  simp only [vecL, List.getD_eq_getElem?_getD]
  by_cases hj : j < n
  · rw [List.getElem?_append_left (by simpa using hj)]
    simp [hj]; omega
  · rw [List.getElem?_append_right (by simp; omega), List.length_replicate]
    by_cases e : j = n
    · subst e; simp
    · have : j - n ≠ 0 := by omega
      simp [e, this]
/-- The vector is 0 from place m on. -/
def Sup (m : Nat) (v : Nat → Int) : Prop := ∀ j, m ≤ j → v j = 0
theorem Sup.shf (m : Nat) (F v : Nat → Int) : Sup m (shf m F v) := fun j hj => by unfold Go.Proofs.Ytjbfccconjjofaa.shf; rw [if_neg (by omega)]
theorem Sup.act {m : Nat} (F : Nat → Int) (c : List Int) {v : Nat → Int} (h : Sup m v) : Sup m (act m F c v) := by
  cases c with
  | nil => exact fun j _ => rfl
  | cons x xs => exact fun j hj => by show x * v j + Go.Proofs.Ytjbfccconjjofaa.shf m F _ j = 0; rw [h j hj, Sup.shf m F _ j hj]; simp
theorem shN_top (m : Nat) (F : Nat → Int) (hm : 1 ≤ m) : shN m F m e0 = fun j => if j < m then - F j else 0 := by
  obtain ⟨k, rfl⟩ : ∃ k, m = k + 1 := ⟨m - 1, by omega⟩
  rw [shN, shN_e0 (k + 1) F k (by omega)]
  funext j
  unfold shf
  by_cases h : j < k + 1
  · by_cases h0 : j = 0
    · simp [h0]
    · have : j - 1 ≠ k := by omega
      simp [h, h0, this]
  · simp [h]
/-- The field's polynomial is 0. -/
theorem act_poly_e0 (m : Nat) (low : List Int) (hm : 1 ≤ m) (hl : low.length = m) : act m (vecL low) (low ++ [1]) e0 = v0 := by
  rw [act_append, act_e0 _ _ _ (by omega)]
  have h3 : act m (vecL low) [1] e0 = e0 := by simp only [act]; rw [shf_v0, va_zero, one_vs]
  rw [h3, hl, shN_top m _ hm]
  funext j
  show vecL low j + (if j < m then - vecL low j else 0) = 0
  by_cases h : j < m
  · rw [if_pos h]; omega
  · rw [if_neg h, vecL_far _ _ (by omega)]; rfl
theorem act_poly (m : Nat) (low : List Int) (hm : 1 ≤ m) (hl : low.length = m) (l : List Int) (h : l.length ≤ m) : act m (vecL low) (low ++ [1]) (vecL l) = v0 := by
  rw [← act_e0 m (vecL low) l h, act_comm, act_poly_e0 m low hm hl, act_v0]

end Go.Proofs.Ytjbfccconjjofaa
