/- Residues modulo p: the program's and the reference's product are the product of the residues. No program in it. -/
import Derived.Test.YtjbfccconjjofaaMathA
namespace Go.Proofs.Ytjbfccconjjofaa

/-- Equal modulo p, entry by entry. -/
def Cg (p : Int) (u v : Nat → Int) : Prop := ∀ j, ∃ k, u j = v j + p * k
theorem Cg.refl (p : Int) (u : Nat → Int) : Cg p u u := fun j => ⟨0, by omega⟩
theorem Cg.symm {p : Int} {u v : Nat → Int} (h : Cg p u v) : Cg p v u := fun j => by
  obtain ⟨k, e⟩ := h j
  exact ⟨-k, by rw [e, Int.mul_neg]; omega⟩
theorem Cg.trans {p : Int} {u v x : Nat → Int} (h : Cg p u v) (h2 : Cg p v x) : Cg p u x := fun j => by
  obtain ⟨k, e⟩ := h j
  obtain ⟨l, e2⟩ := h2 j
  exact ⟨k + l, by rw [e, e2, Int.mul_add]; omega⟩
theorem Cg.va {p : Int} {u v x y : Nat → Int} (h : Cg p u v) (h2 : Cg p x y) : Cg p (va u x) (va v y) := fun j => by
  obtain ⟨k, e⟩ := h j
  obtain ⟨l, e2⟩ := h2 j
  exact ⟨k + l, by show u j + x j = (v j + y j) + _; rw [e, e2, Int.mul_add]; omega⟩
theorem Cg.vs {p : Int} (c : Int) {u v : Nat → Int} (h : Cg p u v) : Cg p (vs c u) (vs c v) := fun j => by
  obtain ⟨k, e⟩ := h j
  exact ⟨c * k, by show c * u j = c * v j + _; rw [e, Int.mul_add, Int.mul_left_comm]⟩
theorem Cg.vsc {p c d : Int} (k : Int) (h : c = d + p * k) (u : Nat → Int) : Cg p (Go.Proofs.Ytjbfccconjjofaa.vs c u) (Go.Proofs.Ytjbfccconjjofaa.vs d u) := fun j =>
  ⟨k * u j, by show c * u j = d * u j + _; rw [h, Int.add_mul, Int.mul_assoc]⟩
theorem Cg.shf {p : Int} {u v : Nat → Int} (m : Nat) (F : Nat → Int) (h : Cg p u v) : Cg p (shf m F u) (shf m F v) := fun j => by
  unfold Go.Proofs.Ytjbfccconjjofaa.shf
  by_cases hj : j < m
  · obtain ⟨l, e2⟩ := h (m - 1)
    by_cases h0 : j = 0
    · refine ⟨- (l * F j), ?_⟩
      simp only [h0, if_true]
      rw [e2, Int.add_mul, Int.mul_neg, Int.mul_assoc]; omega
    · obtain ⟨k, e⟩ := h (j - 1)
      refine ⟨k - l * F j, ?_⟩
      simp only [hj, h0, if_true, if_false]
      rw [e, e2, Int.add_mul, Int.mul_sub, Int.mul_assoc]; omega
  · exact ⟨0, by simp [hj]⟩
theorem Cg.act {p : Int} {u v : Nat → Int} (m : Nat) (F : Nat → Int) (c : List Int) (h : Cg p u v) : Cg p (act m F c u) (act m F c v) := by
  induction c with
  | nil => exact Cg.refl _ _
  | cons x xs ih => exact (Cg.vs x h).va (Cg.shf m F ih)
theorem Cg.shN {p : Int} {u v : Nat → Int} (m : Nat) (F : Nat → Int) (n : Nat) (h : Cg p u v) : Cg p (shN m F n u) (shN m F n v) := by
  induction n with
  | zero => exact h
  | succ n ih => exact Cg.shf m F ih
theorem dig_ext {p : Int} {a b : List Int} (hl : a.length = b.length) (ha : Dig p a) (hb : Dig p b) (h : Cg p (vecL a) (vecL b)) : a = b := by
  apply List.ext_getElem hl
  intro j h1 h2
  obtain ⟨k, e⟩ := h j
  have da := ha j h1
  have db := hb j h2
  simp only [vecL, List.getD_eq_getElem?_getD, List.getElem?_eq_getElem h1, List.getElem?_eq_getElem h2, Option.getD_some] at e da db
  have hk : k = 0 := by
    have hp : 0 < p := by omega
    rcases Int.lt_trichotomy k 0 with hk | hk | hk
    · have : p * k ≤ p * (-1) := Int.mul_le_mul_of_nonneg_left (by omega) (by omega)
      omega
    · exact hk
    · have : p * 1 ≤ p * k := Int.mul_le_mul_of_nonneg_left (by omega) (by omega)
      omega
  rw [e, hk]; omega
theorem el_ext {p : Int} (hp : 2 ≤ p) {m : Nat} {x y : Int} (hx : 0 ≤ x) (hx2 : x < p ^ m) (hy : 0 ≤ y) (hy2 : y < p ^ m) (h : Cg p (vecL (digs m x p)) (vecL (digs m y p))) : x = y := by
  have e := dig_ext (by rw [digs_length, digs_length]) (digs_dig m x p hp) (digs_dig m y p hp) h
  rw [← val_digs p hp m x hx hx2, e, val_digs p hp m y hy hy2]
theorem emod_wit (p x : Int) : ∃ k, x % p = x + p * k := ⟨-(x / p), by have := Int.mul_ediv_add_emod x p; rw [Int.mul_neg]; omega⟩

theorem rowL_at (p t c : Int) (o l a : List Int) (j : Nat) (h1 : j < o.length) (h2 : j < l.length) (h3 : j < a.length) : (rowL p t c o l a).getD j 0 = (o.getD j 0 + t * l.getD j 0 + c * a.getD j 0) % p := by
  induction o generalizing l a j with
  | nil => simp at h1
  | cons x xs ih =>
    cases l with
    | nil => simp at h2
    | cons y ys => cases a with
      | nil => simp at h3
      | cons z zs =>
        cases j with
        | zero => simp [rowL]
        | succ j =>
          have := ih ys zs j (by simpa using h1) (by simpa using h2) (by simpa using h3)
          simpa [rowL] using this
theorem stepL_cg (p : Int) (m : Nat) (low a out : List Int) (c : Int) (hm : 1 ≤ m) (hl : low.length = m) (ha : a.length = m) (ho : out.length = m) :
    Cg p (vecL (stepL p low a c out)) (va (vs c (vecL a)) (shf m (vecL low) (vecL out))) := fun j => by
  by_cases hj : j < m
  · have h1 := rowL_at p (p - out.getD (out.length - 1) 0) c (0 :: out.take (out.length - 1)) low a j (by simp; omega) (by omega) (by omega)
    obtain ⟨k, e⟩ := emod_wit p ((0 :: out.take (out.length - 1)).getD j 0 + (p - out.getD (out.length - 1) 0) * low.getD j 0 + c * a.getD j 0)
    have e2 : (0 :: out.take (out.length - 1)).getD j 0 = if j = 0 then 0 else out.getD (j - 1) 0 := by
      cases j with
      | zero => simp
      | succ j =>
        have hjl : j < out.length - 1 := by omega
        rw [if_neg (by omega), List.getD_cons_succ, Nat.add_sub_cancel]
        simp only [List.getD_eq_getElem?_getD, List.getElem?_take, hjl, if_true]
    refine ⟨k + low.getD j 0, ?_⟩
    show (stepL p low a c out).getD j 0 = _
    unfold stepL
    rw [h1, e, e2, ho]
    unfold va vs shf vecL
    rw [if_pos hj, Int.mul_add, Int.sub_mul]
    omega
  · refine ⟨0, ?_⟩
    rw [vecL_far _ _ (by rw [stepL_length _ _ _ _ _ (by omega) (by omega) (by omega)]; omega)]
    unfold va vs shf
    rw [if_neg hj, vecL_far _ _ (by omega)]; omega
theorem hor_cg (p : Int) (m : Nat) (low a b : List Int) (hm : 1 ≤ m) (hl : low.length = m) (ha : a.length = m) : Cg p (vecL (hor p low a b)) (act m (vecL low) b (vecL a)) := by
  induction b with
  | nil =>
    intro j
    refine ⟨0, ?_⟩
    simp [hor, act, v0, vecL, List.getD_eq_getElem?_getD, List.getElem?_replicate]
    split <;> rfl
  | cons c b ih =>
    exact (stepL_cg p m low a _ c hm hl ha (by rw [hor_length _ _ _ _ (by omega) (by omega)]; exact hl)).trans ((Cg.refl _ _).va (Cg.shf m _ ih))

theorem act_set (m : Nat) (F : Nat → Int) (r : List Int) (i : Nat) (u : Int) (v : Nat → Int) (hi : i < r.length) : act m F (r.set i u) v = va (act m F r v) (vs (u - r.getD i 0) (shN m F i v)) := by
  induction r generalizing i with
  | nil => simp at hi
  | cons x xs ih =>
    cases i with
    | zero =>
      simp only [List.set_cons_zero, act, shN, List.getD_cons_zero]
      rw [va_comm (vs x v), va_assoc, ← vs_add, va_comm]
      congr 2; omega
    | succ i =>
      simp only [List.set_cons_succ, act, shN, List.getD_cons_succ]
      rw [ih i (by simpa using hi), shf_va, shf_vs, va_assoc]
theorem act_take_snoc (m : Nat) (F : Nat → Int) (l : List Int) (k : Nat) (v : Nat → Int) (h : k < l.length) : act m F (l.take (k + 1)) v = va (act m F (l.take k) v) (vs (l.getD k 0) (shN m F k v)) := by
  rw [take_snoc l k h, act_append]
  have h3 : act m F [l.getD k 0] v = vs (l.getD k 0) v := by simp only [act]; rw [shf_v0, va_zero]
  rw [h3, shN_vs, List.length_take, Nat.min_eq_left (by omega)]
theorem addK_cg (p : Int) (m : Nat) (F : Nat → Int) (l r : List Int) (t : Nat) (x : Int) (k : Nat) (v : Nat → Int) (h1 : t + k ≤ r.length) (h2 : k ≤ l.length) :
    Cg p (act m F (addK p l t x k r) v) (va (act m F r v) (vs x (shN m F t (act m F (l.take k) v)))) := by
  induction k with
  | zero => rw [List.take_zero]; simp only [act]; rw [shN_v0, vs_zero, va_zero]; exact Cg.refl _ _
  | succ k ih =>
    rw [addK, act_set _ _ _ _ _ _ (by rw [addK_length]; omega), act_take_snoc _ _ _ _ _ (by omega), shN_va, vs_va, ← va_assoc]
    refine (ih (by omega) (by omega)).va ?_
    obtain ⟨w, e⟩ := emod_wit p ((addK p l t x k r).getD (t + k) 0 + x * l.getD k 0)
    rw [shN_vs, vs_vs, ← shN_add]
    exact Cg.vsc w (by rw [e]; omega) _
theorem mulC_cg (p : Int) (m : Nat) (F : Nat → Int) (M : Nat) (a b : List Int) (n : Nat) (v : Nat → Int) (hM : 1 ≤ M) (hn : n ≤ M) (ha : a.length = M) (hb : b.length = M) :
    Cg p (act m F (mulC p M a b n) v) (act m F (a.take n) (act m F b v)) := by
  induction n with
  | zero =>
    rw [List.take_zero]
    have : ∀ k, act m F (List.replicate k 0) v = v0 := fun k => by
      induction k with
      | zero => rfl
      | succ k ih => rw [List.replicate_succ, act, ih, shf_v0, zero_vs, va_zero]
    rw [mulC, this]; exact Cg.refl _ _
  | succ n ih =>
    rw [mulC, act_take_snoc _ _ _ _ _ (by omega)]
    refine (addK_cg p m F b _ n _ M v (by rw [mulC_length]; omega) (by omega)).trans ?_
    rw [List.take_of_length_le (by omega)]
    exact (ih (by omega)).va (Cg.refl _ _)
theorem redN_cg (p : Int) (m : Nat) (low : List Int) (t : Nat) (C : List Int) (hm : 1 ≤ m) (hl : low.length = m) (hC : m + t ≤ C.length) :
    Cg p (act m (vecL low) ((redN p low m t C).take m) e0) (act m (vecL low) (C.take (m + t)) e0) := by
  induction t generalizing C with
  | zero => exact Cg.refl _ _
  | succ n ih =>
    rw [redN]
    refine (ih _ (by rw [addK_length]; omega)).trans ?_
    rw [show m + (n + 1) = m + n + 1 from by omega, act_take_snoc _ _ _ _ _ (by omega)]
    have e : (addK p low n (p - C.getD (m + n) 0) m C).take (m + n) = addK p low n (p - C.getD (m + n) 0) m (C.take (m + n)) := by
      have : ∀ k, k ≤ m → (addK p low n (p - C.getD (m + n) 0) k C).take (m + n) = addK p low n (p - C.getD (m + n) 0) k (C.take (m + n)) := by
        intro k hk
        induction k with
        | zero => rfl
        | succ k ihk =>
          rw [addK, addK, List.take_set, ihk (by omega)]
          congr 3
          rw [← ihk (by omega)]
          simp [List.getD_eq_getElem?_getD, show n + k < m + n by omega]
      exact this m (Nat.le_refl _)
    rw [e]
    refine (addK_cg p m (vecL low) low _ n _ m e0 (by rw [List.length_take]; omega) (by omega)).trans ?_
    rw [List.take_of_length_le (show low.length ≤ m by omega)]
    refine (Cg.refl _ _).va ?_
    rw [act_e0 _ _ _ (by omega), Nat.add_comm m n, shN_add, shN_top m _ hm]
    have e3 : (fun j => if j < m then - vecL low j else 0) = vs (-1) (vecL low) := by
      funext j
      unfold vs
      by_cases h : j < m
      · rw [if_pos h]; omega
      · rw [if_neg h, vecL_far _ _ (by omega)]; rfl
    rw [e3, shN_vs, vs_vs]
    exact Cg.vsc 1 (by omega) _

/-- The vector of the element x. -/
def ev (P : Int) (M : Nat) (x : Int) : Nat → Int := vecL (digs M x P)
theorem ev_act (P : Int) (M : Nat) (F : Nat → Int) (x : Int) : act M F (digs M x P) e0 = ev P M x := act_e0 M F _ (by rw [digs_length]; exact Nat.le_refl _)
theorem mulS_cg {P : Int} {M : Nat} {mod : List Int} (hs : Shp P M mod) (x y : Int) : Cg P (ev P M (mulS P M (lowOf M mod) x y)) (act M (vecL (lowOf M mod)) (digs M y P) (ev P M x)) := by
  unfold ev mulS
  have hl := hor_length P (lowOf M mod) (digs M x P) (digs M y P) (by rw [hs.lowLen]; exact hs.m1) (by rw [digs_length, hs.lowLen])
  have e := digs_val P hs.p2 (hor P (lowOf M mod) (digs M x P) (digs M y P)) (hor_dig P (by have := hs.p2; omega) _ _ _)
  rw [hl, hs.lowLen] at e
  rw [e]
  exact hor_cg P M _ _ _ hs.m1 hs.lowLen (digs_length _ _ _)
theorem refMul_cg {P : Int} {M : Nat} {mod : List Int} (hs : Shp P M mod) (x y : Int) : Cg P (ev P M (refMul P M mod x y)) (act M (vecL (lowOf M mod)) (digs M y P) (ev P M x)) := by
  unfold refMul
  have hl : ((redN P mod M (M - 1) (mulC P M (digs M x P) (digs M y P) M)).take M).length = M := by
    rw [List.length_take, redN_length, mulC_length]; have := hs.m1; omega
  have hd : Dig P ((redN P mod M (M - 1) (mulC P M (digs M x P) (digs M y P) M)).take M) := (redN_dig P (by have := hs.p2; omega) _ _ _ _ (mulC_dig P (by have := hs.p2; omega) _ _ _ _)).take M
  have e := digs_val P hs.p2 _ hd
  rw [hl] at e
  have hm1 := hs.m1
  have h3 : Cg P (act M (vecL (lowOf M mod)) (mulC P M (digs M x P) (digs M y P) M) e0) (act M (vecL (lowOf M mod)) (digs M y P) (ev P M x)) := by
    refine (mulC_cg P M _ M _ _ M e0 hs.m1 (Nat.le_refl _) (digs_length _ _ _) (digs_length _ _ _)).trans ?_
    rw [List.take_of_length_le (by rw [digs_length]; exact Nat.le_refl _), act_comm, ev_act]
    exact Cg.refl _ _
  unfold ev at h3 ⊢
  rw [e, ← act_e0 M (vecL (lowOf M mod)) _ (by omega)]
  refine Cg.trans ?_ h3
  by_cases h1 : M = 1
  · subst h1
    rw [show 1 - 1 = 0 from rfl, redN, List.take_of_length_le (by rw [mulC_length]; omega)]
    exact Cg.refl _ _
  · have h2 : lowOf M mod = mod := by unfold lowOf; rw [if_neg h1]
    have := redN_cg P M mod (M - 1) (mulC P M (digs M x P) (digs M y P) M) hm1 (hs.len h1) (by rw [mulC_length]; omega)
    rw [h2]
    refine this.trans ?_
    rw [List.take_of_length_le (by rw [mulC_length]; omega)]
    exact Cg.refl _ _
theorem refMul_bd {P : Int} {M : Nat} {mod : List Int} (hs : Shp P M mod) (x y : Int) : 0 ≤ refMul P M mod x y ∧ refMul P M mod x y < P ^ M := by
  have hl : ((redN P mod M (M - 1) (mulC P M (digs M x P) (digs M y P) M)).take M).length = M := by
    rw [List.length_take, redN_length, mulC_length]; have := hs.m1; omega
  have hd : Dig P ((redN P mod M (M - 1) (mulC P M (digs M x P) (digs M y P) M)).take M) := (redN_dig P (by have := hs.p2; omega) _ _ _ _ (mulC_dig P (by have := hs.p2; omega) _ _ _ _)).take M
  have := valL_bd P hs.p2 _ hd
  rw [hl] at this
  exact this
/-- The program's product is the reference's. -/
theorem mulS_refMul {P : Int} {M : Nat} {mod : List Int} (hs : Shp P M mod) (x y : Int) : mulS P M (lowOf M mod) x y = refMul P M mod x y :=
  el_ext hs.p2 (by
    have := valL_bd P hs.p2 (hor P (lowOf M mod) (digs M x P) (digs M y P)) (hor_dig P (by have := hs.p2; omega) _ _ _)
    exact this.1) (by
    have := valL_bd P hs.p2 (hor P (lowOf M mod) (digs M x P) (digs M y P)) (hor_dig P (by have := hs.p2; omega) _ _ _)
    rw [hor_length _ _ _ _ (by rw [hs.lowLen]; exact hs.m1) (by rw [digs_length, hs.lowLen]), hs.lowLen] at this
    exact this.2) (refMul_bd hs x y).1 (refMul_bd hs x y).2 ((mulS_cg hs x y).trans (refMul_cg hs x y).symm)

end Go.Proofs.Ytjbfccconjjofaa
