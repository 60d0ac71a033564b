/- Plain facts on lists and integers: no program in it. -/
namespace Go.Proofs.Ytjbfccconjjofaa

/-- The m lowest digits of x in base p. -/
def digs : Nat → Int → Int → List Int
  | 0, _, _ => []
  | m + 1, x, p => x % p :: digs m (x / p) p
/-- x without its k lowest digits. -/
def dv : Nat → Int → Int → Int
  | 0, x, _ => x
  | k + 1, x, p => dv k x p / p
theorem dv_succ (k : Nat) (x p : Int) : dv k (x / p) p = dv k x p / p := by
  induction k with
  | zero => rfl
  | succ k ih => simp [dv, ih]
theorem digs_length (m : Nat) (x p : Int) : (digs m x p).length = m := by
  induction m generalizing x with
  | zero => rfl
  | succ m ih => simp [digs, ih]
theorem digs_snoc (m : Nat) (x p : Int) : digs (m + 1) x p = digs m x p ++ [dv m x p % p] := by
  induction m generalizing x with
  | zero => rfl
  | succ m ih => rw [digs, ih, digs, dv_succ]; rfl
theorem dv_bd (k : Nat) (x p : Int) (hx : 0 ≤ x) (hp : 1 ≤ p) : 0 ≤ dv k x p ∧ dv k x p ≤ x := by
  induction k with
  | zero => exact ⟨hx, Int.le_refl _⟩
  | succ k ih =>
    refine ⟨Int.ediv_nonneg ih.1 (by omega), ?_⟩
    exact Int.le_trans (Int.ediv_le_self _ ih.1) ih.2
theorem set_fill (A : List Int) (k m : Nat) (u : Int) (hA : A.length = k) (hk : k < m) :
    (A ++ List.replicate (m - k) 0).set k u = (A ++ [u]) ++ List.replicate (m - (k + 1)) 0 := by
  obtain ⟨d, hd⟩ : ∃ d, m - k = d + 1 := ⟨m - k - 1, by omega⟩
  have : m - (k + 1) = d := by omega
  rw [hd, this, List.replicate_succ, List.set_append_right _ _ (by omega)]
  simp [hA]

/-- The order of a field with these P and M; 0 if they are out of range. -/
def ord (P M : Int) : Int := if 2 ≤ P ∧ 1 ≤ M ∧ M ≤ 8 ∧ P ^ M.toNat ≤ 256 then P ^ M.toNat else 0
theorem pow_mono (P : Int) (hP : 1 ≤ P) (a b : Nat) (h : a ≤ b) : P ^ a ≤ P ^ b := by
  obtain ⟨d, rfl⟩ := Nat.le.dest h
  induction d with
  | zero => exact Int.le_refl _
  | succ d ih =>
    rw [← Nat.add_assoc, Int.pow_succ]
    have h1 := ih (by omega)
    have h2 : 0 ≤ P ^ (a + d) := Int.le_of_lt (Int.pow_pos (by omega))
    have h3 : P ^ (a + d) * 1 ≤ P ^ (a + d) * P := Int.mul_le_mul_of_nonneg_left hP h2
    omega
theorem pow_ge (P : Int) (hP : 2 ≤ P) (k : Nat) : 1 ≤ P ^ k := by
  have := pow_mono P (by omega) 0 k (Nat.zero_le _)
  simpa using this
theorem ord_big (P M : Int) (k : Nat) (hP : 2 ≤ P) (hk : (k : Int) ≤ M) (h : 256 < P ^ k) : ord P M = 0 := by
  have := pow_mono P (by omega) k M.toNat (by omega)
  unfold ord
  rw [if_neg (by omega)]
theorem ord_eq (P M : Int) (hP : 2 ≤ P) (h1 : 1 ≤ M) (h2 : M ≤ 8) (h : P ^ M.toNat ≤ 256) : ord P M = P ^ M.toNat := by
  unfold ord
  rw [if_pos ⟨hP, h1, h2, h⟩]
theorem ord_bad (P M : Int) (h : P < 2 ∨ M < 1 ∨ 8 < M) : ord P M = 0 := by
  unfold ord
  rw [if_neg (by omega)]
theorem ord_bd (P M : Int) : 0 ≤ ord P M ∧ ord P M ≤ 256 := by
  unfold ord
  split
  · rename_i h
    have := pow_ge P h.1 M.toNat
    omega
  · omega
theorem mul_gt_of_gt_div (q P : Int) (hP : 2 ≤ P) (h : 256 / P < q) : 256 < q * P := by
  have h1 := Int.mul_ediv_add_emod 256 P
  have h2 := Int.emod_lt_of_pos 256 (show 0 < P by omega)
  have h3 : P * (256 / P + 1) ≤ P * q := Int.mul_le_mul_of_nonneg_left (by omega) (by omega)
  rw [Int.mul_add, Int.mul_one] at h3
  rw [Int.mul_comm q P]; omega
theorem mul_le_of_le_div (q P : Int) (hP : 2 ≤ P) (h : q ≤ 256 / P) : q * P ≤ 256 := by
  have h1 := Int.mul_ediv_add_emod 256 P
  have h2 := Int.emod_nonneg 256 (show P ≠ 0 by omega)
  have h3 : P * q ≤ P * (256 / P) := Int.mul_le_mul_of_nonneg_left h (by omega)
  rw [Int.mul_comm q P]; omega

/-- n is prime. -/
def Prm (n : Int) : Prop := 2 ≤ n ∧ ∀ d : Int, 2 ≤ d → d < n → n % d ≠ 0

/-- The number with the digits d in base p. -/
def valL (p : Int) : List Int → Int
  | [] => 0
  | c :: cs => valL p cs * p + c
/-- All entries are digits in base p. -/
def Dig (p : Int) (d : List Int) : Prop := ∀ j, j < d.length → 0 ≤ d.getD j 0 ∧ d.getD j 0 < p
theorem Dig.nil (p : Int) : Dig p [] := fun j h => absurd h (by simp)
theorem Dig.tail {p c : Int} {cs : List Int} (h : Dig p (c :: cs)) : 0 ≤ c ∧ c < p ∧ Dig p cs :=
  ⟨(h 0 (by simp)).1, (h 0 (by simp)).2, fun j hj => by have := h (j + 1) (by simpa using hj); simpa using this⟩
theorem Dig.cons {p c : Int} {cs : List Int} (h0 : 0 ≤ c) (h1 : c < p) (h : Dig p cs) : Dig p (c :: cs) := by
  intro j hj
  cases j with
  | zero => exact ⟨by simpa using h0, by simpa using h1⟩
  | succ j => have := h j (by simpa using hj); simpa using this
theorem valL_bd (p : Int) (hp : 2 ≤ p) (d : List Int) (h : Dig p d) : 0 ≤ valL p d ∧ valL p d < p ^ d.length := by
  induction d with
  | nil => simp [valL]
  | cons c cs ih =>
    obtain ⟨h0, h1, h2⟩ := h.tail
    obtain ⟨i0, i1⟩ := ih h2
    simp only [valL, List.length_cons, Int.pow_succ]
    have h3 : valL p cs * p ≤ (p ^ cs.length - 1) * p := Int.mul_le_mul_of_nonneg_right (by omega) (by omega)
    have h4 : 0 ≤ valL p cs * p := Int.mul_nonneg i0 (by omega)
    rw [Int.sub_mul, Int.one_mul] at h3
    omega
theorem Dig.drop {p : Int} {d : List Int} (h : Dig p d) (k : Nat) : Dig p (d.drop k) := by
  intro j hj
  have := h (k + j) (by simp at hj; omega)
  simpa [List.getD_eq_getElem?_getD] using this
theorem Dig.take {p : Int} {d : List Int} (h : Dig p d) (k : Nat) : Dig p (d.take k) := by
  intro j hj
  have hj' : j < k ∧ j < d.length := by rw [List.length_take] at hj; omega
  have := h j hj'.2
  simpa [List.getD_eq_getElem?_getD, List.getElem?_take, hj'.1] using this
theorem valL_drop (p : Int) (d : List Int) (k : Nat) (h : k < d.length) : valL p (d.drop k) = valL p (d.drop (k + 1)) * p + d.getD k 0 := by
  rw [List.drop_eq_getElem_cons h]
  simp [valL, List.getD_eq_getElem?_getD, h]
theorem digs_dig (m : Nat) (x p : Int) (hp : 2 ≤ p) : Dig p (digs m x p) := by
  induction m generalizing x with
  | zero => exact Dig.nil p
  | succ m ih => exact Dig.cons (Int.emod_nonneg _ (by omega)) (Int.emod_lt_of_pos _ (by omega)) (ih _)
theorem digs_val (p : Int) (hp : 2 ≤ p) (d : List Int) (h : Dig p d) : digs d.length (valL p d) p = d := by
  induction d with
  | nil => rfl
  | cons c cs ih =>
    obtain ⟨h0, h1, h2⟩ := h.tail
    have e1 : (valL p cs * p + c) % p = c := by rw [Int.add_comm, Int.add_mul_emod_self_right]; exact Int.emod_eq_of_lt h0 h1
    have e2 : (valL p cs * p + c) / p = valL p cs := by
      rw [Int.add_comm, Int.add_mul_ediv_right _ _ (by omega), Int.ediv_eq_zero_of_lt h0 h1, Int.zero_add]
    simp only [valL, List.length_cons, digs, e1, e2, ih h2]
theorem val_digs (p : Int) (hp : 2 ≤ p) (m : Nat) (x : Int) (h0 : 0 ≤ x) (h1 : x < p ^ m) : valL p (digs m x p) = x := by
  induction m generalizing x with
  | zero => simp at h1; simp [digs, valL]; omega
  | succ m ih =>
    rw [Int.pow_succ] at h1
    have h2 : x / p < p ^ m := Int.ediv_lt_of_lt_mul (by omega) h1
    simp only [digs, valL]
    rw [ih _ (Int.ediv_nonneg h0 (by omega)) h2]
    have := Int.mul_ediv_add_emod x p
    rw [Int.mul_comm]; omega

/-- x if it is an element of a field of order q, and 0 otherwise. -/
def inn (q x : Int) : Int := if 0 ≤ x ∧ x < q then x else 0
theorem inn_yes {q x : Int} (h0 : 0 ≤ x) (h : x < q) : inn q x = x := by unfold inn; rw [if_pos ⟨h0, h⟩]
theorem inn_no {q x : Int} (h : ¬ (0 ≤ x ∧ x < q)) : inn q x = 0 := by unfold inn; rw [if_neg h]
theorem inn_bd {q x : Int} (hq : 0 < q) : 0 ≤ inn q x ∧ inn q x < q := by unfold inn; split <;> omega

/-- The sums of the entries of two lists, modulo p. -/
def addL (p : Int) : List Int → List Int → List Int
  | a :: as, b :: bs => (a + b) % p :: addL p as bs
  | _, _ => []
theorem addL_length (p : Int) (a b : List Int) (h : a.length = b.length) : (addL p a b).length = a.length := by
  induction a generalizing b with
  | nil => cases b <;> simp [addL]
  | cons x xs ih =>
    cases b with
    | nil => simp at h
    | cons y ys => simp [addL, ih ys (by simpa using h)]
theorem addL_at (p : Int) (a b : List Int) (k : Nat) (ha : k < a.length) (hb : k < b.length) : (addL p a b).getD k 0 = (a.getD k 0 + b.getD k 0) % p := by
  induction a generalizing b k with
  | nil => simp at ha
  | cons x xs ih =>
    cases b with
    | nil => simp at hb
    | cons y ys =>
      cases k with
      | zero => simp [addL]
      | succ k => simpa [addL] using ih ys k (by simpa using ha) (by simpa using hb)
theorem addL_dig (p : Int) (hp : 0 < p) (a b : List Int) : Dig p (addL p a b) := by
  induction a generalizing b with
  | nil => simp only [addL]; exact Dig.nil p
  | cons x xs ih =>
    cases b with
    | nil => simp only [addL]; exact Dig.nil p
    | cons y ys => exact Dig.cons (Int.emod_nonneg _ (by omega)) (Int.emod_lt_of_pos _ hp) (ih ys)
theorem addL_snoc (p : Int) (a b : List Int) (x y : Int) (h : a.length = b.length) : addL p (a ++ [x]) (b ++ [y]) = addL p a b ++ [(x + y) % p] := by
  induction a generalizing b with
  | nil => cases b with
    | nil => simp [addL]
    | cons => simp at h
  | cons u us ih => cases b with
    | nil => simp at h
    | cons v vs => simp [addL, ih vs (by simpa using h)]
theorem take_snoc (a : List Int) (k : Nat) (h : k < a.length) : a.take (k + 1) = a.take k ++ [a.getD k 0] := by
  rw [List.take_succ_eq_append_getElem h]; simp [List.getD_eq_getElem?_getD, h]
theorem set_mid (A a : List Int) (k : Nat) (u : Int) (hA : A.length = k) (h : k < a.length) : (A ++ a.drop k).set k u = (A ++ [u]) ++ a.drop (k + 1) := by
  rw [List.set_append_right _ _ (by omega), hA, Nat.sub_self, List.drop_eq_getElem_cons h, List.set_cons_zero]
  simp
theorem addL_set (p : Int) (a b : List Int) (k m : Nat) (ha : a.length = m) (hb : b.length = m) (h : k < m) :
    (addL p (a.take k) (b.take k) ++ a.drop k).set k ((a.getD k 0 + b.getD k 0) % p) = addL p (a.take (k + 1)) (b.take (k + 1)) ++ a.drop (k + 1) := by
  rw [set_mid _ _ _ _ (by rw [addL_length _ _ _ (by simp [ha, hb])]; simp; omega) (by omega), take_snoc a k (by omega), take_snoc b k (by omega), addL_snoc _ _ _ _ _ (by simp; omega)]
theorem sub_emod_self (p u : Int) : (p - u) % p = -u % p := by rw [show p - u = -u + p * 1 from by omega, Int.add_mul_emod_self_left]
/-- The negatives of the entries, modulo p. -/
def negL (p : Int) (a : List Int) : List Int := a.map fun x => (p - x) % p
theorem negL_dig (p : Int) (hp : 0 < p) (a : List Int) : Dig p (negL p a) := by
  intro j hj
  have hj' : j < a.length := by simpa [negL] using hj
  simp only [negL, List.getD_eq_getElem?_getD, List.getElem?_map, List.getElem?_eq_getElem hj', Option.map_some, Option.getD_some]
  exact ⟨Int.emod_nonneg _ (by omega), Int.emod_lt_of_pos _ hp⟩
theorem negL_set (p : Int) (a : List Int) (k m : Nat) (ha : a.length = m) (h : k < m) :
    (negL p (a.take k) ++ a.drop k).set k ((p - a.getD k 0) % p) = negL p (a.take (k + 1)) ++ a.drop (k + 1) := by
  rw [set_mid _ _ _ _ (by simp [negL]; omega) (by omega), take_snoc a k (by omega)]
  simp [negL]
/-- The negative of an element. -/
def negS (P : Int) (M : Nat) (x : Int) : Int := valL P (negL P (digs M x P))
theorem negS_bd (P : Int) (hp : 2 ≤ P) (M : Nat) (x : Int) : 0 ≤ negS P M x ∧ negS P M x < P ^ M := by
  have := valL_bd P hp (negL P (digs M x P)) (negL_dig P (by omega) _)
  simpa [negS, negL, digs_length] using this
/-- The sum of two elements. -/
def addS (P : Int) (M : Nat) (x y : Int) : Int := valL P (addL P (digs M x P) (digs M y P))

/-- One row of a product: o + t l + c a, modulo p. -/
def rowL (p t c : Int) : List Int → List Int → List Int → List Int
  | o :: os, l :: ls, a :: as => (o + t * l + c * a) % p :: rowL p t c os ls as
  | _, _, _ => []
theorem rowL_length (p t c : Int) (o l a : List Int) (h1 : o.length = l.length) (h2 : o.length = a.length) : (rowL p t c o l a).length = o.length := by
  induction o generalizing l a with
  | nil => cases l <;> cases a <;> simp [rowL]
  | cons x xs ih =>
    cases l with
    | nil => simp at h1
    | cons y ys => cases a with
      | nil => simp at h2
      | cons z zs => simp [rowL, ih ys zs (by simpa using h1) (by simpa using h2)]
theorem rowL_snoc (p t c : Int) (o l a : List Int) (x y z : Int) (h1 : o.length = l.length) (h2 : o.length = a.length) :
    rowL p t c (o ++ [x]) (l ++ [y]) (a ++ [z]) = rowL p t c o l a ++ [(x + t * y + c * z) % p] := by
  induction o generalizing l a with
  | nil => cases l with
    | nil => cases a with
      | nil => simp [rowL]
      | cons => simp at h2
    | cons => simp at h1
  | cons u us ih => cases l with
    | nil => simp at h1
    | cons v vs => cases a with
      | nil => simp at h2
      | cons r rs => simp [rowL, ih vs rs (by simpa using h1) (by simpa using h2)]
theorem rowL_dig (p t c : Int) (hp : 0 < p) (o l a : List Int) : Dig p (rowL p t c o l a) := by
  induction o generalizing l a with
  | nil => simp only [rowL]; exact Dig.nil p
  | cons x xs ih => cases l with
    | nil => simp only [rowL]; exact Dig.nil p
    | cons y ys => cases a with
      | nil => simp only [rowL]; exact Dig.nil p
      | cons z zs => exact Dig.cons (Int.emod_nonneg _ (by omega)) (Int.emod_lt_of_pos _ hp) (ih ys zs)
theorem rowL_set (p t c : Int) (o l a : List Int) (k m : Nat) (ho : o.length = m) (hl : l.length = m) (ha : a.length = m) (h : k < m) :
    (rowL p t c (o.take k) (l.take k) (a.take k) ++ o.drop k).set k ((o.getD k 0 + t * l.getD k 0 + c * a.getD k 0) % p) = rowL p t c (o.take (k + 1)) (l.take (k + 1)) (a.take (k + 1)) ++ o.drop (k + 1) := by
  rw [set_mid _ _ _ _ (by rw [rowL_length _ _ _ _ _ _ (by simp [ho, hl]) (by simp [ho, ha])]; simp; omega) (by omega), take_snoc o k (by omega), take_snoc l k (by omega), take_snoc a k (by omega),
    rowL_snoc _ _ _ _ _ _ _ _ _ (by simp; omega) (by simp; omega)]
/-- out times X, and c times a added: the residue. -/
def stepL (p : Int) (low a : List Int) (c : Int) (out : List Int) : List Int := rowL p (p - out.getD (out.length - 1) 0) c (0 :: out.take (out.length - 1)) low a
/-- The product of a and the polynomial b, from its highest coefficient on. -/
def hor (p : Int) (low a : List Int) : List Int → List Int
  | [] => List.replicate low.length 0
  | c :: b => stepL p low a c (hor p low a b)
theorem stepL_length (p : Int) (low a : List Int) (c : Int) (out : List Int) (h0 : 1 ≤ out.length) (h1 : out.length = low.length) (h2 : out.length = a.length) : (stepL p low a c out).length = out.length := by
  unfold stepL
  rw [rowL_length _ _ _ _ _ _ (by simp; omega) (by simp; omega)]
  simp; omega
theorem hor_length (p : Int) (low a b : List Int) (h0 : 1 ≤ low.length) (h2 : a.length = low.length) : (hor p low a b).length = low.length := by
  induction b with
  | nil => simp [hor]
  | cons c b ih => rw [hor, stepL_length _ _ _ _ _ (by omega) ih (by omega), ih]
theorem hor_dig (p : Int) (hp : 0 < p) (low a b : List Int) : Dig p (hor p low a b) := by
  cases b with
  | nil =>
    intro j hj
    simp only [hor] at hj ⊢
    simp [List.getD_eq_getElem?_getD, List.getElem?_replicate] at hj ⊢
    simp [hj]; omega
  | cons c b => exact rowL_dig p _ c hp _ _ _
theorem hor_drop (p : Int) (low a b : List Int) (k : Nat) (h : k < b.length) : hor p low a (b.drop k) = stepL p low a (b.getD k 0) (hor p low a (b.drop (k + 1))) := by
  rw [List.drop_eq_getElem_cons h]
  simp [hor, List.getD_eq_getElem?_getD, h]
/-- The product of two residues: of the field with P, M and Mod. -/
def mulS (P : Int) (M : Nat) (low : List Int) (x y : Int) : Int := valL P (hor P low (digs M x P) (digs M y P))

theorem ord_bigP (P M : Int) (hP : 256 < P) : ord P M = 0 := by
  unfold ord
  split
  · rename_i h
    have := pow_mono P (by omega) 1 M.toNat (by omega)
    rw [Int.pow_succ, Int.pow_zero, Int.one_mul] at this
    omega
  · rfl
/-- A number without a divisor whose square is at most itself is prime. -/
theorem prm_of_sq (n : Int) (hn : 2 ≤ n) (h : ∀ d : Int, 2 ≤ d → d * d ≤ n → n % d ≠ 0) : Prm n := by
  refine ⟨hn, fun d h2 hlt hz => ?_⟩
  by_cases hs : d * d ≤ n
  · exact h d h2 hs hz
  · have e := Int.mul_ediv_add_emod n d
    rw [hz, Int.add_zero] at e
    have hq2 : 2 ≤ n / d := by
      have h0 : 0 ≤ n / d := Int.ediv_nonneg (by omega) (by omega)
      by_cases h1 : n / d = 0
      · rw [h1, Int.mul_zero] at e; omega
      · by_cases h3 : n / d = 1
        · rw [h3, Int.mul_one] at e; omega
        · omega
    have hqd : n / d < d := by
      have := Int.not_le.1 hs
      have h5 : d * (n / d) < d * d := by omega
      exact Int.lt_of_mul_lt_mul_left h5 (by omega)
    have hqq : (n / d) * (n / d) ≤ n := by
      have h6 : (n / d) * (n / d) ≤ d * (n / d) := Int.mul_le_mul_of_nonneg_right (by omega) (by omega)
      omega
    exact h (n / d) hq2 hqq (Int.emod_eq_zero_of_dvd ⟨d, by rw [Int.mul_comm]; exact e.symm⟩)

/-- P, M and Mod are in range: the entries of Mod are digits. -/
structure Shp (P : Int) (M : Nat) (mod : List Int) : Prop where
  prm : Prm P
  m1 : 1 ≤ M
  m8 : M ≤ 8
  q : P ^ M ≤ 256
  one : M = 1 → mod = []
  len : M ≠ 1 → mod.length = M
  dig : Dig P mod
theorem Shp.p2 {P : Int} {M : Nat} {mod : List Int} (h : Shp P M mod) : 2 ≤ P := h.prm.1
theorem Shp.p256 {P : Int} {M : Nat} {mod : List Int} (h : Shp P M mod) : P ≤ 256 := by
  have h1 := pow_mono P (by have := h.p2; omega) 1 M h.m1
  rw [Int.pow_succ, Int.pow_zero, Int.one_mul] at h1
  have := h.q
  omega
theorem Shp.ord {P : Int} {M : Nat} {mod : List Int} (h : Shp P M mod) : ord P M = P ^ M := by
  have := ord_eq P M h.p2 (by have := h.m1; omega) (by have := h.m8; omega) (by simpa using h.q)
  simpa using this
/-- The low coefficients of the polynomial; X itself where M is 1. -/
def lowOf (M : Nat) (mod : List Int) : List Int := if M = 1 then [0] else mod
theorem Shp.lowLen {P : Int} {M : Nat} {mod : List Int} (h : Shp P M mod) : (lowOf M mod).length = M := by
  unfold lowOf
  split
  · rename_i e; simp [e]
  · rename_i e; exact h.len e

end Go.Proofs.Ytjbfccconjjofaa
