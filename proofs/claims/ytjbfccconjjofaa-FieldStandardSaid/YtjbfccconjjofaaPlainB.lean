/- Plain facts on powers and generators: no program in it. -/
import Derived.Test.YtjbfccconjjofaaPlain
namespace Go.Proofs.Ytjbfccconjjofaa

/-- The powers of x: 1, x, x x, .. -/
def pw (mul : Int → Int → Int) (x : Int) : Nat → Int
  | 0 => 1
  | 1 => x
  | k + 2 => mul (pw mul x (k + 1)) x
/-- The powers up to n are distinct and not 0; the next is 0 or one of them. -/
def PowEnd (mul : Int → Int → Int) (x : Int) (n : Nat) : Prop :=
  (∀ i, i ≤ n → pw mul x i ≠ 0) ∧ (∀ i j, i < j → j ≤ n → pw mul x i ≠ pw mul x j) ∧ (pw mul x (n + 1) = 0 ∨ ∃ i, i ≤ n ∧ pw mul x (n + 1) = pw mul x i)
/-- The powers of x are all residues but 0. -/
def IsGen (mul : Int → Int → Int) (q : Nat) (x : Int) : Prop :=
  (∀ i, i < q - 1 → pw mul x i ≠ 0) ∧ (∀ i j, i < j → j < q - 1 → pw mul x i ≠ pw mul x j) ∧ mul (pw mul x (q - 2)) x = 1
theorem pw_succ (mul : Int → Int → Int) (x : Int) (k : Nat) (h : 1 ≤ k) : pw mul x (k + 1) = mul (pw mul x k) x := by
  obtain ⟨d, rfl⟩ : ∃ d, k = d + 1 := ⟨k - 1, by omega⟩
  rfl
theorem gen_end (mul : Int → Int → Int) (q : Nat) (x : Int) (n : Nat) (hq : 2 ≤ q) (hx : 1 ≤ x) (hxq : x < q) (h : PowEnd mul x n) (hg : IsGen mul q x) : n + 1 = q - 1 := by
  rcases Nat.lt_trichotomy (n + 1) (q - 1) with hlt | he | hgt
  · rcases h.2.2 with h0 | ⟨i, hi, h0⟩
    · exact absurd h0 (hg.1 (n + 1) hlt)
    · exact absurd h0.symm (hg.2.1 i (n + 1) (by omega) hlt)
  · exact he
  · have e : pw mul x (q - 1) = 1 := by
      by_cases h2 : q = 2
      · subst h2; show x = 1; omega
      · obtain ⟨d, rfl⟩ : ∃ d, q = d + 3 := ⟨q - 3, by omega⟩
        exact hg.2.2
    exact absurd e.symm (h.2.1 0 (q - 1) (by omega) (by omega))
theorem gen_of (mul : Int → Int → Int) (q : Nat) (x : Int) (n : Nat) (h : PowEnd mul x n) (hn : n + 1 = q - 1) (hm : mul (pw mul x (q - 2)) x = 1) : IsGen mul q x :=
  ⟨fun i hi => h.1 i (by omega), fun i j h1 h2 => h.2.1 i j h1 (by omega), hm⟩
theorem pw_bd (mul : Int → Int → Int) (x : Int) (q : Nat) (hm : ∀ y x : Int, 0 ≤ mul y x ∧ mul y x < q) (hq : 2 ≤ q) (hx : 0 ≤ x) (hxq : x < q) (k : Nat) : 0 ≤ pw mul x k ∧ pw mul x k < q := by
  match k with
  | 0 => show (0 : Int) ≤ 1 ∧ (1 : Int) < q; omega
  | 1 => exact ⟨hx, hxq⟩
  | k + 2 => exact hm _ _
/-- The list of the powers. -/
def pwL (mul : Int → Int → Int) (x : Int) (n : Nat) : List Int := (List.range n).map (pw mul x)
theorem pwL_length (mul : Int → Int → Int) (x : Int) (n : Nat) : (pwL mul x n).length = n := by simp [pwL]
theorem pwL_at (mul : Int → Int → Int) (x : Int) (n k : Nat) (h : k < n) : (pwL mul x n).getD k 0 = pw mul x k := by
  simp [pwL, List.getD_eq_getElem?_getD, h]
theorem pwL_snoc (mul : Int → Int → Int) (x : Int) (n : Nat) : pwL mul x (n + 1) = pwL mul x n ++ [pw mul x n] := by
  simp [pwL, List.range_succ]
theorem count_set (l : List Bool) (i : Nat) (hi : i < l.length) (h : l.getD i true = false) : (l.set i true).count true = l.count true + 1 := by
  induction l generalizing i with
  | nil => simp at hi
  | cons a l ih =>
    cases i with
    | zero => simp at h; subst h; simp
    | succ i =>
      simp only [List.set_cons_succ, List.count_cons]
      rw [ih i (by simpa using hi) (by simpa using h)]
      omega

theorem Shp.modLen {P : Int} {M : Nat} {mod : List Int} (h : Shp P M mod) : mod.length ≤ 1000 := by
  by_cases h1 : M = 1
  · rw [h.one h1]; simp
  · rw [h.len h1]; have := h.m8; omega
/-- The first k logarithms are laid. -/
structure LogIs (f : Nat → Int) (q k : Nat) (lg : List Int) : Prop where
  len : lg.length = q
  pos : ∀ i, i < k → ∃ v : Nat, v < q ∧ (v : Int) = f i ∧ lg.getD v 0 = i
  bd : ∀ v, 0 ≤ lg.getD v 0 ∧ lg.getD v 0 < q
theorem LogIs.start (f : Nat → Int) (q : Nat) (hq : 0 < q) : LogIs f q 0 (List.replicate q 0) := ⟨by simp, fun i hi => by omega, fun v => by
  rw [List.getD_eq_getElem?_getD, List.getElem?_replicate]
  split <;> simp <;> omega⟩
theorem LogIs.next {f : Nat → Int} {q k : Nat} {lg : List Int} (h : LogIs f q k lg) {v : Nat} (hk : k < q - 1) (hv : v < q) (e : (v : Int) = f k) (hne : ∀ i j, i < j → j < q - 1 → f i ≠ f j) : LogIs f q (k + 1) (lg.set v k) := by
  refine ⟨by rw [List.length_set]; exact h.len, fun i hi => ?_, fun u => ?_⟩
  rotate_left
  · by_cases hu : v = u
    · subst hu
      simp [List.getD_eq_getElem?_getD, h.len, hv]; omega
    · have := h.bd u
      simpa [List.getD_eq_getElem?_getD, List.getElem?_set, hu] using this
  by_cases hik : i = k
  · subst hik
    exact ⟨v, hv, e, by simp [List.getD_eq_getElem?_getD, h.len, hv]⟩
  · obtain ⟨u, hu, e1, e2⟩ := h.pos i (by omega)
    refine ⟨u, hu, e1, ?_⟩
    have : v ≠ u := by
      intro hvu
      exact hne i k (by omega) hk (by rw [← e1, ← e, hvu])
    simpa [List.getD_eq_getElem?_getD, List.getElem?_set, this] using e2
/-- What the list 'seen' says behind n powers. -/
structure SeenIs (mul : Int → Int → Int) (x : Int) (q n : Nat) (seen : List Bool) : Prop where
  len : seen.length = q
  cnt : seen.count true = n + 1
  mem : ∀ v : Nat, v < q → (seen.getD v true = true ↔ ∃ i, i ≤ n ∧ pw mul x i = v)
  nz : ∀ i, i ≤ n → pw mul x i ≠ 0
  ne : ∀ i j, i < j → j ≤ n → pw mul x i ≠ pw mul x j
theorem SeenIs.le {mul : Int → Int → Int} {x : Int} {q n : Nat} {seen : List Bool} (h : SeenIs mul x q n seen) : n + 1 ≤ q := by
  rw [← h.cnt, ← h.len]; exact List.count_le_length
theorem SeenIs.fin {mul : Int → Int → Int} {x : Int} {q n : Nat} {seen : List Bool} (h : SeenIs mul x q n seen) (hn : pw mul x (n + 1) = 0 ∨ ∃ i, i ≤ n ∧ pw mul x (n + 1) = pw mul x i) : PowEnd mul x n :=
  ⟨h.nz, h.ne, hn⟩
theorem SeenIs.old {mul : Int → Int → Int} {x : Int} {q n : Nat} {seen : List Bool} {yn : Nat} (h : SeenIs mul x q n seen) (hy : yn < q) (hs : seen.getD yn true = true) (he : (yn : Int) = pw mul x (n + 1)) : ∃ i, i ≤ n ∧ pw mul x (n + 1) = pw mul x i := by
  obtain ⟨i, hi, e⟩ := (h.mem yn hy).1 hs
  exact ⟨i, hi, by rw [e, he]⟩
theorem SeenIs.start (mul : Int → Int → Int) (x : Int) (q : Nat) (hq : 2 ≤ q) : SeenIs mul x q 0 ((List.replicate q false).set 1 true) where
  len := by simp
  cnt := by
    rw [count_set _ _ (by simp; omega) (by rw [List.getD_eq_getElem?_getD, List.getElem?_replicate, if_pos (by omega)]; rfl)]
    simp [List.count_replicate]
  mem := by
    intro v hv
    simp only [List.getD_eq_getElem?_getD, List.getElem?_set, List.length_replicate, List.getElem?_replicate]
    constructor
    · intro h
      refine ⟨0, Nat.le_refl _, ?_⟩
      by_cases e : 1 = v
      · rw [← e]; rfl
      · rw [if_neg e, if_pos hv] at h; simp at h
    · rintro ⟨i, hi, e⟩
      have : i = 0 := by omega
      subst this
      have e2 : (1 : Int) = v := e
      have : 1 = v := by omega
      rw [if_pos this, if_pos (by omega)]; rfl
  nz := by intro i hi; have : i = 0 := by omega
           subst this; show (1 : Int) ≠ 0; omega
  ne := by intro i j h1 h2; omega
theorem SeenIs.lt {mul : Int → Int → Int} {x : Int} {q n : Nat} {seen : List Bool} {yn : Nat} (h : SeenIs mul x q n seen) (hy : yn < q) (hs : seen.getD yn true = false) : n + 1 < q := by
  have h1 := count_set seen yn (by rw [h.len]; exact hy) hs
  have h2 : (seen.set yn true).count true ≤ (seen.set yn true).length := List.count_le_length
  rw [h1, h.cnt, List.length_set, h.len] at h2
  omega
theorem SeenIs.next {mul : Int → Int → Int} {x : Int} {q n : Nat} {seen : List Bool} {yn : Nat} (h : SeenIs mul x q n seen) (hy : yn < q) (hy0 : yn ≠ 0) (hs : seen.getD yn true = false) (he : (yn : Int) = pw mul x (n + 1)) :
    SeenIs mul x q (n + 1) (seen.set yn true) where
  len := by rw [List.length_set]; exact h.len
  cnt := by rw [count_set seen yn (by rw [h.len]; exact hy) hs, h.cnt]
  mem := by
    intro v hv
    by_cases e : yn = v
    · subst e
      constructor
      · intro _; exact ⟨n + 1, Nat.le_refl _, he.symm⟩
      · intro _
        simp [List.getD_eq_getElem?_getD, h.len, hy]
    · have e1 : (seen.set yn true).getD v true = seen.getD v true := by simp [List.getD_eq_getElem?_getD, e]
      rw [e1, h.mem v hv]
      constructor
      · rintro ⟨i, hi, e2⟩; exact ⟨i, by omega, e2⟩
      · rintro ⟨i, hi, e2⟩
        by_cases hi2 : i = n + 1
        · subst hi2; rw [← he] at e2; omega
        · exact ⟨i, by omega, e2⟩
  nz := by
    intro i hi
    by_cases hi2 : i = n + 1
    · subst hi2; rw [← he]; omega
    · exact h.nz i (by omega)
  ne := by
    intro i j h1 h2
    by_cases hj : j = n + 1
    · subst hj
      intro e
      have := (h.mem yn hy).2 ⟨i, by omega, by rw [e, he]⟩
      rw [hs] at this
      exact absurd this (by simp)
    · exact h.ne i j h1 (by omega)

end Go.Proofs.Ytjbfccconjjofaa
