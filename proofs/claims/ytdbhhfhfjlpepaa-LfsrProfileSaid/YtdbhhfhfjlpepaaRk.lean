/- Elimination, column by column, and what its count of pivots says. No program in it. -/
import Derived.Test.YtdbhhfhfjlpepaaLfF
import Derived.Test.YtdbhhfhfjlpepaaGFa
namespace Go.Proofs.Ytdbhhfhfjlpepaa
variable {S : FS}
/-- The first of the n indices from r on where f is not 0; r + n where there is none. -/
def fnd (f : Nat → El S) : Nat → Nat → Nat
  | r, 0 => r
  | r, n + 1 => if f r = 0 then fnd f (r + 1) n else r
theorem fnd_spec (f : Nat → El S) : ∀ n r, r ≤ fnd f r n ∧ fnd f r n ≤ r + n ∧ (∀ i, r ≤ i → i < fnd f r n → f i = 0) ∧ (fnd f r n < r + n → f (fnd f r n) ≠ 0) := by
  intro n
  induction n with
  | zero => intro r; exact ⟨Nat.le_refl _, Nat.le_refl _, fun i h1 h2 => absurd h2 (by show ¬ i < r; omega), fun h => absurd h (by show ¬ r < r + 0; omega)⟩
  | succ n ih =>
    intro r
    unfold fnd
    by_cases h : f r = 0
    · rw [if_pos h]
      obtain ⟨h1, h2, h3, h4⟩ := ih (r + 1)
      refine ⟨by omega, by omega, fun i hi hl => ?_, fun hl => h4 (by omega)⟩
      by_cases e : i = r
      · subst e; exact h
      · exact h3 i (by omega) hl
    · rw [if_neg h]
      exact ⟨Nat.le_refl _, by omega, fun i h1 h2 => by omega, fun _ => h⟩
/-- Rows, r of which are done. -/
structure RK (S : FS) where
  r : Nat
  M : Nat → Nat → El S
namespace RK
/-- Two rows change places. -/
def swp (M : Nat → Nat → El S) (a b : Nat) (i : Nat) : Nat → El S := if i = a then M b else if i = b then M a else M i
/-- The rows below r have their entry at c struck by row r's. -/
def strike (m r c : Nat) (M : Nat → Nat → El S) (i k : Nat) : El S := if r < i ∧ i < m then M i k + -(M i c * S.inv (M r c) * M r k) else M i k
def step (m c : Nat) (st : RK S) : RK S :=
  if fnd (fun i => st.M i c) st.r (m - st.r) = m then st
  else ⟨st.r + 1, strike m st.r c (swp st.M st.r (fnd (fun i => st.M i c) st.r (m - st.r)))⟩
def run (m : Nat) (M : Nat → Nat → El S) : Nat → RK S
  | 0 => ⟨0, M⟩
  | c + 1 => step m c (run m M c)
/-- v is killed by the first m rows, over N columns. -/
def Ker (m N : Nat) (M : Nat → Nat → El S) (v : Nat → El S) : Prop := ∀ i, i < m → El.sm (fun k => M i k * v k) N = 0
theorem ker_swp {m N : Nat} {M : Nat → Nat → El S} {v : Nat → El S} {a b : Nat} (ha : a < m) (hb : b < m) : Ker m N (swp M a b) v ↔ Ker m N M v := by
  unfold Ker swp
  constructor
  · intro h i hi
    by_cases e1 : i = a
    · subst e1
      have := h b hb
      by_cases e2 : b = i
      · subst e2; simpa using this
      · simpa [e2] using this
    · by_cases e2 : i = b
      · subst e2
        have := h a ha
        simpa using this
      · have := h i hi
        simpa [e1, e2] using this
  · intro h i hi
    by_cases e1 : i = a
    · subst e1; simpa using h b hb
    · by_cases e2 : i = b
      · subst e2; simpa [e1] using h a ha
      · simpa [e1, e2] using h i hi
theorem sm_strike (f g : Nat → El S) (x : El S) (v : Nat → El S) (N : Nat) : El.sm (fun k => (f k + -(x * g k)) * v k) N = El.sm (fun k => f k * v k) N + -(x * El.sm (fun k => g k * v k) N) := by
  rw [← El.sm_mul]
  have e : (fun k => (f k + -(x * g k)) * v k) = fun k => f k * v k + -1 * (x * (g k * v k)) := by
    funext k
    rw [El.add_mul, El.neg_mul, El.neg_mul, El.one_mul, El.mul_assoc]
  rw [e, El.sm_add, El.sm_mul, El.neg_mul, El.one_mul]
theorem ker_strike {m N r c : Nat} {M : Nat → Nat → El S} {v : Nat → El S} (hr : r < m) : Ker m N (strike m r c M) v ↔ Ker m N M v := by
  have hrow : (fun k => strike m r c M r k * v k) = fun k => M r k * v k := by funext k; unfold strike; rw [if_neg (by omega)]
  have hot : ∀ i, r < i → i < m → El.sm (fun k => strike m r c M i k * v k) N = El.sm (fun k => M i k * v k) N + -(M i c * S.inv (M r c) * El.sm (fun k => M r k * v k) N) := by
    intro i h1 h2
    rw [← sm_strike (fun k => M i k) (fun k => M r k)]
    refine El.sm_congr _ fun k _ => ?_
    unfold strike; rw [if_pos ⟨h1, h2⟩]
  have hlo : ∀ i, ¬ r < i → (fun k => strike m r c M i k * v k) = fun k => M i k * v k := by
    intro i h; funext k; unfold strike; rw [if_neg (by omega)]
  constructor
  · intro h i hi
    have h0 := h r hr
    rw [hrow] at h0
    by_cases h1 : r < i
    · have := h i hi
      rwa [hot i h1 hi, h0, El.mul_zero, El.neg_zero, El.add_zero] at this
    · have := h i hi
      rwa [hlo i h1] at this
  · intro h i hi
    have h0 := h r hr
    by_cases h1 : r < i
    · rw [hot i h1 hi, h0, El.mul_zero, El.neg_zero, El.add_zero]; exact h i hi
    · rw [hlo i h1]; exact h i hi
/-- What holds behind c columns: p i is the column of the pivot of row i. -/
structure Ech (m c : Nat) (st : RK S) (p : Nat → Nat) : Prop where
  rm : st.r ≤ m
  low : ∀ i, st.r ≤ i → i < m → ∀ k, k < c → st.M i k = 0
  pc : ∀ i, i < st.r → p i < c
  piv : ∀ i, i < st.r → st.M i (p i) ≠ 0
  pre : ∀ i, i < st.r → ∀ k, k < p i → st.M i k = 0
  inc : ∀ i j, i < j → j < st.r → p i < p j
theorem ech_zero (m : Nat) (M : Nat → Nat → El S) : Ech m 0 (run m M 0) id where
  rm := Nat.zero_le _
  low := fun i _ _ k h => by omega
  pc := fun i h => absurd h (by show ¬ i < 0; omega)
  piv := fun i h => absurd h (by show ¬ i < 0; omega)
  pre := fun i h => absurd h (by show ¬ i < 0; omega)
  inc := fun i j _ h => absurd h (by show ¬ j < 0; omega)
theorem Ech.step (hI : S.Inverts) {m c : Nat} {st : RK S} {p : Nat → Nat} (h : Ech m c st p) : ∃ p', Ech m (c + 1) (step m c st) p' ∧ (∀ N v, Ker m N (RK.step m c st).M v ↔ Ker m N st.M v) ∧
    ((RK.step m c st).r = st.r ↔ ∀ i, st.r ≤ i → i < m → st.M i c = 0) ∧ ((RK.step m c st).r = st.r ∨ (RK.step m c st).r = st.r + 1) ∧ (∀ i, i < st.r → p' i = p i) ∧ ((RK.step m c st).r = st.r + 1 → p' st.r = c) := by
  obtain ⟨f1, f2, f3, f4⟩ := fnd_spec (fun i => st.M i c) (m - st.r) st.r
  have hrm := h.rm
  unfold RK.step
  obtain ⟨j, hj⟩ : ∃ j, j = fnd (fun i => st.M i c) st.r (m - st.r) := ⟨_, rfl⟩
  rw [← hj] at f1 f2 f3 f4 ⊢
  by_cases hjm : j = m
  · rw [if_pos hjm]
    have hz : ∀ i, st.r ≤ i → i < m → st.M i c = 0 := fun i h1 h2 => f3 i h1 (by omega)
    refine ⟨p, { h with low := fun i h1 h2 k hk => ?_, pc := fun i hi => Nat.lt_succ_of_lt (h.pc i hi) }, fun _ _ => Iff.rfl, ⟨fun _ => hz, fun _ => rfl⟩, .inl rfl, fun _ _ => rfl, fun e => by omega⟩
    by_cases e : k = c
    · subst e; exact hz i h1 h2
    · exact h.low i h1 h2 k (by omega)
  · rw [if_neg hjm]
    have hjlt : j < m := by omega
    have hpiv : st.M j c ≠ 0 := f4 (by omega)
    have hs0 : ∀ k, swp st.M st.r j st.r k = st.M j k := fun k => by unfold swp; rw [if_pos rfl]
    have hslow : ∀ i, st.r ≤ i → i < m → ∀ k, k < c → swp st.M st.r j i k = 0 := by
      intro i h1 h2 k hk
      unfold swp
      split
      · exact h.low j f1 hjlt k hk
      · split
        · exact h.low st.r (Nat.le_refl _) (by omega) k hk
        · exact h.low i h1 h2 k hk
    have hsup : ∀ i, i < st.r → ∀ k, swp st.M st.r j i k = st.M i k := by
      intro i hi k; unfold swp; rw [if_neg (by omega), if_neg (by omega)]
    have hup : ∀ i, i < st.r → ∀ k, strike m st.r c (swp st.M st.r j) i k = st.M i k := by
      intro i hi k; unfold strike; rw [if_neg (by omega)]; exact hsup i hi k
    have hat : ∀ k, strike m st.r c (swp st.M st.r j) st.r k = st.M j k := by
      intro k; unfold strike; rw [if_neg (by omega)]; exact hs0 k
    refine ⟨fun i => if i = st.r then c else p i, ⟨by show st.r + 1 ≤ m; omega, ?_, ?_, ?_, ?_, ?_⟩, fun N v => (ker_strike (by omega)).trans (ker_swp (by omega) hjlt), ⟨fun e => absurd e (by show ¬ st.r + 1 = st.r; omega), fun e => absurd (e j f1 hjlt) hpiv⟩, .inr rfl, fun i hi => if_neg (by omega), fun _ => if_pos rfl⟩
    · intro i h1 h2 k hk
      have h1' : st.r < i := h1
      show strike m st.r c (swp st.M st.r j) i k = 0
      unfold strike
      rw [if_pos ⟨h1', h2⟩]
      by_cases e : k = c
      · subst e
        rw [hs0, El.mul_assoc, hI _ hpiv, El.mul_one, El.add_neg]
      · rw [hslow i (by omega) h2 k (by omega), hslow st.r (Nat.le_refl _) (by omega) k (by omega), El.mul_zero, El.neg_zero, El.add_zero]
    · intro i hi
      have hi' : i < st.r + 1 := hi
      show (if i = st.r then c else p i) < c + 1
      split
      · omega
      · have := h.pc i (by omega); omega
    · intro i hi
      have hi' : i < st.r + 1 := hi
      show strike m st.r c (swp st.M st.r j) i (if i = st.r then c else p i) ≠ 0
      by_cases e : i = st.r
      · rw [if_pos e, e, hat]; exact hpiv
      · rw [if_neg e, hup i (by omega)]; exact h.piv i (by omega)
    · intro i hi k hk
      have hi' : i < st.r + 1 := hi
      show strike m st.r c (swp st.M st.r j) i k = 0
      by_cases e : i = st.r
      · rw [e, hat]
        have hk' : k < c := by simpa [e] using hk
        exact h.low j f1 hjlt k hk'
      · rw [hup i (by omega)]
        exact h.pre i (by omega) k (by simpa [e] using hk)
    · intro i k hik hk
      have hk' : k < st.r + 1 := hk
      show (if i = st.r then c else p i) < (if k = st.r then c else p k)
      rw [if_neg (show ¬ i = st.r by omega)]
      split
      · exact h.pc i (by omega)
      · exact h.inc i k hik (by omega)
theorem run_ech (hI : S.Inverts) (m : Nat) (M : Nat → Nat → El S) : ∀ c, ∃ p, Ech m c (run m M c) p ∧ ∀ N v, Ker m N (run m M c).M v ↔ Ker m N M v
  | 0 => ⟨id, ech_zero m M, fun _ _ => Iff.rfl⟩
  | c + 1 => by
    obtain ⟨p, h, hk⟩ := run_ech hI m M c
    obtain ⟨p', h', hk', _⟩ := h.step hI
    exact ⟨p', h', fun N v => (hk' N v).trans (hk N v)⟩
end RK

end Go.Proofs.Ytdbhhfhfjlpepaa

/- Elimination tells whether equations have a solution, and whether they have just one. No program in it. -/
namespace Go.Proofs.Ytdbhhfhfjlpepaa
variable {S : FS}
namespace RK
theorem Ech.ge {m c : Nat} {st : RK S} {p : Nat → Nat} (h : Ech m c st p) : ∀ i, i < st.r → i ≤ p i := by
  intro i
  induction i with
  | zero => intro _; exact Nat.zero_le _
  | succ i ih =>
    intro hi
    have h1 := ih (by omega)
    have h2 := h.inc i (i + 1) (by omega) hi
    omega
theorem Ech.rc {m c : Nat} {st : RK S} {p : Nat → Nat} (h : Ech m c st p) : st.r ≤ c := by
  rcases Nat.eq_zero_or_pos st.r with h0 | h0
  · omega
  · have h1 := h.ge (st.r - 1) (by omega)
    have h2 := h.pc (st.r - 1) (by omega)
    omega
/-- Whatever the other columns, the pivots' columns can be chosen so that the rows with pivots are met. -/
theorem Ech.solve (hI : S.Inverts) {m c : Nat} {st : RK S} {p : Nat → Nat} (h : Ech m c st p) (N : Nat) (hN : c ≤ N) (free : Nat → El S) :
    ∃ v : Nat → El S, (∀ k, (∀ i, i < st.r → k ≠ p i) → v k = free k) ∧ ∀ i, i < st.r → El.sm (fun k => st.M i k * v k) N = 0 := by
  have key : ∀ d t, t + d = st.r → ∃ v : Nat → El S, (∀ k, (∀ i, t ≤ i → i < st.r → k ≠ p i) → v k = free k) ∧ ∀ i, t ≤ i → i < st.r → El.sm (fun k => st.M i k * v k) N = 0 := by
    intro d
    induction d with
    | zero => intro t ht; exact ⟨free, fun _ _ => rfl, fun i h1 h2 => by omega⟩
    | succ d ih =>
      intro t ht
      obtain ⟨v, hv1, hv2⟩ := ih (t + 1) (by omega)
      have htr : t < st.r := by omega
      have ha := h.piv t htr
      have hpN : p t < N := Nat.lt_of_lt_of_le (h.pc t htr) hN
      obtain ⟨s0, hs0⟩ : ∃ s0, s0 = El.sm (fun k => st.M t k * (if k = p t then 0 else v k)) N := ⟨_, rfl⟩
      obtain ⟨x, hx⟩ : ∃ x, x = -(S.inv (st.M t (p t)) * s0) := ⟨_, rfl⟩
      refine ⟨fun k => if k = p t then x else v k, fun k hk => ?_, fun i h1 h2 => ?_⟩
      · show (if k = p t then x else v k) = free k
        rw [if_neg (hk t (Nat.le_refl _) htr)]
        exact hv1 k fun i h1 h2 => hk i (by omega) h2
      · by_cases e : i = t
        · subst e
          have e1 : (fun k => st.M i k * (if k = p i then x else v k)) = fun k => st.M i k * (if k = p i then 0 else v k) + st.M i k * (if k = p i then x else 0) := by
            funext k
            rw [← El.mul_add]
            by_cases hk : k = p i
            · rw [if_pos hk, if_pos hk, if_pos hk, El.zero_add]
            · rw [if_neg hk, if_neg hk, if_neg hk, El.add_zero]
          rw [e1, El.sm_add, ← hs0, El.sm_one N (p i) hpN fun k _ hk => by rw [if_neg hk, El.mul_zero], if_pos rfl, hx, El.mul_neg, ← El.mul_assoc, El.mul_comm (st.M i (p i)), hI _ ha, El.one_mul, El.add_neg]
        · have h3 := hv2 i (by omega) h2
          have hz : st.M i (p t) = 0 := h.pre i h2 _ (h.inc t i (by omega) h2)
          rw [← h3]
          refine El.sm_congr _ fun k _ => ?_
          by_cases hk : k = p t
          · rw [hk, hz, El.zero_mul, El.zero_mul]
          · show st.M i k * (if k = p t then x else v k) = _
            rw [if_neg hk]
  obtain ⟨v, h1, h2⟩ := key st.r 0 (by omega)
  exact ⟨v, fun k hk => h1 k fun i _ hi => hk i hi, fun i hi => h2 i (Nat.zero_le _) hi⟩
/-- The last column brings no pivot just where the equations have a solution. -/
theorem same_iff (hI : S.Inverts) (m l : Nat) (M : Nat → Nat → El S) : (run m M (l + 1)).r = (run m M l).r ↔ ∃ v : Nat → El S, v l = 1 ∧ Ker m (l + 1) M v := by
  obtain ⟨p, h, hk⟩ := run_ech hI m M l
  obtain ⟨p', h', hk', hs, _⟩ := h.step hI
  show (RK.step m l (run m M l)).r = _ ↔ _
  rw [hs]
  constructor
  · intro hz
    obtain ⟨v, h1, h2⟩ := h.solve hI (l + 1) (Nat.le_succ l) (fun k => if k = l then 1 else 0)
    refine ⟨v, ?_, (hk (l + 1) v).1 fun i hi => ?_⟩
    · rw [h1 l fun i hi => by have := h.pc i hi; omega, if_pos rfl]
    · by_cases hir : i < (run m M l).r
      · exact h2 i hir
      · refine El.sm_zero _ fun k hkl => ?_
        by_cases e : k = l
        · rw [e, hz i (by omega) hi, El.zero_mul]
        · rw [h.low i (by omega) hi k (by omega), El.zero_mul]
  · rintro ⟨v, hv, hker⟩ i h1 h2
    have h3 := (hk (l + 1) v).2 hker i h2
    rw [El.sm_one (l + 1) l (by omega) fun k hkl hne => by rw [h.low i h1 h2 k (by omega), El.zero_mul], hv, El.mul_one] at h3
    exact h3
/-- All columns bear pivots just where nothing but 0 is killed. -/
theorem full_iff (hI : S.Inverts) (m l : Nat) (M : Nat → Nat → El S) : (run m M l).r = l ↔ ∀ v : Nat → El S, Ker m l M v → ∀ k, k < l → v k = 0 := by
  obtain ⟨p, h, hk⟩ := run_ech hI m M l
  have hrc := h.rc
  constructor
  · intro hr v hker k hkl
    have hker2 := (hk l v).2 hker
    have hpi : ∀ d i, i + d + 1 = l → p i = i := by
      intro d
      induction d with
      | zero =>
        intro i hi
        have h1 := h.ge i (by omega)
        have h2 := h.pc i (by omega)
        omega
      | succ d ih =>
        intro i hi
        have h1 := h.ge i (by omega)
        have h2 := ih (i + 1) (by omega)
        have h3 := h.inc i (i + 1) (by omega) (by omega)
        omega
    have hall : ∀ d k, k + d + 1 = l → v k = 0 := by
      intro d
      induction d using Nat.strongRecOn with
      | _ d ih =>
        intro k hkd
        have hkr : k < (run m M l).r := by omega
        have h1 := hker2 k (by have := h.rm; omega)
        have h2 := hpi d k hkd
        rw [El.sm_one l k (by omega) fun j hj hne => by
          by_cases hjk : j < k
          · rw [h.pre k hkr j (by rw [h2]; exact hjk), El.zero_mul]
          · rw [ih (l - 1 - j) (by omega) j (by omega), El.mul_zero]] at h1
        have h3 := h.piv k hkr
        rw [h2] at h3
        have h4 : S.inv ((run m M l).M k k) * ((run m M l).M k k * v k) = 0 := by rw [h1, El.mul_zero]
        rwa [← El.mul_assoc, hI _ h3, El.one_mul] at h4
    exact hall (l - 1 - k) k (by omega)
  · intro hz
    refine Classical.byContradiction fun hne => ?_
    obtain ⟨i0, hi0, hlt⟩ := El.exists_first (fun i => i = (run m M l).r ∨ p i ≠ i) ⟨(run m M l).r, .inl rfl⟩
    have hi0r : i0 ≤ (run m M l).r := by
      rcases Nat.lt_or_ge (run m M l).r i0 with hh | hh
      · exact absurd (.inl rfl) (hlt _ hh)
      · exact hh
    have hnp : ∀ i, i < (run m M l).r → i0 ≠ p i := by
      intro i hi e
      rcases Nat.lt_trichotomy i i0 with hh | hh | hh
      · have : p i = i := Classical.byContradiction fun h3 => hlt i hh (.inr h3)
        omega
      · subst hh
        rcases hi0 with h3 | h3
        · omega
        · exact h3 e.symm
      · have h3 := h.inc i0 i hh hi
        have h4 := h.ge i0 (by omega)
        omega
    obtain ⟨v, h1, h2⟩ := h.solve hI l (Nat.le_refl _) (fun k => if k = i0 then 1 else 0)
    have hv : v i0 = 1 := by rw [h1 i0 hnp, if_pos rfl]
    have hker : Ker m l M v := (hk l v).1 fun i hi => by
      by_cases hir : i < (run m M l).r
      · exact h2 i hir
      · exact El.sm_zero _ fun k hkl => by rw [h.low i (by omega) hi k hkl, El.zero_mul]
    have := hz v hker i0 (by omega)
    rw [hv] at this
    exact El.one_ne_zero this
end RK
namespace El
/-- The equations for a register of the length l. -/
def eqs (s : Nat → El S) (l : Nat) (i k : Nat) : El S := if k = l then s (l + i) else s (l + i - (k + 1))
theorem sm_last (f : Nat → El S) (l : Nat) (v : Nat → El S) (i : Nat) (s : Nat → El S) (h : f = eqs s l i) : sm (fun k => f k * v k) (l + 1) = sm (fun k => s (l + i - (k + 1)) * v k) l + s (l + i) * v l := by
  subst h
  rw [sm]
  congr 1
  · refine sm_congr _ fun k hk => ?_
    unfold eqs; rw [if_neg (by omega)]
  · unfold eqs; rw [if_pos rfl]
/-- The register whose coefficients from 1 to l are v. -/
def regOf (l : Nat) (v : Nat → El S) (i : Nat) : El S := if i = 0 then 1 else if i ≤ l then v (i - 1) else 0
theorem regOf_reg (l : Nat) (v : Nat → El S) : Reg (regOf l v) l := ⟨if_pos rfl, fun i hi => by unfold regOf; rw [if_neg (by omega), if_neg (by omega)]⟩
theorem cv_reg {c : Nat → El S} {l : Nat} (h : Reg c l) (s : Nat → El S) (j : Nat) (hj : l ≤ j) : cv c s j = s j + sm (fun k => s (j - (k + 1)) * c (k + 1)) l := by
  rw [cv_le _ _ _ (l + 1) fun i _ hi => h.2 i (by omega), sm_head, if_pos (Nat.zero_le _), h.1, one_mul, Nat.sub_zero]
  congr 1
  refine sm_congr _ fun i hi => ?_
  rw [if_pos (by omega), mul_comm]
theorem gen_iff {c s : Nat → El S} {l n : Nat} (hr : Reg c l) : Gen c l s n ↔ ∀ i, i < n - l → s (l + i) + sm (fun k => s (l + i - (k + 1)) * c (k + 1)) l = 0 := by
  constructor
  · intro h i hi
    rw [← cv_reg hr s (l + i) (by omega)]
    exact h.2 _ (by omega) (by omega)
  · intro h
    refine ⟨hr, fun j h1 h2 => ?_⟩
    rw [cv_reg hr s j h1]
    have := h (j - l) (by omega)
    rwa [show l + (j - l) = j by omega] at this
/-- The equations have a solution just where a register of the length l generates s. -/
theorem rank_gen (hI : S.Inverts) (s : Nat → El S) (l n : Nat) : (RK.run (n - l) (eqs s l) (l + 1)).r = (RK.run (n - l) (eqs s l) l).r ↔ ∃ c, Gen c l s n := by
  rw [RK.same_iff hI]
  constructor
  · rintro ⟨v, hv, hk⟩
    refine ⟨regOf l v, (gen_iff (regOf_reg l v)).2 fun i hi => ?_⟩
    have := hk i hi
    rw [sm_last _ l v i s rfl, hv, mul_one, add_comm] at this
    rw [← this]
    congr 1
    refine sm_congr _ fun k hkl => ?_
    unfold regOf
    rw [if_neg (by omega), if_pos (by omega), Nat.add_sub_cancel]
  · rintro ⟨c, hc⟩
    refine ⟨fun k => if k = l then 1 else c (k + 1), if_pos rfl, fun i hi => ?_⟩
    rw [sm_last _ l _ i s rfl, if_pos rfl, mul_one, add_comm, ← (gen_iff hc.1).1 hc i hi]
    congr 1
    refine sm_congr _ fun k hkl => ?_
    rw [if_neg (by omega)]
/-- They have just one where there is just one register. -/
theorem rank_full (hI : S.Inverts) (s c : Nat → El S) (l n : Nat) (hc : Gen c l s n) : (RK.run (n - l) (eqs s l) l).r = l ↔ ∀ c', Gen c' l s n → c' = c := by
  rw [RK.full_iff hI]
  have hlin : ∀ v : Nat → El S, RK.Ker (n - l) l (eqs s l) v ↔ ∀ i, i < n - l → sm (fun k => s (l + i - (k + 1)) * v k) l = 0 := by
    intro v
    refine forall_congr' fun i => forall_congr' fun hi => ?_
    rw [sm_congr (f := fun k => eqs s l i k * v k) (g := fun k => s (l + i - (k + 1)) * v k) l fun k hk => by unfold eqs; rw [if_neg (by omega)]]
  constructor
  · intro h c' hc'
    have h1 := h (fun k => c' (k + 1) + -c (k + 1)) ((hlin _).2 fun i hi => by
      have e1 := (gen_iff hc.1).1 hc i hi
      have e2 := (gen_iff hc'.1).1 hc' i hi
      have e3 : (fun k => s (l + i - (k + 1)) * (c' (k + 1) + -c (k + 1))) = fun k => s (l + i - (k + 1)) * c' (k + 1) + -1 * (s (l + i - (k + 1)) * c (k + 1)) := by
        funext k; rw [mul_add, mul_neg, neg_mul, one_mul]
      rw [e3, sm_add, sm_mul, neg_mul, one_mul, neg_eq e1, neg_eq e2, neg_neg, neg_add])
    funext i
    cases i with
    | zero => rw [hc'.1.1, hc.1.1]
    | succ i =>
      by_cases hi : i < l
      · exact sub_eq.1 (h1 i hi)
      · rw [hc'.1.2 _ (by omega), hc.1.2 _ (by omega)]
  · intro h v hv k hk
    have hv2 := (hlin v).1 hv
    have hr : Reg (fun i => c i + (if i = 0 then 0 else if i ≤ l then v (i - 1) else 0)) l := ⟨by show c 0 + _ = 1; rw [if_pos rfl, add_zero]; exact hc.1.1, fun i hi => by
      show c i + _ = 0
      rw [hc.1.2 i hi, if_neg (by omega), if_neg (by omega), add_zero]⟩
    have hg : Gen (fun i => c i + (if i = 0 then 0 else if i ≤ l then v (i - 1) else 0)) l s n := (gen_iff hr).2 fun i hi => by
      have e1 := (gen_iff hc.1).1 hc i hi
      have e2 := hv2 i hi
      have e3 : sm (fun k => s (l + i - (k + 1)) * (c (k + 1) + (if k + 1 = 0 then 0 else if k + 1 ≤ l then v (k + 1 - 1) else 0))) l = sm (fun k => s (l + i - (k + 1)) * c (k + 1)) l + sm (fun k => s (l + i - (k + 1)) * v k) l := by
        rw [← sm_add]
        refine sm_congr _ fun k hk => ?_
        rw [if_neg (by omega), if_pos (by omega), Nat.add_sub_cancel, mul_add]
      rw [e3, e2, add_zero]; exact e1
    have := congrFun (h _ hg) (k + 1)
    simp only [Nat.add_eq_zero_iff, Nat.one_ne_zero, and_false, if_false, Nat.add_sub_cancel, if_pos (show k + 1 ≤ l by omega)] at this
    exact add_left_cancel (this.trans (add_zero _).symm)
end El

namespace BM
/-- Where the least length is more than half that of the sequence, there is another register of this length. -/
theorem Ok.other {s : Nat → El S} {n : Nat} {st : BM} {K ol : Nat} (h : Ok S s n st K ol) (h2 : n < 2 * st.l) : ∃ c', El.Gen c' st.l s n ∧ c' ≠ S.sq st.c := by
  have hl := h.hl
  have hK := h.hK
  have hln := h.ln
  have hs := h.since
  have hK0 : 0 < K := by omega
  refine ⟨fun i => S.sq st.c i + El.up st.since (S.sq st.old) i, ⟨⟨?_, fun i hi => ?_⟩, fun j h3 h4 => ?_⟩, fun e => ?_⟩
  · show S.sq st.c 0 + El.up st.since (S.sq st.old) 0 = 1
    unfold El.up
    rw [if_neg (by omega), El.add_zero]; exact h.gen.1.1
  · show S.sq st.c i + El.up st.since (S.sq st.old) i = 0
    unfold El.up
    rw [h.gen.1.2 i hi]
    split
    · rw [h.oldz _ (by omega), El.add_zero]
    · rw [El.add_zero]
  · rw [El.cv_add, El.cv_up, h.gen.2 j h3 h4]
    split
    · rw [h.oldg _ (by omega) (by omega), El.add_zero]
    · rw [El.add_zero]
  · have hz : ∀ i, S.sq st.old i = 0 := by
      intro i
      have := congrFun e (i + st.since)
      have e2 : S.sq st.c (i + st.since) + El.up st.since (S.sq st.old) (i + st.since) = S.sq st.c (i + st.since) + 0 := by rw [El.add_zero]; exact this
      have e3 := El.add_left_cancel e2
      unfold El.up at e3
      rwa [if_pos (by omega), Nat.add_sub_cancel] at e3
    have := h.oldk hK0
    have e4 : El.cv (S.sq st.old) s (K - 1) = 0 := El.sm_zero _ fun i _ => by rw [hz i, El.zero_mul]
    rw [e4] at this
    exact h.og this.symm
end BM

end Go.Proofs.Ytdbhhfhfjlpepaa

/- The least length by ranks. No program in it. -/
namespace Go.Proofs.Ytdbhhfhfjlpepaa
namespace El
variable {S : FS}
theorem Gen.longer {c s : Nat → El S} {l l' n : Nat} (h : Gen c l s n) (hl : l ≤ l') : Gen c l' s n :=
  ⟨⟨h.1.1, fun i hi => h.1.2 i (by omega)⟩, fun j h1 h2 => h.2 j (by omega) h2⟩
end El
variable {S : FS}
/-- The two ranks agree from the least length on. -/
theorem ranks_agree (hI : S.Inverts) (s : List Int) (l : Nat) : (RK.run (s.length - l) (El.eqs (S.sq s) l) (l + 1)).r = (RK.run (s.length - l) (El.eqs (S.sq s) l) l).r ↔ (BM.run S s s.length).l ≤ l := by
  rw [El.rank_gen hI]
  obtain ⟨K, ol, h⟩ := BM.run_ok hI s s.length
  exact ⟨fun ⟨c, hc⟩ => h.min _ _ hc, fun hl => ⟨_, h.gen.longer hl⟩⟩
/-- At the least length the rank is full just where this is at most half the sequence's. -/
theorem rank_unique (hI : S.Inverts) (s : List Int) : (RK.run (s.length - (BM.run S s s.length).l) (El.eqs (S.sq s) (BM.run S s s.length).l) (BM.run S s s.length).l).r = (BM.run S s s.length).l ↔ 2 * (BM.run S s s.length).l ≤ s.length := by
  obtain ⟨K, ol, h⟩ := BM.run_ok hI s s.length
  rw [El.rank_full hI _ _ _ _ h.gen]
  constructor
  · intro hu
    rcases Nat.lt_or_ge s.length (2 * (BM.run S s s.length).l) with h2 | h2
    · obtain ⟨c', hc', hne⟩ := h.other h2
      exact absurd (hu c' hc') hne
    · exact h2
  · intro h2 c' hc'
    exact El.uniq hI hc' h.gen h.min h2
namespace RK
/-- Row i while its entries from c to k - 1 are struck. -/
def part (r c k : Nat) (a : El S) (M : Nat → Nat → El S) (i j : Nat) : El S := if c ≤ j ∧ j < k then M i j + -(a * M r j) else M i j
theorem part_start (r c : Nat) (a : El S) (M : Nat → Nat → El S) (i j : Nat) : part r c c a M i j = M i j := by unfold part; rw [if_neg (by omega)]
theorem part_next (r c k : Nat) (a : El S) (M : Nat → Nat → El S) (i j : Nat) (hk : c ≤ k) : part r c (k + 1) a M i j = if j = k then M i k + -(a * M r k) else part r c k a M i j := by
  unfold part
  by_cases e : j = k
  · subst e; rw [if_pos ⟨hk, by omega⟩, if_pos rfl]
  · rw [if_neg e]
    by_cases h : c ≤ j ∧ j < k
    · rw [if_pos h, if_pos ⟨h.1, by omega⟩]
    · rw [if_neg h, if_neg (by omega)]
theorem part_all {m r c n : Nat} {M : Nat → Nat → El S} (hz : ∀ j, j < c → M r j = 0) (i j : Nat) (h1 : r < i) (h2 : i < m) (hj : j < n) : part r c n (M i c * S.inv (M r c)) M i j = strike m r c M i j := by
  have e : strike m r c M i j = M i j + -(M i c * S.inv (M r c) * M r j) := by unfold strike; rw [if_pos ⟨h1, h2⟩]
  rw [e]
  unfold part
  by_cases h : c ≤ j
  · rw [if_pos ⟨h, hj⟩]
  · rw [if_neg (by omega), hz j (by omega), El.mul_zero, El.neg_zero, El.add_zero]
theorem run_none (M : Nat → Nat → El S) (c : Nat) : (run 0 M c).r = 0 := by
  induction c with
  | zero => rfl
  | succ c ih =>
    show (step 0 c (run 0 M c)).r = 0
    unfold step
    have e : fnd (fun i => (run 0 M c).M i c) (run 0 M c).r (0 - (run 0 M c).r) = 0 := by rw [ih]; rfl
    rw [if_pos e]; exact ih
end RK

end Go.Proofs.Ytdbhhfhfjlpepaa

/- A matrix in memory: a row of slices, each row of numbers in a block of its own. -/
namespace Go.Proofs.Ytdbhhfhfjlpepaa
open Go.RowKit
variable {S : FS}
/-- The first n of a sequence, as numbers. -/
def FS.row (S : FS) (f : Nat → El S) (n : Nat) : List Int := (List.range n).map fun i => (f i).1
theorem FS.row_length (f : Nat → El S) (n : Nat) : (S.row f n).length = n := by simp [FS.row]
theorem FS.row_at (f : Nat → El S) (n k : Nat) (h : k < n) : (S.row f n).getD k 0 = (f k).1 := by simp [FS.row, List.getD_eq_getElem?_getD, h]
theorem FS.row_congr {f g : Nat → El S} (n : Nat) (h : ∀ k, k < n → f k = g k) : S.row f n = S.row g n := by
  refine List.map_congr_left fun i hi => ?_
  rw [h i (List.mem_range.1 hi)]
theorem FS.row_set (f : Nat → El S) (n k : Nat) (x : El S) : (S.row f n).set k x.1 = S.row (fun j => if j = k then x else f j) n := by
  refine List.ext_getElem (by simp [FS.row]) fun i h1 h2 => ?_
  rw [List.getElem_set]
  by_cases hi : k = i
  · subst hi; simp [FS.row]
  · rw [if_neg hi]; simp [FS.row, show ¬ i = k from fun e => hi e.symm]
structure Mat (S : FS) (W : World) (R m cols : Nat) (b cp : Nat → Nat) (M : Nat → Nat → El S) : Prop where
  hd : ∀ i, i < m → W.cell? ⟨R, i, none⟩ = some (.slice (some ⟨b i, 0, none⟩) cols (cp i))
  fz : ∀ i, i < m → W.frozen? ⟨R, i, none⟩ = false
  own : ∀ i, i < m → Own W (b i) (cp i) (S.row (M i) cols)
  ne : ∀ i, i < m → b i ≠ R
  inj : ∀ i j, i < m → j < m → i ≠ j → b i ≠ b j
namespace Mat
variable {W : World} {R m cols : Nat} {b cp : Nat → Nat} {M : Nat → Nat → El S}
theorem below {W' : World} (h : Mat S W R m cols b cp M) (hb : Below W.heap.size W W') : Mat S W' R m cols b cp M where
  hd := fun i hi => (hb.cell (World.block_lt_of_cell? W _ (h.hd i hi))).trans (h.hd i hi)
  fz := fun i hi => (hb.frozen (World.block_lt_of_cell? W _ (h.hd i hi))).trans (h.fz i hi)
  own := fun i hi => (h.own i hi).below hb (h.own i hi).lt
  ne := h.ne
  inj := h.inj
theorem congr {M' : Nat → Nat → El S} (h : Mat S W R m cols b cp M) (he : ∀ i, i < m → ∀ k, k < cols → M' i k = M i k) : Mat S W R m cols b cp M' :=
  { h with own := fun i hi => by rw [FS.row_congr cols (he i hi)]; exact h.own i hi }
theorem put (h : Mat S W R m cols b cp M) (i k : Nat) (hi : i < m) (x : El S) : Mat S (W.setCell ⟨b i, k, none⟩ (.int .i64 x.1)) R m cols b cp (fun i' k' => if i' = i ∧ k' = k then x else M i' k') where
  hd := fun j hj => by
    rw [World.cell?_setCell_other]
    · exact h.hd j hj
    · intro e
      have := congrArg Addr.block e
      first | exact h.ne i hi this | exact h.ne i hi this.symm
  fz := fun j hj => by rw [World.frozen?_setCell]; exact h.fz j hj
  own := fun j hj => by
    by_cases e : j = i
    · subst e
      have := (h.own j hj).set k x.1
      rw [FS.row_set] at this
      rw [FS.row_congr (g := fun k' => if k' = k then x else M j k') cols fun k' _ => by by_cases e : k' = k <;> simp [e]]
      exact this
    · rw [FS.row_congr (g := M j) cols fun k' _ => by rw [if_neg (fun h => e h.1)]]
      exact (h.own j hj).setOther _ (by simpa using h.inj i j hi hj fun h => e h.symm) _
  ne := h.ne
  inj := h.inj
theorem cell (h : Mat S W R m cols b cp M) (i k : Nat) (hi : i < m) (hk : k < cols) : W.cell? ⟨b i, k, none⟩ = some (.int .i64 (M i k).1) := by
  rw [(h.own i hi).cell k (by rw [FS.row_length]; exact hk), FS.row_at _ _ _ hk]
theorem free (h : Mat S W R m cols b cp M) (i k : Nat) (hi : i < m) : W.frozen? ⟨b i, k, none⟩ = false := (h.own i hi).free k
/-- Two rows' slices change places. -/
theorem swap (h : Mat S W R m cols b cp M) (r p : Nat) (hr : r < m) (hp : p < m) :
    Mat S ((W.setCell ⟨R, r, none⟩ (.slice (some ⟨b p, 0, none⟩) cols (cp p))).setCell ⟨R, p, none⟩ (.slice (some ⟨b r, 0, none⟩) cols (cp r))) R m cols (fun i => if i = r then b p else if i = p then b r else b i) (fun i => if i = r then cp p else if i = p then cp r else cp i) (RK.swp M r p) where
  hd := fun i hi => by
    have h1 : ((W.setCell ⟨R, r, none⟩ (.slice (some ⟨b p, 0, none⟩) cols (cp p))).cell? ⟨R, p, none⟩).isSome = true := by
      by_cases e : p = r
      · subst e; rw [World.cell?_setCell_same' _ _ _ (by rw [h.hd p hp]; rfl)]; rfl
      · rw [World.cell?_setCell_other]
        · rw [h.hd p hp]; rfl
        · intro e2; have := congrArg Addr.off e2; first | exact e this | exact e this.symm
    by_cases e2 : i = p
    · subst e2
      rw [World.cell?_setCell_same' _ _ _ h1]
      by_cases e : i = r
      · subst e; simp
      · simp [e]
    · rw [World.cell?_setCell_other]
      · by_cases e : i = r
        · subst e; rw [World.cell?_setCell_same' _ _ _ (by rw [h.hd i hi]; rfl)]; simp
        · rw [World.cell?_setCell_other]
          · simp [e, e2]; exact h.hd i hi
          · intro e3; have := congrArg Addr.off e3; first | exact e this | exact e this.symm
      · intro e3; have := congrArg Addr.off e3; first | exact e2 this | exact e2 this.symm
  fz := fun i hi => by rw [World.frozen?_setCell, World.frozen?_setCell]; exact h.fz i hi
  own := fun i hi => by
    have key : ∀ j, j < m → Own ((W.setCell ⟨R, r, none⟩ (.slice (some ⟨b p, 0, none⟩) cols (cp p))).setCell ⟨R, p, none⟩ (.slice (some ⟨b r, 0, none⟩) cols (cp r))) (b j) (cp j) (S.row (M j) cols) := fun j hj =>
      ((h.own j hj).setOther _ (by simpa using fun e => h.ne j hj e.symm) _).setOther _ (by simpa using fun e => h.ne j hj e.symm) _
    by_cases e : i = r
    · subst e; simp [RK.swp]; exact key p hp
    · by_cases e2 : i = p
      · subst e2; simp [RK.swp, e]; exact key r hr
      · simp [RK.swp, e, e2]; exact key i hi
  ne := fun i hi => by
    show (if i = r then b p else if i = p then b r else b i) ≠ R
    split
    · exact h.ne p hp
    · split
      · exact h.ne r hr
      · exact h.ne i hi
  inj := fun i j hi hj hne => by
    show (if i = r then b p else if i = p then b r else b i) ≠ (if j = r then b p else if j = p then b r else b j)
    split <;> split <;> (try split) <;> (try split) <;> (try omega) <;> (refine h.inj _ _ ?_ ?_ ?_ <;> omega)
end Mat

end Go.Proofs.Ytdbhhfhfjlpepaa
