/- Sums and products of sequences of elements; registers; no two registers are both short. No program in it. -/
import Derived.Test.YtdbhhfhfjlpepaaMathH
namespace Go.Proofs.Ytdbhhfhfjlpepaa

namespace El
variable {S : FS}
/-- The sum of the first n. -/
def sm (f : Nat → El S) : Nat → El S
  | 0 => 0
  | n + 1 => sm f n + f n
theorem sm_congr {f g : Nat → El S} (n : Nat) (h : ∀ i, i < n → f i = g i) : sm f n = sm g n := by
  induction n with
  | zero => rfl
  | succ n ih => rw [sm, sm, ih fun i hi => h i (by omega), h n (by omega)]
theorem sm_add (f g : Nat → El S) (n : Nat) : sm (fun i => f i + g i) n = sm f n + sm g n := by
  induction n with
  | zero => rw [sm, sm, sm, add_zero]
  | succ n ih => rw [sm, sm, sm, ih, add_assoc, add_assoc, add_left_comm (sm g n)]
theorem sm_mul (a : El S) (f : Nat → El S) (n : Nat) : sm (fun i => a * f i) n = a * sm f n := by
  induction n with
  | zero => rw [sm, sm, mul_zero]
  | succ n ih => rw [sm, sm, ih, mul_add]
theorem sm_zero {f : Nat → El S} (n : Nat) (h : ∀ i, i < n → f i = 0) : sm f n = 0 := by
  induction n with
  | zero => rfl
  | succ n ih => rw [sm, ih fun i hi => h i (by omega), h n (by omega), add_zero]
theorem sm_one {f : Nat → El S} (n k : Nat) (hk : k < n) (h : ∀ i, i < n → i ≠ k → f i = 0) : sm f n = f k := by
  induction n with
  | zero => omega
  | succ n ih =>
    rw [sm]
    by_cases e : k = n
    · subst e; rw [sm_zero k fun i hi => h i (by omega) (by omega), zero_add]
    · rw [ih (by omega) fun i hi => h i (by omega), h n (by omega) (by omega), add_zero]
theorem sm_swap (f : Nat → Nat → El S) (m n : Nat) : sm (fun i => sm (f i) n) m = sm (fun j => sm (fun i => f i j) m) n := by
  induction m with
  | zero => exact (sm_zero n fun i _ => rfl).symm
  | succ m ih => rw [sm, ih, ← sm_add]; rfl
theorem sm_more {f : Nat → El S} {m n : Nat} (h : m ≤ n) (hz : ∀ i, m ≤ i → i < n → f i = 0) : sm f n = sm f m := by
  induction n with
  | zero => obtain rfl : m = 0 := by omega
            rfl
  | succ n ih =>
    by_cases e : m = n + 1
    · subst e; rfl
    · rw [sm, ih (by omega) fun i h1 h2 => hz i h1 (by omega), hz n (by omega) (by omega), add_zero]
/-- The product of two sequences. -/
def cv (a b : Nat → El S) (n : Nat) : El S := sm (fun i => a i * b (n - i)) (n + 1)
/-- The same over whatever length holds what counts. -/
theorem cv_le (a b : Nat → El S) (n l : Nat) (h : ∀ i, i ≤ n → l ≤ i → a i = 0) : cv a b n = sm (fun i => if i ≤ n then a i * b (n - i) else 0) l := by
  have e1 : cv a b n = sm (fun i => if i ≤ n then a i * b (n - i) else 0) (n + 1) := sm_congr _ fun i hi => by rw [if_pos (by omega)]
  rw [e1]
  by_cases hl : l ≤ n + 1
  · exact sm_more hl fun i h1 h2 => by rw [if_pos (by omega), h i (by omega) h1, zero_mul]
  · exact (sm_more (by omega) fun i h1 h2 => by rw [if_neg (by omega)]).symm
theorem cv_two (a b s : Nat → El S) (n : Nat) : cv a (cv b s) n = sm (fun i => sm (fun j => if i + j ≤ n then a i * (b j * s (n - (i + j))) else 0) (n + 1)) (n + 1) := by
  refine sm_congr _ fun i hi => ?_
  rw [cv_le b s (n - i) (n + 1) (fun j h1 h2 => by omega), ← sm_mul]
  refine sm_congr _ fun j hj => ?_
  by_cases h : i + j ≤ n
  · rw [if_pos h, if_pos (by omega), Nat.sub_sub]
  · rw [if_neg h, if_neg (by omega), mul_zero]
theorem cv_swap (a b s : Nat → El S) (n : Nat) : cv a (cv b s) n = cv b (cv a s) n := by
  rw [cv_two, cv_two, sm_swap]
  refine sm_congr _ fun i hi => sm_congr _ fun j hj => ?_
  rw [Nat.add_comm j i, mul_left_comm]
theorem cv_add (a b s : Nat → El S) (n : Nat) : cv (fun i => a i + b i) s n = cv a s n + cv b s n := by
  unfold cv
  rw [← sm_add]
  exact sm_congr _ fun i hi => add_mul _ _ _
theorem cv_mul (x : El S) (a s : Nat → El S) (n : Nat) : cv (fun i => x * a i) s n = x * cv a s n := by
  unfold cv
  rw [← sm_mul]
  exact sm_congr _ fun i hi => mul_assoc _ _ _
/-- A sequence moved up by t. -/
def up (t : Nat) (a : Nat → El S) (i : Nat) : El S := if t ≤ i then a (i - t) else 0
theorem sm_up (f : Nat → El S) (t n : Nat) : sm (fun i => if t ≤ i then f (i - t) else 0) (t + n) = sm f n := by
  induction n with
  | zero => exact sm_zero _ fun i hi => if_neg (by omega)
  | succ n ih => rw [← Nat.add_assoc, sm, ih, sm, if_pos (by omega), Nat.add_sub_cancel_left]
theorem cv_up (t : Nat) (a s : Nat → El S) (n : Nat) : cv (up t a) s n = if t ≤ n then cv a s (n - t) else 0 := by
  by_cases h : t ≤ n
  · rw [if_pos h]
    have := sm_up (fun i => a i * s (n - t - i)) t (n - t + 1)
    rw [show t + (n - t + 1) = n + 1 by omega] at this
    unfold cv
    rw [← this]
    refine sm_congr _ fun i hi => ?_
    unfold up
    by_cases hi2 : t ≤ i
    · rw [if_pos hi2, if_pos hi2, show n - t - (i - t) = n - i by omega]
    · rw [if_neg hi2, if_neg hi2, zero_mul]
  · rw [if_neg h]
    exact sm_zero _ fun i hi => by unfold up; rw [if_neg (by omega), zero_mul]
theorem cv_congr {a b s t : Nat → El S} (n : Nat) (h : ∀ i, i ≤ n → a i = b i) (h' : ∀ i, i ≤ n → s i = t i) : cv a s n = cv b t n :=
  sm_congr _ fun i hi => by rw [h i (by omega), h' (n - i) (by omega)]

/-- A connection polynomial of length l. -/
def Reg (c : Nat → El S) (l : Nat) : Prop := c 0 = 1 ∧ ∀ i, l < i → c i = 0
/-- The register generates the first n entries. -/
def Gen (c : Nat → El S) (l : Nat) (s : Nat → El S) (n : Nat) : Prop := Reg c l ∧ ∀ j, l ≤ j → j < n → cv c s j = 0
theorem Gen.less {c s : Nat → El S} {l n m : Nat} (h : Gen c l s n) (hm : m ≤ n) : Gen c l s m := ⟨h.1, fun j h1 h2 => h.2 j h1 (by omega)⟩
theorem Gen.next {c s : Nat → El S} {l n : Nat} (h : Gen c l s n) (h0 : l ≤ n → cv c s n = 0) : Gen c l s (n + 1) := ⟨h.1, fun j h1 h2 => by
  by_cases e : j = n
  · subst e; exact h0 h1
  · exact h.2 j h1 (by omega)⟩
/-- A register of length l that fails at n forbids registers below n + 1 - l there. -/
theorem massey {c c' s : Nat → El S} {l l' n : Nat} (h : Gen c l s n) (hd : cv c s n ≠ 0) (h' : Gen c' l' s (n + 1)) : n + 1 ≤ l + l' := by
  by_cases hc : n + 1 ≤ l + l'
  · exact hc
  · exfalso
    have e1 : cv c' (cv c s) n = cv c s n := by
      have : cv c' (cv c s) n = c' 0 * cv c s (n - 0) := sm_one (n + 1) 0 (by omega) fun i hi h0 => by
        by_cases hil : l' < i
        · rw [h'.1.2 i hil, zero_mul]
        · rw [h.2 (n - i) (by omega) (by omega), mul_zero]
      rw [this, h'.1.1, one_mul, Nat.sub_zero]
    have e2 : cv c (cv c' s) n = 0 := sm_zero (n + 1) fun i hi => by
      by_cases hil : l < i
      · rw [h.1.2 i hil, zero_mul]
      · rw [h'.2 (n - i) (by omega) (by omega), mul_zero]
    rw [cv_swap, e2] at e1
    exact hd e1.symm
end El

/-- A number as an element. -/
def FS.el (S : FS) (v : Int) : El S := El.mk (inn S.q v) (inn_bd (by have := S.q2; omega)).1 (inn_bd (by have := S.q2; omega)).2
theorem FS.el_val (S : FS) (v : Int) : (S.el v).1 = inn S.q v := rfl
theorem FS.el_of (S : FS) (a : El S) : S.el a.1 = a := El.eq (inn_yes a.2.1 a.2.2)
theorem FS.el_0 (S : FS) : S.el 0 = 0 := S.el_of 0
theorem FS.el_1 (S : FS) : S.el 1 = 1 := S.el_of 1
theorem FS.el_inn (S : FS) (v : Int) : S.el (inn S.q v) = S.el v := S.el_of (S.el v)
/-- A list as a sequence of elements. -/
def FS.sq (S : FS) (l : List Int) (i : Nat) : El S := S.el (l.getD i 0)
theorem FS.sq_far (S : FS) (l : List Int) (i : Nat) (h : l.length ≤ i) : S.sq l i = 0 := by
  unfold FS.sq
  rw [List.getD_eq_getElem?_getD, List.getElem?_eq_none h]
  exact S.el_0

end Go.Proofs.Ytdbhhfhfjlpepaa

/- The algorithm's steps on lists, and what they keep. No program in it. -/
namespace Go.Proofs.Ytdbhhfhfjlpepaa

/-- A list without zeros at its end. -/
def trimL (l : List Int) : List Int := (l.reverse.dropWhile (· == 0)).reverse
theorem trimL_nil : trimL [] = [] := rfl
theorem trimL_zero (l : List Int) : trimL (l ++ [0]) = trimL l := by simp [trimL]
theorem trimL_keep (l : List Int) (x : Int) (h : x ≠ 0) : trimL (l ++ [x]) = l ++ [x] := by simp [trimL, h]
theorem take_succ_getD (l : List Int) (k : Nat) (h : k < l.length) : l.take (k + 1) = l.take k ++ [l.getD k 0] := by
  rw [List.take_add_one, List.getElem?_eq_getElem h, List.getD_eq_getElem?_getD, List.getElem?_eq_getElem h]; rfl
theorem list_snoc (l : List Int) (h : l ≠ []) : ∃ a x, l = a ++ [x] := ⟨l.dropLast, l.getLast h, (List.dropLast_concat_getLast h).symm⟩
theorem trimL_spec (l : List Int) : ∃ k, trimL l = l.take k ∧ k ≤ l.length ∧ (∀ i, k ≤ i → l.getD i 0 = 0) ∧ (0 < k → l.getD (k - 1) 0 ≠ 0) := by
  generalize hn : l.length = n
  induction n generalizing l with
  | zero =>
    obtain rfl := List.eq_nil_of_length_eq_zero hn
    exact ⟨0, rfl, Nat.le_refl _, fun i _ => by simp, fun h => by omega⟩
  | succ n ih =>
    obtain ⟨a, x, rfl⟩ := list_snoc l (by intro e; rw [e] at hn; simp at hn)
    have ha : a.length = n := by simpa using hn
    by_cases hx : x = 0
    · subst hx
      obtain ⟨k, h1, h2, h3, h4⟩ := ih a ha
      refine ⟨k, by rw [trimL_zero, h1, List.take_append_of_le_length (by omega)], by omega, fun i hi => ?_, fun h => ?_⟩
      · by_cases hl : i < a.length
        · have := h3 i hi
          simpa [List.getD_eq_getElem?_getD, List.getElem?_append_left hl] using this
        · by_cases he : i = a.length
          · subst he; simp [List.getD_eq_getElem?_getD]
          · rw [List.getD_eq_getElem?_getD, List.getElem?_eq_none (by simp; omega)]; rfl
      · have := h4 h
        simpa [List.getD_eq_getElem?_getD, List.getElem?_append_left (show k - 1 < a.length by omega)] using this
    · refine ⟨n + 1, by rw [trimL_keep _ _ hx, List.take_of_length_le (by omega)], Nat.le_refl _, fun i hi => ?_, fun h => ?_⟩
      · rw [List.getD_eq_getElem?_getD, List.getElem?_eq_none (by omega)]; rfl
      · rw [show n + 1 - 1 = a.length by omega]
        simpa [List.getD_eq_getElem?_getD] using hx
theorem trimL_len (l : List Int) : (trimL l).length ≤ l.length := by
  obtain ⟨k, h, hk, _⟩ := trimL_spec l
  rw [h, List.length_take]; omega
theorem trimL_at (l : List Int) (i : Nat) : (trimL l).getD i 0 = l.getD i 0 := by
  obtain ⟨k, h, hk, h3, _⟩ := trimL_spec l
  rw [h]
  by_cases hi : i < k
  · simp [List.getD_eq_getElem?_getD, hi]
  · rw [h3 i (by omega), List.getD_eq_getElem?_getD, List.getElem?_eq_none (by rw [List.length_take]; omega)]; rfl
theorem trimL_last (l : List Int) (h : trimL l ≠ []) : l.getD ((trimL l).length - 1) 0 ≠ 0 := by
  obtain ⟨k, h1, hk, h3, h4⟩ := trimL_spec l
  have e : (trimL l).length = k := by rw [h1, List.length_take]; omega
  rw [e]
  refine h4 ?_
  rcases Nat.eq_zero_or_pos k with h0 | h0
  · exact absurd (List.eq_nil_of_length_eq_zero (by rw [e, h0])) h
  · exact h0

namespace FS
variable (S : FS)
/-- The canonical form. -/
def canL (l : List Int) : List Int := trimL ((List.range l.length).map fun i => (S.sq l i).1)
/-- p + a o. -/
def comb0 (p : List Int) (a : El S) (o : List Int) (n : Nat) : List Int := (List.range n).map fun i => (S.sq p i + a * S.sq o i).1
def combL (p : List Int) (a : El S) (o : List Int) : List Int := trimL (S.comb0 p a o (max p.length o.length))
def shL (a : El S) (since : Nat) (old : List Int) : List Int := List.replicate since 0 ++ (List.range old.length).map fun i => (a * S.sq old i).1
/-- What the list holds stands for the elements. -/
theorem sq_map (f : Nat → El S) (n : Nat) : ∀ i, S.sq ((List.range n).map fun i => (f i).1) i = if i < n then f i else 0 := by
  intro i
  by_cases h : i < n
  · rw [if_pos h]
    unfold sq
    rw [List.getD_eq_getElem?_getD, List.getElem?_map, List.getElem?_range h]
    exact S.el_of _
  · rw [if_neg h]; exact S.sq_far _ _ (by simp; omega)
theorem sq_trim (l : List Int) : S.sq (trimL l) = S.sq l := by funext i; unfold sq; rw [trimL_at]
theorem sq_can (l : List Int) : S.sq (S.canL l) = S.sq l := by
  unfold canL
  rw [sq_trim]
  funext i
  rw [sq_map]
  split
  · rfl
  · exact (S.sq_far _ _ (by omega)).symm
theorem sq_comb (p : List Int) (a : El S) (o : List Int) : S.sq (S.combL p a o) = fun i => S.sq p i + a * S.sq o i := by
  unfold combL comb0
  rw [sq_trim]
  funext i
  rw [sq_map S (fun i => S.sq p i + a * S.sq o i)]
  split
  · rfl
  · rw [S.sq_far p _ (by omega), S.sq_far o _ (by omega), El.mul_zero, El.add_zero]
theorem sq_sh (a : El S) (t : Nat) (old : List Int) : S.sq (S.shL a t old) = El.up t fun i => a * S.sq old i := by
  funext i
  unfold El.up shL
  by_cases h : t ≤ i
  · rw [if_pos h]
    have e : S.sq (List.replicate t 0 ++ (List.range old.length).map fun i => (a * S.sq old i).1) i = S.sq ((List.range old.length).map fun i => (a * S.sq old i).1) (i - t) := by
      unfold sq
      rw [List.getD_eq_getElem?_getD, List.getD_eq_getElem?_getD, List.getElem?_append_right (by simpa using h), List.length_replicate]
    rw [e, sq_map S (fun i => a * S.sq old i)]
    split
    · rfl
    · show 0 = a * S.sq old (i - t)
      rw [S.sq_far old _ (by omega), El.mul_zero]
  · rw [if_neg h]
    unfold sq
    rw [List.getD_eq_getElem?_getD, List.getElem?_append_left (by simp; omega), List.getElem?_replicate, if_pos (by omega)]
    exact S.el_0
/-- A list in canonical form. -/
def Can (l : List Int) : Prop := (∀ i, (S.sq l i).1 = l.getD i 0) ∧ (l ≠ [] → l.getD (l.length - 1) 0 ≠ 0)
theorem Can.eq {S : FS} {a b : List Int} (ha : S.Can a) (hb : S.Can b) (h : S.sq a = S.sq b) : a = b := by
  have key : ∀ {x y : List Int}, S.Can x → S.Can y → S.sq x = S.sq y → x.length ≤ y.length := by
    intro x y hx hy he
    rcases Nat.lt_or_ge y.length x.length with hlt | hge
    · exfalso
      have h1 := hx.2 (by intro e; rw [e] at hlt; simp at hlt)
      rw [← hx.1, he, S.sq_far y _ (by omega)] at h1
      exact h1 rfl
    · exact hge
  have hl : a.length = b.length := Nat.le_antisymm (key ha hb h) (key hb ha h.symm)
  refine List.ext_getElem hl fun i h1 h2 => ?_
  have e := ha.1 i
  rw [h, hb.1 i] at e
  simpa [List.getD_eq_getElem?_getD, h1, h2] using e.symm
theorem can_trim (l : List Int) (h : ∀ i, (S.sq l i).1 = l.getD i 0) : S.Can (trimL l) := by
  refine ⟨fun i => by rw [sq_trim, trimL_at]; exact h i, fun hne => ?_⟩
  rw [trimL_at]; exact trimL_last l hne
theorem map_in (f : Nat → El S) (n : Nat) : ∀ i, (S.sq ((List.range n).map fun i => (f i).1) i).1 = ((List.range n).map fun i => (f i).1).getD i 0 := by
  intro i
  rw [sq_map]
  by_cases h : i < n
  · rw [if_pos h, List.getD_eq_getElem?_getD, List.getElem?_map, List.getElem?_range h]; rfl
  · rw [if_neg h, List.getD_eq_getElem?_getD, List.getElem?_eq_none (by simp; omega)]; rfl
theorem can_can (l : List Int) : S.Can (S.canL l) := can_trim S _ (map_in S (S.sq l) _)
theorem can_comb (p : List Int) (a : El S) (o : List Int) : S.Can (S.combL p a o) := can_trim S _ (map_in S (fun i => S.sq p i + a * S.sq o i) _)
theorem can_canL {l : List Int} (h : S.Can l) : S.canL l = l := (can_can S l).eq h (sq_can S l)
/-- The length of a canonical list is bounded by where its elements end. -/
theorem Can.len {S : FS} {l : List Int} (h : S.Can l) (n : Nat) (hz : ∀ i, n < i → S.sq l i = 0) : l.length ≤ n + 1 := by
  rcases Nat.lt_or_ge (n + 1) l.length with hlt | hge
  · exfalso
    have h1 := h.2 (by intro e; rw [e] at hlt; simp at hlt)
    rw [← h.1, hz _ (by omega)] at h1
    exact h1 rfl
  · exact hge
end FS

end Go.Proofs.Ytdbhhfhfjlpepaa

/- Berlekamp and Massey's algorithm finds a shortest register. No program in it. -/
namespace Go.Proofs.Ytdbhhfhfjlpepaa

namespace FS
variable (S : FS)
/-- The inverse of what is not 0. -/
def inv (b : El S) : El S := El.pow b (S.q - 2)
/-- The field's law on inverses. -/
def Inverts : Prop := ∀ b : El S, b ≠ 0 → S.inv b * b = 1
end FS
/-- What the algorithm holds. -/
structure BM where
  c : List Int
  l : Nat
  old : List Int
  og : Int
  since : Nat
namespace BM
variable (S : FS)
def step (s : List Int) (st : BM) (k : Nat) : BM :=
  if El.cv (S.sq st.c) (S.sq s) k = 0 then ⟨st.c, st.l, st.old, st.og, st.since + 1⟩
  else if 2 * st.l ≤ k then ⟨S.combL st.c (-1) (S.shL (El.cv (S.sq st.c) (S.sq s) k * S.inv (S.el st.og)) st.since st.old), k + 1 - st.l, st.c, (El.cv (S.sq st.c) (S.sq s) k).1, 1⟩
  else ⟨S.combL st.c (-1) (S.shL (El.cv (S.sq st.c) (S.sq s) k * S.inv (S.el st.og)) st.since st.old), st.l, st.old, st.og, st.since + 1⟩
def run (s : List Int) : Nat → BM
  | 0 => ⟨[1], 0, [1], 1, 1⟩
  | k + 1 => step S s (run s k) k

/-- What holds of it behind n entries; K is one more than where the older register failed. -/
structure Ok (s : Nat → El S) (n : Nat) (st : BM) (K ol : Nat) : Prop where
  gen : El.Gen (S.sq st.c) st.l s n
  can : S.Can st.c
  ln : st.l ≤ n
  min : ∀ c' l', El.Gen c' l' s n → st.l ≤ l'
  og : S.el st.og ≠ 0
  ogi : (S.el st.og).1 = st.og
  oldlen : st.old.length ≤ n + 1
  since : 1 ≤ st.since
  hK : K + st.since = n + 1
  hl : st.l + ol = K
  oldz : ∀ i, ol < i → S.sq st.old i = 0
  oldg : ∀ j, ol ≤ j → j + 1 < K → El.cv (S.sq st.old) s j = 0
  oldk : 0 < K → El.cv (S.sq st.old) s (K - 1) = S.el st.og

theorem ok_zero (s : Nat → El S) : Ok S s 0 ⟨[1], 0, [1], 1, 1⟩ 0 0 where
  gen := ⟨⟨S.el_1, fun i hi => S.sq_far _ _ (by simp; omega)⟩, fun j _ h => by omega⟩
  can := ⟨fun i => by
    cases i with
    | zero => show (S.el 1).1 = 1; rw [S.el_1]; rfl
    | succ i => rw [S.sq_far _ _ (by simp)]; rfl, fun _ => by decide⟩
  ln := Nat.le_refl _
  min := fun _ _ _ => Nat.zero_le _
  og := by rw [S.el_1]; exact El.one_ne_zero
  ogi := by rw [S.el_1]; rfl
  oldlen := Nat.le_refl _
  since := Nat.le_refl _
  hK := rfl
  hl := rfl
  oldz := fun i hi => S.sq_far _ _ (by simp; omega)
  oldg := fun j _ h => by omega
  oldk := fun h => by omega

theorem Ok.clen {S : FS} {s : Nat → El S} {n : Nat} {st : BM} {K ol : Nat} (h : Ok S s n st K ol) : st.c.length ≤ st.l + 1 := h.can.len st.l fun i hi => h.gen.1.2 i hi

theorem Ok.step {S : FS} (hI : S.Inverts) {s : List Int} {n : Nat} {st : BM} {K ol : Nat} (h : Ok S (S.sq s) n st K ol) : ∃ K' ol', Ok S (S.sq s) (n + 1) (BM.step S s st n) K' ol' := by
  unfold BM.step
  by_cases hd : El.cv (S.sq st.c) (S.sq s) n = 0
  · rw [if_pos hd]
    exact ⟨K, ol, { gen := h.gen.next fun _ => hd, can := h.can, ln := Nat.le_succ_of_le h.ln, min := fun c' l' h' => h.min c' l' (h'.less (Nat.le_succ n)), og := h.og, ogi := h.ogi, oldlen := Nat.le_succ_of_le h.oldlen, since := Nat.le_succ_of_le h.since, hK := by rw [← h.hK]; rfl, hl := h.hl, oldz := h.oldz, oldg := h.oldg, oldk := h.oldk }⟩
  · rw [if_neg hd]
    obtain ⟨a, ha⟩ : ∃ a, a = El.cv (S.sq st.c) (S.sq s) n * S.inv (S.el st.og) := ⟨_, rfl⟩
    have hag : a * S.el st.og = El.cv (S.sq st.c) (S.sq s) n := by rw [ha, El.mul_assoc, hI _ h.og, El.mul_one]
    have e1 : S.sq (S.combL st.c (-1) (S.shL a st.since st.old)) = fun i => S.sq st.c i + -1 * El.up st.since (fun i => a * S.sq st.old i) i := by rw [S.sq_comb, S.sq_sh]
    have e2 : ∀ j, El.cv (S.sq (S.combL st.c (-1) (S.shL a st.since st.old))) (S.sq s) j = El.cv (S.sq st.c) (S.sq s) j + -1 * (if st.since ≤ j then a * El.cv (S.sq st.old) (S.sq s) (j - st.since) else 0) := by
      intro j
      rw [e1, El.cv_add, El.cv_mul, El.cv_up, El.cv_mul]
    have hs := h.since
    have hKn := h.hK
    have hlK := h.hl
    have hln := h.ln
    -- the new register, for whatever length is at least l and n + 1 - l
    have hgen : ∀ l', st.l ≤ l' → n + 1 - st.l ≤ l' → El.Gen (S.sq (S.combL st.c (-1) (S.shL a st.since st.old))) l' (S.sq s) (n + 1) := by
      intro l' h1 h2
      refine ⟨⟨?_, fun i hi => ?_⟩, fun j hj1 hj2 => ?_⟩
      · rw [e1]
        show S.sq st.c 0 + -1 * El.up st.since (fun i => a * S.sq st.old i) 0 = 1
        unfold El.up
        rw [if_neg (by omega), El.mul_zero, El.add_zero]; exact h.gen.1.1
      · rw [e1]
        show S.sq st.c i + -1 * El.up st.since (fun i => a * S.sq st.old i) i = 0
        unfold El.up
        rw [h.gen.1.2 i (by omega)]
        split
        · show 0 + -1 * (a * S.sq st.old (i - st.since)) = 0
          rw [h.oldz (i - st.since) (by omega), El.mul_zero, El.mul_zero, El.add_zero]
        · rw [El.mul_zero, El.add_zero]
      · rw [e2]
        by_cases hK0 : K = 0
        · omega
        rw [if_pos (by omega)]
        by_cases hjn : j = n
        · subst hjn
          rw [show j - st.since = K - 1 by omega, h.oldk (by omega), hag, El.neg_mul, El.one_mul, El.add_neg]
        · rw [h.gen.2 j (by omega) (by omega), h.oldg (j - st.since) (by omega) (by omega), El.mul_zero, El.mul_zero, El.add_zero]
    rw [← ha]
    by_cases h2 : 2 * st.l ≤ n
    · rw [if_pos h2]
      have hg := hgen (n + 1 - st.l) (by omega) (Nat.le_refl _)
      have hmin : ∀ c' l', El.Gen c' l' (S.sq s) (n + 1) → n + 1 - st.l ≤ l' := fun c' l' h' => by
        have := El.massey h.gen hd h'
        omega
      have hlen : st.c.length ≤ n + 1 + 1 := by have := h.clen; omega
      have hsum : n + 1 - st.l + st.l = n + 1 := by omega
      exact ⟨n + 1, st.l, { gen := hg, can := S.can_comb _ _ _, ln := Nat.sub_le _ _, min := fun c' l' h' => hmin c' l' h', og := by rw [S.el_of]; exact hd, ogi := by rw [S.el_of], oldlen := hlen, since := Nat.le_refl _, hK := rfl, hl := hsum, oldz := h.gen.1.2, oldg := fun j h1 h2 => h.gen.2 j h1 (by omega), oldk := fun _ => by rw [S.el_of]; rfl }⟩
    · rw [if_neg h2]
      have hg := hgen st.l (Nat.le_refl _) (by omega)
      exact ⟨K, ol, { gen := hg, can := S.can_comb _ _ _, ln := Nat.le_succ_of_le h.ln, min := fun c' l' h' => h.min c' l' (h'.less (Nat.le_succ n)), og := h.og, ogi := h.ogi, oldlen := Nat.le_succ_of_le h.oldlen, since := Nat.le_succ_of_le h.since, hK := by rw [← h.hK]; rfl, hl := h.hl, oldz := h.oldz, oldg := h.oldg, oldk := h.oldk }⟩
theorem run_ok {S : FS} (hI : S.Inverts) (s : List Int) : ∀ n, ∃ K ol, Ok S (S.sq s) n (run S s n) K ol
  | 0 => ⟨0, 0, ok_zero S _⟩
  | n + 1 => by obtain ⟨K, ol, h⟩ := run_ok hI s n; exact h.step hI
end BM

end Go.Proofs.Ytdbhhfhfjlpepaa

/- Registers as lists say them. No program in it. -/
namespace Go.Proofs.Ytdbhhfhfjlpepaa
namespace El
variable {S : FS}
theorem sm_head (f : Nat → El S) (n : Nat) : sm f (n + 1) = f 0 + sm (fun i => f (i + 1)) n := by
  induction n with
  | zero => rw [sm, sm, sm, zero_add, add_zero]
  | succ n ih => rw [sm, ih, sm, add_assoc]
end El
namespace FS
variable (S : FS)
/-- The list c is a connection polynomial of length L. -/
def IsReg (c : List Int) (L : Int) : Prop := ∃ l : Nat, L = l ∧ El.Reg (S.sq c) l
/-- It generates the list s. -/
def IsGen (c : List Int) (L : Int) (s : List Int) : Prop := ∃ l : Nat, L = l ∧ El.Gen (S.sq c) l (S.sq s) s.length
theorem can_len_iff (c : List Int) (l : Nat) : (S.canL c).length ≤ l + 1 ↔ ∀ i, l < i → S.sq c i = 0 := by
  constructor
  · intro h i hi
    rw [← S.sq_can c]
    exact S.sq_far _ _ (by omega)
  · intro h
    exact (S.can_can c).len l fun i hi => by rw [S.sq_can]; exact h i hi
theorem isReg_ref (c : List Int) (L : Int) : S.IsReg c L ↔ (0 ≤ L ∧ (S.sq c 0).1 = 1 ∧ ((S.canL c).length : Int) - 1 ≤ L) := by
  constructor
  · rintro ⟨l, rfl, h1, h2⟩
    refine ⟨by omega, by rw [h1]; rfl, ?_⟩
    have := (S.can_len_iff c l).2 h2
    omega
  · rintro ⟨h0, h1, h2⟩
    obtain ⟨l, rfl⟩ := Int.eq_ofNat_of_zero_le h0
    exact ⟨l, rfl, El.eq (by rw [h1]; rfl), (S.can_len_iff c l).1 (by omega)⟩
theorem isReg_own (c : List Int) (L : Int) : S.IsReg c L ↔ (0 ≤ L ∧ 0 < (S.canL c).length ∧ (S.canL c).getD 0 0 = 1 ∧ ((S.canL c).length : Int) - 1 ≤ L) := by
  rw [isReg_ref]
  have h0 : (S.sq c 0).1 = (S.canL c).getD 0 0 := by rw [← S.sq_can c]; exact (S.can_can c).1 0
  rw [h0]
  constructor
  · rintro ⟨h1, h2, h3⟩
    refine ⟨h1, ?_, h2, h3⟩
    rcases Nat.eq_zero_or_pos (S.canL c).length with h | h
    · rw [List.eq_nil_of_length_eq_zero h] at h2; simp at h2
    · exact h
  · rintro ⟨h1, _, h2, h3⟩; exact ⟨h1, h2, h3⟩
/-- The entries of the recurrence, n of them. -/
def recu (c first : List Int) : Nat → List Int
  | 0 => []
  | n + 1 => recu c first n ++ [if n < first.length then (S.sq first n).1 else (-(El.sm (fun i => S.sq c (i + 1) * S.sq (recu c first n) (n - 1 - i)) first.length)).1]
theorem recu_length (c first : List Int) (n : Nat) : (S.recu c first n).length = n := by
  induction n with
  | zero => rfl
  | succ n ih => rw [recu, List.length_append, ih]; rfl
theorem sq_snoc (l : List Int) (a : El S) (i : Nat) : S.sq (l ++ [a.1]) i = if i = l.length then a else S.sq l i := by
  unfold sq
  by_cases h : i < l.length
  · rw [if_neg (by omega), List.getD_eq_getElem?_getD, List.getElem?_append_left h, ← List.getD_eq_getElem?_getD]
  · by_cases h2 : i = l.length
    · subst h2; simp [List.getD_eq_getElem?_getD, S.el_of]
    · rw [if_neg h2, List.getD_eq_getElem?_getD, List.getElem?_eq_none (by simp; omega), List.getD_eq_getElem?_getD, List.getElem?_eq_none (by omega)]
theorem recu_at (c first : List Int) (n m i : Nat) (h : i < n) (hm : n ≤ m) : S.sq (S.recu c first m) i = S.sq (S.recu c first n) i := by
  induction m with
  | zero => omega
  | succ m ih =>
    by_cases e : n = m + 1
    · subst e; rfl
    · have e2 : ∃ a : El S, S.recu c first (m + 1) = S.recu c first m ++ [a.1] := by
        rw [recu]; split
        · exact ⟨_, rfl⟩
        · exact ⟨_, rfl⟩
      obtain ⟨a, ea⟩ := e2
      rw [ea, sq_snoc, if_neg (by rw [recu_length]; omega), ih (by omega)]
theorem recu_first (c first : List Int) (n i : Nat) (h : i < n) (hf : i < first.length) : S.sq (S.recu c first n) i = S.sq first i := by
  rw [S.recu_at c first (i + 1) n i (by omega) (by omega), recu, if_pos hf, sq_snoc, if_pos (by rw [recu_length])]
theorem recu_next (c first : List Int) (n i : Nat) (h : i < n) (hf : first.length ≤ i) : S.sq (S.recu c first n) i = -(El.sm (fun j => S.sq c (j + 1) * S.sq (S.recu c first i) (i - 1 - j)) first.length) := by
  rw [S.recu_at c first (i + 1) n i (by omega) (by omega), recu, if_neg (by omega), sq_snoc, if_pos (by rw [recu_length])]
/-- The sum behind entry j, its own entry apart. -/
theorem cv_split (c : List Int) (l : Nat) (hr : El.Reg (S.sq c) l) (s : Nat → El S) (j : Nat) (hj : l ≤ j) : El.cv (S.sq c) s j = s j + El.sm (fun i => S.sq c (i + 1) * s (j - 1 - i)) l := by
  rw [El.cv_le _ _ _ (l + 1) fun i _ hi => hr.2 i (by omega), El.sm_head, if_pos (Nat.zero_le _), hr.1, El.one_mul, Nat.sub_zero]
  congr 1
  refine El.sm_congr _ fun i hi => ?_
  rw [if_pos (by omega), show j - (i + 1) = j - 1 - i by omega]
theorem recu_gen (c first : List Int) (n : Nat) (hr : El.Reg (S.sq c) first.length) : El.Gen (S.sq c) first.length (S.sq (S.recu c first n)) n := by
  refine ⟨hr, fun j h1 h2 => ?_⟩
  rw [S.cv_split c _ hr _ j h1, S.recu_next c first n j h2 h1]
  have e : El.sm (fun i => S.sq c (i + 1) * S.sq (S.recu c first n) (j - 1 - i)) first.length = El.sm (fun i => S.sq c (i + 1) * S.sq (S.recu c first j) (j - 1 - i)) first.length := by
    refine El.sm_congr _ fun i hi => ?_
    rw [S.recu_at c first j n (j - 1 - i) (by omega) (by omega)]
  rw [e, El.neg_add]
end FS

end Go.Proofs.Ytdbhhfhfjlpepaa
