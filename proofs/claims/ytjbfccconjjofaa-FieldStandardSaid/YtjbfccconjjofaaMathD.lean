/- An irreducible polynomial leaves no zero divisors, and a polynomial without them is irreducible. No program in it. -/
import Derived.Test.YtjbfccconjjofaaMathC
namespace Go.Proofs.Ytjbfccconjjofaa

theorem Cg.smul0 {p : Int} (k : Int) (u : Nat → Int) : Cg p (Go.Proofs.Ytjbfccconjjofaa.vs (p * k) u) v0 := fun j => ⟨k * u j, by show p * k * u j = 0 + _; rw [Int.mul_assoc]; omega⟩
theorem act_coef0 (p : Int) (m : Nat) (F : Nat → Int) (d : List Int) (v : Nat → Int) (h : ∀ j, ∃ k, d.getD j 0 = p * k) : Cg p (act m F d v) v0 := by
  induction d with
  | nil => exact Cg.refl _ _
  | cons x xs ih =>
    obtain ⟨k, e⟩ := h 0
    have e : x = p * k := by simpa using e
    have h2 := ih fun j => by have := h (j + 1); simpa using this
    have h3 := (Cg.smul0 (p := p) k v).va (Cg.shf m F h2)
    rw [shf_v0, va_zero, ← e] at h3
    exact h3
theorem act_coef (p : Int) (m : Nat) (F : Nat → Int) (c d : List Int) (v : Nat → Int) (h : ∀ j, ∃ k, c.getD j 0 = d.getD j 0 + p * k) : Cg p (act m F c v) (act m F d v) := by
  induction c generalizing d with
  | nil =>
    refine (act_coef0 p m F d v fun j => ?_).symm
    obtain ⟨k, e⟩ := h j
    have e2 : (0 : Int) = d.getD j 0 + p * k := by rw [← e]; rfl
    exact ⟨-k, by rw [Int.mul_neg]; omega⟩
  | cons x xs ih =>
    cases d with
    | nil =>
      refine act_coef0 p m F (x :: xs) v fun j => ?_
      obtain ⟨k, e⟩ := h j
      exact ⟨k, by simpa using e⟩
    | cons y ys =>
      obtain ⟨k, e⟩ := h 0
      have e : x = y + p * k := by simpa using e
      have h2 := ih ys fun j => by have := h (j + 1); simpa using this
      exact (Cg.vsc k e v).va (Cg.shf m F h2)

theorem remN_far (p : Int) (lw : List Int) (n : Nat) (R : List Int) (j : Nat) (h : lw.length + n ≤ j) : (remN p lw n R).getD j 0 = R.getD j 0 := by
  induction n generalizing R with
  | zero => rfl
  | succ n ih =>
    rw [remN, ih _ (by omega)]
    have h1 : lw.length + n ≠ j := by omega
    have h2 := addK_far p lw n (p - R.getD (lw.length + n) 0) lw.length R j (by omega)
    rw [← updK_eq] at h2
    rw [← h2]
    simp [List.getD_eq_getElem?_getD, h1]
theorem remN_zero (p : Int) (lw : List Int) (n : Nat) (R : List Int) (hR : lw.length + n ≤ R.length) (j : Nat) (h1 : lw.length ≤ j) (h2 : j < lw.length + n) : (remN p lw n R).getD j 0 = 0 := by
  induction n generalizing R with
  | zero => omega
  | succ n ih =>
    rw [remN]
    by_cases hj : j = lw.length + n
    · subst hj
      rw [remN_far _ _ _ _ _ (Nat.le_refl _)]
      simp [List.getD_eq_getElem?_getD, updK_length, show lw.length + n < R.length by omega]
    · exact ih _ (by rw [List.length_set, updK_length]; omega) (by omega)
theorem remN_dig (p : Int) (hp : 2 ≤ p) (lw : List Int) (n : Nat) (R : List Int) (h : Dig p R) : Dig p (remN p lw n R) := by
  induction n generalizing R with
  | zero => exact h
  | succ n ih => exact ih _ ((updK_dig p (by omega) _ _ _ _ _ h).set _ _ (by omega) (by omega))
/-- Division: what is divided is a multiple of the divisor, and the remainder. -/
theorem rem_id (p : Int) (m : Nat) (F : Nat → Int) (lw : List Int) (n : Nat) : ∀ R : List Int, lw.length + n ≤ R.length →
    ∃ Q : List Int, Q.length = n ∧ (∀ k, n = k + 1 → Q.getD k 0 = R.getD (lw.length + k) 0) ∧ ∀ v, Cg p (act m F R v) (va (act m F Q (act m F (lw ++ [1]) v)) (act m F (remN p lw n R) v)) := by
  induction n with
  | zero =>
    intro R _
    exact ⟨[], rfl, fun k h => by omega, fun v => by simp only [act]; rw [zero_va]; exact Cg.refl _ _⟩
  | succ n ih =>
    intro R hR
    obtain ⟨Q, hQ, _, hv⟩ := ih ((updK p lw n (R.getD (lw.length + n) 0) lw.length R).set (lw.length + n) 0) (by rw [List.length_set, updK_length]; omega)
    refine ⟨Q ++ [R.getD (lw.length + n) 0], by simp [hQ], fun k hk => ?_, fun v => ?_⟩
    · obtain rfl : k = n := by omega
      simp [List.getD_eq_getElem?_getD, ← hQ]
    · have h1 := hv v
      rw [act_set _ _ _ _ _ _ (by rw [updK_length]; omega)] at h1
      have hf := addK_far p lw n (p - R.getD (lw.length + n) 0) lw.length R (lw.length + n) (by omega)
      have hk := addK_cg p m F lw R n (p - R.getD (lw.length + n) 0) lw.length v (by omega) (Nat.le_refl _)
      rw [← updK_eq] at hf hk
      rw [hf] at h1
      rw [List.take_length] at hk
      obtain ⟨c, hc⟩ : ∃ c, c = R.getD (lw.length + n) 0 := ⟨_, rfl⟩
      rw [← hc] at h1 hk ⊢
      rw [act_append, hQ]
      have e1 : act m F [c] (act m F (lw ++ [1]) v) = vs c (act m F (lw ++ [1]) v) := by simp only [act]; rw [shf_v0, va_zero]
      rw [e1]
      -- act R ≡ act R' + c shN n (act (lw ++ [1]))
      have e2 : act m F (lw ++ [1]) v = va (act m F lw v) (shN m F lw.length v) := by
        rw [act_append]
        have : act m F [1] v = v := by simp only [act]; rw [shf_v0, va_zero, one_vs]
        rw [this]
      intro j
      obtain ⟨k1, q1⟩ := h1 j
      obtain ⟨k2, q2⟩ := hk j
      rw [remN, ← hc]
      rw [e2] at q1 ⊢
      rw [shN_vs, shN_va, ← shN_add, Nat.add_comm n lw.length]
      simp only [va, vs] at q1 q2 ⊢
      rw [Int.sub_mul] at q2
      rw [Int.sub_mul, Int.zero_mul] at q1
      rw [Int.mul_add]
      refine ⟨k1 - k2 - shN m F n (act m F lw v) j, ?_⟩
      rw [Int.mul_sub, Int.mul_sub]
      omega
theorem inv_mod (p : Int) (hp : Prm p) : ∀ (n : Nat) (a : Int), a.toNat = n → 0 < a → a < p → ∃ u k, u * a = 1 + p * k := by
  intro n
  induction n using Nat.strongRecOn with
  | _ n ih =>
    intro a hn h0 h1
    by_cases ha : a = 1
    · exact ⟨1, 0, by rw [ha]; omega⟩
    · have hr := hp.2 a (by omega) h1
      have hr0 := Int.emod_nonneg p (show a ≠ 0 by omega)
      have hr1 := Int.emod_lt_of_pos p h0
      obtain ⟨u, k, e⟩ := ih (p % a).toNat (by omega) (p % a) rfl (by omega) (by omega)
      have e2 := Int.mul_ediv_add_emod p a
      refine ⟨-(u * (p / a)), k - u, ?_⟩
      have e3 : p % a = p - a * (p / a) := by omega
      rw [e3, Int.mul_sub] at e
      rw [Int.neg_mul, Int.mul_sub, Int.mul_assoc, Int.mul_comm (p / a) a, Int.mul_comm p u]
      omega
theorem inv_mod' (p : Int) (hp : Prm p) (a : Int) (h : ¬ ∃ k, a = p * k) : ∃ u k, u * a = 1 + p * k := by
  have hp0 := hp.1
  have h1 := Int.emod_nonneg a (show p ≠ 0 by omega)
  have h2 := Int.emod_lt_of_pos a (show 0 < p by omega)
  have h3 := Int.mul_ediv_add_emod a p
  have h4 : a % p ≠ 0 := fun e => h ⟨a / p, by omega⟩
  obtain ⟨u, k, e⟩ := inv_mod p hp _ (a % p) rfl (by omega) h2
  refine ⟨u, k + u * (a / p), ?_⟩
  have e3 : a = p * (a / p) + a % p := by omega
  rw [e3, Int.mul_add, e, Int.mul_add, ← e3, Int.mul_left_comm]; omega

/-- Not all entries are 0 modulo p. -/
def Nz (p : Int) (l : List Int) : Prop := ¬ ∀ j, ∃ k, l.getD j 0 = p * k
/-- A vector that a polynomial of a low degree brings to 0 is brought to 0 by a divisor of the field's polynomial. -/
theorem divisor_of {P : Int} (hP : Prm P) {m : Nat} {low : List Int} (hm : 1 ≤ m) (hl : low.length = m) (hld0 : Dig P low) (lb : List Int) (hlb : lb.length ≤ m) (hnz : ¬ Cg P (vecL lb) v0) :
    ∀ (n : Nat) (l : List Int), l.length = n → n ≤ m → Nz P l → Cg P (act m (vecL low) l (vecL lb)) v0 →
      ∃ lw : List Int, Dig P lw ∧ 1 ≤ lw.length ∧ lw.length + 1 ≤ n ∧ DividesL P lw low := by
  have hp := hP.1
  intro n
  induction n using Nat.strongRecOn with
  | _ n ih =>
    intro l hn hnm hz ha
    rcases List.eq_nil_or_concat l with rfl | ⟨l', c, rfl⟩
    · exact absurd (fun j => ⟨0, by simp⟩) hz
    · rw [List.concat_eq_append] at hn hz ha
      rw [List.length_append, List.length_singleton] at hn
      by_cases hc : ∃ k, c = P * k
      · obtain ⟨k, rfl⟩ := hc
        have hz' : Nz P l' := fun h => hz fun j => by
          by_cases hj : j < l'.length
          · obtain ⟨q, e⟩ := h j
            exact ⟨q, by simpa [List.getD_eq_getElem?_getD, List.getElem?_append_left hj] using e⟩
          · by_cases hj2 : j = l'.length
            · subst hj2; exact ⟨k, by simp [List.getD_eq_getElem?_getD]⟩
            · exact ⟨0, by rw [List.getD_eq_getElem?_getD, List.getElem?_eq_none (by simp; omega)]; simp⟩
        have ha' : Cg P (act m (vecL low) l' (vecL lb)) v0 := by
          refine Cg.trans (Cg.symm ?_) ha
          refine act_coef P m _ _ _ _ fun j => ?_
          by_cases hj : j < l'.length
          · exact ⟨0, by simp [List.getD_eq_getElem?_getD, List.getElem?_append_left hj]⟩
          · by_cases hj2 : j = l'.length
            · subst hj2; exact ⟨k, by simp [List.getD_eq_getElem?_getD]⟩
            · exact ⟨0, by rw [List.getD_eq_getElem?_getD, List.getD_eq_getElem?_getD, List.getElem?_eq_none (by simp; omega), List.getElem?_eq_none (by omega)]; simp⟩
        obtain ⟨lw, h1, h2, h3, h4⟩ := ih l'.length (by omega) l' rfl (by omega) hz' ha'
        exact ⟨lw, h1, h2, by omega, h4⟩
      · obtain ⟨u, k, hu⟩ := inv_mod' P hP c hc
        obtain ⟨lw, hlw⟩ : ∃ lw, lw = l'.map fun x => (u * x) % P := ⟨_, rfl⟩
        have hll : lw.length = l'.length := by rw [hlw]; simp
        have hld : Dig P lw := by
          intro j hj
          rw [hll] at hj
          rw [hlw]
          simp only [List.getD_eq_getElem?_getD, List.getElem?_map, List.getElem?_eq_getElem hj, Option.map_some, Option.getD_some]
          exact ⟨Int.emod_nonneg _ (by omega), Int.emod_lt_of_pos _ (by omega)⟩
        have ha' : Cg P (act m (vecL low) (lw ++ [1]) (vecL lb)) v0 := by
          have h1 := Cg.vs u ha
          rw [vs_zero, ← act_scale] at h1
          refine Cg.trans (act_coef P m _ _ _ _ fun j => ?_) h1
          by_cases hj : j < l'.length
          · obtain ⟨w, e⟩ := emod_wit P (u * l'[j])
            refine ⟨w, ?_⟩
            rw [hlw]
            simp only [List.getD_eq_getElem?_getD, List.map_append]
            rw [List.getElem?_append_left (by simpa using hj), List.getElem?_append_left (by simpa using hj)]
            simp only [List.getElem?_map, List.getElem?_eq_getElem hj, Option.map_some, Option.getD_some]
            exact e
          · by_cases hj2 : j = l'.length
            · subst hj2
              refine ⟨-k, ?_⟩
              have e1 : (lw ++ [1]).getD l'.length 0 = 1 := by rw [← hll]; simp [List.getD_eq_getElem?_getD]
              have e2 : ((l' ++ [c]).map (u * ·)).getD l'.length 0 = u * c := by simp [List.getD_eq_getElem?_getD]
              rw [e1, e2, hu, Int.mul_neg]; omega
            · exact ⟨0, by rw [List.getD_eq_getElem?_getD, List.getD_eq_getElem?_getD, List.getElem?_eq_none (by simp [hll]; omega), List.getElem?_eq_none (by simp; omega)]; simp⟩
        have hd1 : 1 ≤ lw.length := by
          by_cases h0 : lw.length = 0
          · have : lw = [] := List.eq_nil_of_length_eq_zero h0
            rw [this, List.nil_append] at ha'
            have e1 : act m (vecL low) [1] (vecL lb) = vecL lb := by simp only [act]; rw [shf_v0, va_zero, one_vs]
            rw [e1] at ha'
            exact absurd ha' hnz
          · omega
        by_cases hdv : DividesL P lw low
        · exact ⟨lw, hld, hd1, by omega, hdv⟩
        · obtain ⟨Q, hQ, _, hv⟩ := rem_id P m (vecL low) lw (low.length + 1 - lw.length) (low ++ [1]) (by simp; omega)
          have h1 := hv (vecL lb)
          rw [act_poly m low hm hl lb hlb] at h1
          have h2 : Cg P (act m (vecL low) (remOf P lw low) (vecL lb)) v0 := by
            have h3 := Cg.act m (vecL low) Q ha'
            rw [act_v0] at h3
            have h4 := h1.trans (h3.va (Cg.refl _ _))
            rw [zero_va] at h4
            exact h4.symm
          have hrl : (remOf P lw low).length = low.length + 1 := by unfold remOf; rw [remN_length]; simp
          have hfar : ∀ j, lw.length ≤ j → (remOf P lw low).getD j 0 = 0 := by
            intro j hj
            by_cases hj2 : j < lw.length + (low.length + 1 - lw.length)
            · exact remN_zero P lw _ _ (by simp; omega) j hj hj2
            · rw [List.getD_eq_getElem?_getD, List.getElem?_eq_none (by omega)]; rfl
          have heq : ∀ j, ((remOf P lw low).take lw.length).getD j 0 = (remOf P lw low).getD j 0 := by
            intro j
            by_cases hj : j < lw.length
            · simp [List.getD_eq_getElem?_getD, hj]
            · rw [hfar j (by omega), List.getD_eq_getElem?_getD, List.getElem?_eq_none (by simp; omega)]; rfl
          have hrd := remN_dig P hp lw (low.length + 1 - lw.length) (low ++ [1]) (hld0.append (Dig.one hp))
          obtain ⟨lw2, g1, g2, g3, g4⟩ := ih lw.length (by omega) ((remOf P lw low).take lw.length) (by rw [List.length_take, hrl]; omega) (by omega) (fun h => hdv fun j => by
            obtain ⟨k, e⟩ := h j
            rw [heq] at e
            by_cases hj : j < (remOf P lw low).length
            · have hb := hrd j hj
              unfold remOf at e ⊢
              rw [e] at hb ⊢
              have hk : k = 0 := by
                rcases Int.lt_trichotomy k 0 with hk | hk | hk
                · have : P * k ≤ P * (-1) := Int.mul_le_mul_of_nonneg_left (by omega) (by omega)
                  omega
                · exact hk
                · have : P * 1 ≤ P * k := Int.mul_le_mul_of_nonneg_left (by omega) (by omega)
                  omega
              rw [hk]; omega
            · rw [List.getD_eq_getElem?_getD, List.getElem?_eq_none (by omega)]; rfl) ((act_coef P m _ _ _ _ fun j => ⟨0, by rw [heq]; omega⟩).trans h2)
          exact ⟨lw2, g1, g2, by omega, g4⟩

end Go.Proofs.Ytjbfccconjjofaa
