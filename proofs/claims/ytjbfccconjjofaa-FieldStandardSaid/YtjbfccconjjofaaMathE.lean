/- Irreducible polynomials are those without zero divisors. No program in it. -/
import Derived.Test.YtjbfccconjjofaaMathD
namespace Go.Proofs.Ytjbfccconjjofaa

theorem FS.lowDig (S : FS) : Dig S.P S.low := by
  have hp := S.shp.p2
  unfold FS.low lowOf
  split
  · exact Dig.cons (by omega) (by omega) (Dig.nil _)
  · exact S.shp.dig
theorem act_zeros (p : Int) (m : Nat) (F : Nat → Int) (r : List Int) (v : Nat → Int) (h : ∀ j, r.getD j 0 = 0) : Cg p (act m F r v) v0 := act_coef0 p m F r v fun j => ⟨0, by rw [h]; omega⟩
theorem not_mul_one {P : Int} (hP : 2 ≤ P) : ¬ ∃ k, (1 : Int) = P * k := by
  rintro ⟨k, e⟩
  rcases Int.lt_trichotomy k 0 with hk | hk | hk
  · have : P * k ≤ P * (-1) := Int.mul_le_mul_of_nonneg_left (by omega) (by omega)
    omega
  · rw [hk] at e; omega
  · have : P * 1 ≤ P * k := Int.mul_le_mul_of_nonneg_left (by omega) (by omega)
    omega
/-- A divisor has a cofactor; their product brings 1 to 0. -/
theorem cofactor {S : FS} {lw : List Int} (_h1 : 1 ≤ lw.length) (h2 : lw.length + 1 ≤ S.M) (hd : DividesL S.P lw S.low) :
    ∃ Q : List Int, Q.length = S.M + 1 - lw.length ∧ Q.getD (S.M - lw.length) 0 = 1 ∧ Cg S.P (act S.M (vecL S.low) Q (vecL (lw ++ [1]))) v0 := by
  obtain ⟨Q, hQ, hlast, hv⟩ := rem_id S.P S.M (vecL S.low) lw (S.low.length + 1 - lw.length) (S.low ++ [1]) (by simp; rw [S.lowLen]; omega)
  rw [S.lowLen] at hQ
  refine ⟨Q, hQ, ?_, ?_⟩
  · rw [hlast (S.M - lw.length) (by rw [S.lowLen]; omega), show lw.length + (S.M - lw.length) = S.low.length from by rw [S.lowLen]; omega]
    simp [List.getD_eq_getElem?_getD]
  · have h3 := hv e0
    rw [act_poly_e0 S.M S.low S.shp.m1 S.lowLen, act_e0 _ _ (lw ++ [1]) (by simp; omega)] at h3
    have h4 := act_zeros S.P S.M (vecL S.low) (remOf S.P lw S.low) e0 hd
    have h5 := h3.trans ((Cg.refl _ _).va h4)
    rw [va_zero] at h5
    exact h5.symm
theorem irr_dom (S : FS) (h : S.M ≠ 1 → IrrL S.P S.mod) : El.Dom S := by
  intro a b hab
  by_cases ha : a = 0
  · exact .inl ha
  · by_cases hb : b = 0
    · exact .inr hb
    · exfalso
      have hp := S.shp.p2
      have key : ∀ lb l : List Int, lb.length ≤ S.M → l.length ≤ S.M → ¬ Cg S.P (vecL lb) v0 → Nz S.P l → Cg S.P (act S.M (vecL S.low) l (vecL lb)) v0 →
          ∃ lw : List Int, Dig S.P lw ∧ 1 ≤ lw.length ∧ lw.length + 1 ≤ l.length ∧ DividesL S.P lw S.low := fun lb l h1 h2 h3 h4 h5 =>
        divisor_of S.shp.prm S.shp.m1 S.lowLen S.lowDig lb h1 h3 l.length l rfl h2 h4 h5
      have hav : ¬ Cg S.P a.v v0 := fun h => ha (El.ext (by rw [El.v_zero]; exact h))
      have hbn : Nz S.P (digs S.M b.1 S.P) := fun h => hb (El.ext (by
        rw [El.v_zero]
        intro j
        obtain ⟨k, e⟩ := h j
        exact ⟨k, by show (digs S.M b.1 S.P).getD j 0 = 0 + _; omega⟩))
      have hann : Cg S.P (act S.M (vecL S.low) (digs S.M b.1 S.P) a.v) v0 := by
        have := El.v_mul a b
        rw [hab, El.v_zero] at this
        exact this.symm
      obtain ⟨lw, hd, h1, h2, hdv⟩ := key (digs S.M a.1 S.P) (digs S.M b.1 S.P) (by rw [digs_length]; exact Nat.le_refl _) (by rw [digs_length]; exact Nat.le_refl _) hav hbn hann
      rw [digs_length] at h2
      have hM : S.M ≠ 1 := by omega
      have hlm : S.low = S.mod := by unfold FS.low lowOf; rw [if_neg hM]
      have hml : S.mod.length = S.M := S.shp.len hM
      have fin : ∀ lw : List Int, Dig S.P lw → 1 ≤ lw.length → 2 * lw.length ≤ S.M → DividesL S.P lw S.low → False := by
        intro lw hd h1 h2 hdv
        have hb := valL_bd S.P hp lw hd
        refine h hM lw.length h1 (by rw [hml]; exact h2) (valL S.P lw) hb.1 hb.2 ?_
        rw [digs_val S.P hp lw hd, ← hlm]; exact hdv
      by_cases h2d : 2 * lw.length ≤ S.M
      · exact fin lw hd h1 h2d hdv
      · obtain ⟨Q, hQ, hQ1, hQa⟩ := cofactor h1 h2 hdv
        obtain ⟨lw2, g1, g2, g3, g4⟩ := key (lw ++ [1]) Q (by simp; omega) (by omega) (fun h => by
          obtain ⟨k, e⟩ := h lw.length
          have e2 : vecL (lw ++ [1]) lw.length = 1 := by simp [vecL, List.getD_eq_getElem?_getD]
          rw [e2] at e
          exact not_mul_one hp ⟨k, by rw [e]; show 0 + _ = _; omega⟩) (fun h => by
          obtain ⟨k, e⟩ := h (S.M - lw.length)
          rw [hQ1] at e
          exact not_mul_one hp ⟨k, e⟩) hQa
        exact fin lw2 g1 g2 (by omega) g4
namespace El
variable {S : FS}
/-- The element of a vector. -/
def ofV (u : Nat → Int) : El S := ⟨valL S.P ((List.range S.M).map fun j => u j % S.P), by
  have hd : Dig S.P ((List.range S.M).map fun j => u j % S.P) := by
    intro j hj
    have hj' : j < S.M := by simpa using hj
    simp only [List.getD_eq_getElem?_getD, List.getElem?_map, List.getElem?_range hj', Option.map_some, Option.getD_some]
    have hp := S.shp.p2
    exact ⟨Int.emod_nonneg _ (by omega), Int.emod_lt_of_pos _ (by omega)⟩
  have := valL_bd S.P S.shp.p2 _ hd
  rw [List.length_map, List.length_range, ← S.hq] at this
  exact this⟩
theorem ofV_digs (u : Nat → Int) : digs S.M (ofV u : El S).1 S.P = (List.range S.M).map fun j => u j % S.P := by
  have hd : Dig S.P ((List.range S.M).map fun j => u j % S.P) := by
    intro j hj
    have hj' : j < S.M := by simpa using hj
    simp only [List.getD_eq_getElem?_getD, List.getElem?_map, List.getElem?_range hj', Option.map_some, Option.getD_some]
    have hp := S.shp.p2
    exact ⟨Int.emod_nonneg _ (by omega), Int.emod_lt_of_pos _ (by omega)⟩
  have := digs_val S.P S.shp.p2 _ hd
  rwa [List.length_map, List.length_range] at this
theorem ofV_v (l : List Int) (h : l.length ≤ S.M) : Cg S.P (ofV (vecL l) : El S).v (vecL l) := by
  intro j
  show ∃ k, (digs S.M (ofV (vecL l) : El S).1 S.P).getD j 0 = _
  rw [ofV_digs]
  by_cases hj : j < S.M
  · obtain ⟨k, e⟩ := emod_wit S.P (vecL l j)
    exact ⟨k, by simp only [List.getD_eq_getElem?_getD, List.getElem?_map, List.getElem?_range hj, Option.map_some, Option.getD_some]; exact e⟩
  · exact ⟨0, by rw [List.getD_eq_getElem?_getD, List.getElem?_eq_none (by simpa using hj), vecL_far _ _ (by omega)]; simp⟩
theorem ofV_op (l : List Int) (h : l.length ≤ S.M) (w : Nat → Int) : Cg S.P ((ofV (vecL l) : El S).op w) (act S.M (vecL S.low) l w) := by
  unfold op
  exact act_coef _ _ _ _ _ _ (ofV_v l h)
end El
theorem dom_irr (S : FS) (hD : El.Dom S) (hM : S.M ≠ 1) : IrrL S.P S.mod := by
  intro d h1 h2 v h3 h4 hdv
  have hp := S.shp.p2
  have hml : S.mod.length = S.M := S.shp.len hM
  have hlm : S.low = S.mod := by unfold FS.low lowOf; rw [if_neg hM]
  have hlen : (digs d v S.P).length = d := digs_length _ _ _
  obtain ⟨Q, hQ, hQ1, hQa⟩ := cofactor (S := S) (lw := digs d v S.P) (by rw [hlen]; exact h1) (by rw [hlen]; omega) (by rw [hlm]; exact hdv)
  rw [hlen] at hQ hQ1
  have ha := El.ofV_v (S := S) (digs d v S.P ++ [1]) (by simp [hlen]; omega)
  have hb := El.ofV_v (S := S) Q (by omega)
  have hab : (El.ofV (vecL (digs d v S.P ++ [1])) : El S) * El.ofV (vecL Q) = 0 := by
    apply El.ext
    refine (El.v_mul _ _).trans ((El.ofV_op Q (by omega) _).trans ((Cg.act _ _ _ ha).trans ?_))
    rw [El.v_zero]; exact hQa
  rcases hD _ _ hab with h0 | h0
  · rw [h0, El.v_zero] at ha
    obtain ⟨k, e⟩ := ha d
    have e2 : vecL (digs d v S.P ++ [1]) d = 1 := by
      have : (digs d v S.P ++ [1]).getD (digs d v S.P).length 0 = 1 := by simp [List.getD_eq_getElem?_getD]
      rwa [hlen] at this
    rw [e2] at e
    exact not_mul_one hp ⟨-k, by rw [Int.mul_neg]; have e3 : (0 : Int) = 1 + S.P * k := e; omega⟩
  · rw [h0, El.v_zero] at hb
    obtain ⟨k, e⟩ := hb (S.M - d)
    have e2 : vecL Q (S.M - d) = 1 := hQ1
    rw [e2] at e
    exact not_mul_one hp ⟨-k, by rw [Int.mul_neg]; have e3 : (0 : Int) = 1 + S.P * k := e; omega⟩

end Go.Proofs.Ytjbfccconjjofaa
