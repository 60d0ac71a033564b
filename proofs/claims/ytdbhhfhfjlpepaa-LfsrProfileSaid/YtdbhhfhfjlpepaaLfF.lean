/- Where a shortest register is the only one; sums of sequences. No program in it. -/
import Derived.Test.YtdbhhfhfjlpepaaLfE
namespace Go.Proofs.Ytdbhhfhfjlpepaa
namespace El
variable {S : FS}
theorem exists_first (p : Nat → Prop) (h : ∃ i, p i) : ∃ t, p t ∧ ∀ i, i < t → ¬ p i := by
  obtain ⟨i, hi⟩ := h
  induction i using Nat.strongRecOn with
  | _ i ih =>
    by_cases hx : ∃ j, j < i ∧ p j
    · obtain ⟨j, hj, hpj⟩ := hx; exact ih j hj hpj
    · exact ⟨i, hi, fun j hj hpj => hx ⟨j, hj, hpj⟩⟩
/-- Where the least length is at most half that of the sequence, one register of this length generates it. -/
theorem uniq (hI : S.Inverts) {c c' s : Nat → El S} {l n : Nat} (h : Gen c l s n) (h' : Gen c' l s n) (hmin : ∀ c'' l'', Gen c'' l'' s n → l ≤ l'') (h2 : 2 * l ≤ n) : c = c' := by
  by_cases hne : ∃ i, c i ≠ c' i
  · exfalso
    obtain ⟨t, ht, hlt⟩ := exists_first _ hne
    have ht1 : 1 ≤ t := by
      rcases Nat.eq_zero_or_pos t with h0 | h0
      · subst h0; exact absurd (h.1.1.trans h'.1.1.symm) ht
      · exact h0
    have htl : t ≤ l := by
      rcases Nat.lt_or_ge l t with h3 | h3
      · exact absurd ((h.1.2 t h3).trans (h'.1.2 t h3).symm) ht
      · exact h3
    have hd0 : c t + -c' t ≠ 0 := fun e => ht (sub_eq.1 e)
    obtain ⟨x, hx⟩ : ∃ x, x = S.inv (c t + -c' t) := ⟨_, rfl⟩
    have hxd : x * (c t + -c' t) = 1 := by rw [hx]; exact hI _ hd0
    -- the difference, moved down by t, its first coefficient 1
    have hup : (fun i => c i + -c' i) = up t fun i => c (i + t) + -c' (i + t) := by
      funext i
      unfold up
      by_cases hi : t ≤ i
      · rw [if_pos hi]
        show c i + -c' i = c (i - t + t) + -c' (i - t + t)
        rw [Nat.sub_add_cancel hi]
      · rw [if_neg hi]
        have : c i = c' i := Classical.byContradiction (hlt i (by omega))
        rw [this, add_neg]
    have hcv : ∀ i, cv (fun i => x * (c (i + t) + -c' (i + t))) s i = x * (cv c s (i + t) + -cv c' s (i + t)) := by
      intro i
      rw [cv_mul]
      congr 1
      have e1 := cv_up t (fun i => c (i + t) + -c' (i + t)) s (i + t)
      rw [if_pos (by omega), Nat.add_sub_cancel] at e1
      rw [← e1, ← hup, cv_add]
      congr 1
      have e2 := cv_mul (-1) c' s (i + t)
      have e3 : (fun i => -1 * c' i) = fun i => -c' i := by funext i; rw [neg_mul, one_mul]
      rw [e3, neg_mul, one_mul] at e2
      exact e2
    have hreg : Reg (fun i => x * (c (i + t) + -c' (i + t))) (l - t) := ⟨by show x * (c (0 + t) + -c' (0 + t)) = 1; rw [Nat.zero_add]; exact hxd, fun i hi => by
      show x * (c (i + t) + -c' (i + t)) = 0
      rw [h.1.2 _ (by omega), h'.1.2 _ (by omega), neg_zero, add_zero, mul_zero]⟩
    have hg0 : Gen (fun i => x * (c (i + t) + -c' (i + t))) (l - t) s (n - t) := ⟨hreg, fun j h3 h4 => by
      rw [hcv, h.2 _ (by omega) (by omega), h'.2 _ (by omega) (by omega), neg_zero, add_zero, mul_zero]⟩
    have hall : ∀ m, n - t ≤ m → m ≤ n → Gen (fun i => x * (c (i + t) + -c' (i + t))) (l - t) s m := by
      intro m
      induction m with
      | zero => intro h3 _; rwa [Nat.le_zero.1 h3] at hg0
      | succ m ih =>
        intro h3 h4
        by_cases e : n - t = m + 1
        · rw [← e]; exact hg0
        · have h5 := ih (by omega) (by omega)
          refine h5.next fun _ => ?_
          refine Classical.byContradiction fun h6 => ?_
          have := massey h5 h6 (h.less h4)
          omega
    have := hmin _ _ (hall n (by omega) (Nat.le_refl _))
    omega
  · funext i
    exact Classical.byContradiction fun h => hne ⟨i, h⟩
theorem cv_assoc (a b s : Nat → El S) (n : Nat) : cv (cv a b) s n = cv a (cv b s) n := by
  rw [cv_two]
  have e1 : cv (cv a b) s n = sm (fun k => sm (fun i => if i ≤ k then a i * (b (k - i) * s (n - k)) else 0) (n + 1)) (n + 1) := by
    refine sm_congr _ fun k hk => ?_
    rw [cv_le a b k (n + 1) (fun i h1 h2 => by omega), mul_comm, ← sm_mul]
    refine sm_congr _ fun i hi => ?_
    by_cases h : i ≤ k
    · rw [if_pos h, if_pos h, mul_comm, mul_assoc]
    · rw [if_neg h, if_neg h, mul_zero]
  rw [e1, sm_swap]
  refine sm_congr _ fun i hi => ?_
  have e2 := sm_up (fun j => a i * (b j * s (n - (i + j)))) i (n + 1 - i)
  rw [show i + (n + 1 - i) = n + 1 by omega] at e2
  have e3 : sm (fun k => if i ≤ k then a i * (b (k - i) * s (n - k)) else 0) (n + 1) = sm (fun k => if i ≤ k then a i * (b (k - i) * s (n - (i + (k - i)))) else 0) (n + 1) := by
    refine sm_congr _ fun k hk => ?_
    by_cases h : i ≤ k
    · rw [if_pos h, if_pos h, show i + (k - i) = k by omega]
    · rw [if_neg h, if_neg h]
  rw [e3, e2]
  rw [sm_more (f := fun j => if i + j ≤ n then a i * (b j * s (n - (i + j))) else 0) (show n + 1 - i ≤ n + 1 by omega) fun j h1 h2 => if_neg (by omega)]
  exact (sm_congr _ fun j hj => if_pos (by omega)).symm
theorem cv_comm (a b : Nat → El S) (n : Nat) : cv a b n = cv b a n := by
  have h := cv_swap a b (fun i => if i = 0 then 1 else 0) n
  have e : ∀ d : Nat → El S, ∀ m, cv d (fun i => if i = 0 then 1 else 0) m = d m := by
    intro d m
    have := sm_one (f := fun i => d i * (if m - i = 0 then 1 else 0)) (m + 1) m (by omega) fun i h1 h2 => by rw [if_neg (by omega), mul_zero]
    unfold cv
    rw [this, Nat.sub_self, if_pos rfl, mul_one]
  have e2 : ∀ d d' : Nat → El S, cv d (cv d' fun i => if i = 0 then 1 else 0) n = cv d d' n := fun d d' => cv_congr n (fun _ _ => rfl) fun i _ => e d' i
  rwa [e2, e2] at h
/-- The product of two registers. -/
theorem reg_mul {c c' : Nat → El S} {l l' : Nat} (h : Reg c l) (h' : Reg c' l') : Reg (cv c c') (l + l') := by
  constructor
  · show sm (fun i => c i * c' (0 - i)) 1 = 1
    rw [sm, sm, zero_add, h.1, h'.1, mul_one]
  · intro i hi
    refine sm_zero _ fun j hj => ?_
    by_cases h1 : l < j
    · rw [h.2 j h1, zero_mul]
    · rw [h'.2 (i - j) (by omega), mul_zero]
theorem gen_mul {c c' s : Nat → El S} {l l' n : Nat} (h : Gen c l s n) (h' : Reg c' l') : ∀ j, l + l' ≤ j → j < n → cv (cv c c') s j = 0 := by
  intro j h1 h2
  have e : cv (cv c c') s j = cv c' (cv c s) j := by
    rw [cv_congr (b := cv c' c) j (fun i _ => cv_comm c c' i) fun i _ => rfl, cv_assoc]
  rw [e]
  refine sm_zero _ fun i hi => ?_
  by_cases h3 : l' < i
  · rw [h'.2 i h3, zero_mul]
  · rw [h.2 (j - i) (by omega) (by omega), mul_zero]
theorem gen_sum {c c' s t : Nat → El S} {l l' n : Nat} (h : Gen c l s n) (h' : Gen c' l' t n) : Gen (cv c c') (l + l') (fun i => s i + t i) n := by
  refine ⟨reg_mul h.1 h'.1, fun j h1 h2 => ?_⟩
  have e : cv (cv c c') (fun i => s i + t i) j = cv (cv c c') s j + cv (cv c c') t j := by
    rw [cv_comm, cv_add, cv_comm s, cv_comm t]
  have e2 : cv (cv c c') t j = cv (cv c' c) t j := cv_congr j (fun i _ => cv_comm c c' i) fun i _ => rfl
  rw [e, gen_mul h h'.1 j h1 h2, e2, gen_mul h' h.1 j (by omega) h2, add_zero]
theorem gen_scale {c s : Nat → El S} {l n : Nat} (a : El S) (h : Gen c l s n) : Gen c l (fun i => a * s i) n := by
  refine ⟨h.1, fun j h1 h2 => ?_⟩
  rw [cv_comm, cv_mul, cv_comm, h.2 j h1 h2, mul_zero]
end El

end Go.Proofs.Ytdbhhfhfjlpepaa
