/- How many elements have an order. No program in it. -/
import Derived.Test.YtjbfccconjjofaaMathK
import Derived.Test.YtjbfccconjjofaaCop
namespace Go.Proofs.Ytjbfccconjjofaa

theorem cop_cnt (n k : Nat) : cop n k = cnt (fun i => decide (Nat.gcd (i + 1) n = 1)) k := by
  induction k with
  | zero => rfl
  | succ k ih =>
    rw [cop, cnt, ih]
    congr 1
    by_cases h : Nat.gcd (k + 1) n = 1
    · simp [h]
    · simp [h]
theorem cnt_shift (p : Nat → Bool) (n : Nat) : cnt (fun i => p (i + 1)) n + (p 0).toNat = cnt p n + (p n).toNat := by
  induction n with
  | zero => rfl
  | succ n ih => rw [cnt, cnt]; omega
theorem cop_self (n : Nat) : cop n n = cnt (fun j => decide (Nat.gcd n j = 1)) n := by
  rw [cop_cnt]
  have h := cnt_shift (fun j => decide (Nat.gcd n j = 1)) n
  have e : decide (Nat.gcd n 0 = 1) = decide (Nat.gcd n n = 1) := by simp
  have e2 : cnt (fun i => decide (Nat.gcd (i + 1) n = 1)) n = cnt (fun i => decide (Nat.gcd n (i + 1) = 1)) n := cnt_congr n fun i _ => decide_eq_decide.2 (by rw [Nat.gcd_comm])
  rw [e2]
  have h2 : cnt (fun i => decide (Nat.gcd n (i + 1) = 1)) n + (decide (Nat.gcd n 0 = 1)).toNat = cnt (fun j => decide (Nat.gcd n j = 1)) n + (decide (Nat.gcd n n = 1)).toNat := h
  rw [e] at h2
  omega
/-- The logarithms with an order. -/
theorem cnt_ord (N n : Nat) (hN : 1 ≤ N) (hn : 1 ≤ n) : cnt (fun j => decide (N / Nat.gcd N j = n)) N = if n ∣ N then cop n n else 0 := by
  split
  · rename_i hd
    obtain ⟨d, rfl⟩ := hd
    have hd1 : 1 ≤ d := by
      rcases Nat.eq_zero_or_pos d with h | h
      · rw [h, Nat.mul_zero] at hN; omega
      · exact h
    have key : ∀ j, (n * d / Nat.gcd (n * d) j = n) ↔ Nat.gcd (n * d) j = d := by
      intro j
      have hg : 0 < Nat.gcd (n * d) j := Nat.gcd_pos_of_pos_left _ (by omega)
      obtain ⟨c, hc⟩ := Nat.gcd_dvd_left (n * d) j
      have e : n * d / Nat.gcd (n * d) j = c := Nat.div_eq_of_eq_mul_right hg hc
      rw [e]
      constructor
      · intro h
        rw [h] at hc
        have : n * d = n * Nat.gcd (n * d) j := hc.trans (Nat.mul_comm _ _)
        exact (Nat.eq_of_mul_eq_mul_left (by omega) this).symm
      · intro h
        rw [h, Nat.mul_comm d c] at hc
        exact (Nat.eq_of_mul_eq_mul_right (by omega) hc).symm
    have e1 : cnt (fun j => decide (n * d / Nat.gcd (n * d) j = n)) (n * d) = cnt (fun j => decide (Nat.gcd (n * d) j = d)) (n * d) := cnt_congr _ fun i _ => decide_eq_decide.2 (key i)
    have e2 := cnt_mult (fun j => decide (Nat.gcd (n * d) j = d)) d hd1 (fun i hi => by
      have : Nat.gcd (n * d) i = d := of_decide_eq_true hi
      exact this ▸ Nat.gcd_dvd_right (n * d) i) n
    rw [e1]
    have e3 : cnt (fun j => decide (Nat.gcd (n * d) j = d)) (n * d) = cnt (fun j => decide (Nat.gcd (n * d) j = d)) (d * n) := by rw [Nat.mul_comm n d]
    rw [e3, e2, cop_self]
    refine cnt_congr n fun j _ => ?_
    have e4 : Nat.gcd (n * d) (d * j) = d * Nat.gcd n j := by rw [Nat.mul_comm n d, Nat.gcd_mul_left]
    show decide (Nat.gcd (n * d) (d * j) = d) = decide (Nat.gcd n j = 1)
    rw [e4]
    by_cases h : Nat.gcd n j = 1
    · simp [h]
    · have : ¬ d * Nat.gcd n j = d := fun e => h (Nat.eq_of_mul_eq_mul_left (by omega) (e.trans (Nat.mul_one d).symm))
      simp [this, h]
  · rename_i hd
    refine cnt_none _ _ fun j _ => ?_
    refine decide_eq_false fun e => hd ?_
    have := Nat.div_dvd_of_dvd (Nat.gcd_dvd_left N j)
    rwa [e] at this
section
variable {P : Int} {M : Nat} {mod : List Int} {q : Nat} {x : Int} {ex lg : List Int}
/-- Behind the elements 1, 2, .. stand all logarithms. -/
theorem Made.logs (h : Made P M mod q x ex lg) : ∃ f : Nat → Nat, (∀ i, i < q - 1 → f i < q - 1 ∧ lg.getD (i + 1) 0 = f i) ∧ ∀ n, 1 ≤ n → cnt (fun i => decide ((q - 1) / Nat.gcd (q - 1) (f i) = n)) (q - 1) = if n ∣ q - 1 then cop n n else 0 := by
  have hq := h.q2
  have hel : ∀ i, i < q - 1 → ∃ j : Nat, j < q - 1 ∧ lg.getD (i + 1) 0 = j ∧ El.pow h.g j = h.el ((i : Int) + 1) := by
    intro i hi
    have e1 : inn q ((i : Int) + 1) = (i : Int) + 1 := inn_yes (by omega) (by omega)
    have hne : h.el ((i : Int) + 1) ≠ 0 := fun e => by
      have e2 : inn q ((i : Int) + 1) = 0 := congrArg Subtype.val e
      omega
    obtain ⟨j, hj, e2, e3⟩ := h.log_at _ hne
    refine ⟨j, hj, ?_, e3⟩
    rw [← e2, h.el_val, e1]
    congr 1
  refine ⟨fun i => (lg.getD (i + 1) 0).toNat, fun i hi => ?_, fun n hn => ?_⟩
  · obtain ⟨j, hj, e, _⟩ := hel i hi
    show (lg.getD (i + 1) 0).toNat < q - 1 ∧ lg.getD (i + 1) 0 = ((lg.getD (i + 1) 0).toNat : Int)
    rw [e]; exact ⟨by simpa using hj, by simp⟩
  · rw [← cnt_ord (q - 1) n (by omega) hn]
    refine cnt_perm (fun j => decide ((q - 1) / Nat.gcd (q - 1) j = n)) (q - 1) (fun i => (lg.getD (i + 1) 0).toNat) (fun i hi => ?_) fun i j hij hj e => ?_
    · obtain ⟨k, hk, e, _⟩ := hel i hi
      show (lg.getD (i + 1) 0).toNat < q - 1
      rw [e]; simpa using hk
    · obtain ⟨a, ha, e1, e2⟩ := hel i (by omega)
      obtain ⟨b, hb, e3, e4⟩ := hel j hj
      have e5 : (lg.getD (i + 1) 0).toNat = (lg.getD (j + 1) 0).toNat := e
      rw [e1, e3] at e5
      have e6 : a = b := by simpa using e5
      rw [e6, e4] at e2
      have e7 : inn q ((j : Int) + 1) = inn q ((i : Int) + 1) := congrArg Subtype.val e2
      rw [inn_yes (by omega) (by omega), inn_yes (by omega) (by omega)] at e7
      omega
end

end Go.Proofs.Ytjbfccconjjofaa
