/- Sums to the power of the characteristic. No program in it. -/
import Derived.Test.YtjbfccconjjofaaMathH
namespace Go.Proofs.Ytjbfccconjjofaa

/-- How many ways. -/
def ch : Nat → Nat → Nat
  | _, 0 => 1
  | 0, _ + 1 => 0
  | n + 1, k + 1 => ch n k + ch n (k + 1)
theorem ch_zero (n : Nat) : ch n 0 = 1 := by cases n <;> rfl
theorem ch_far (n : Nat) : ∀ k, n < k → ch n k = 0 := by
  induction n with
  | zero => intro k hk; cases k with
    | zero => omega
    | succ k => rfl
  | succ n ih =>
    intro k hk
    cases k with
    | zero => omega
    | succ k => show ch n k + ch n (k + 1) = 0; rw [ih k (by omega), ih (k + 1) (by omega)]
theorem ch_self (n : Nat) : ch n n = 1 := by
  induction n with
  | zero => rfl
  | succ n ih => show ch n n + ch n (n + 1) = 1; rw [ih, ch_far n (n + 1) (by omega)]
theorem ch_mul (n : Nat) : ∀ k, (k + 1) * ch (n + 1) (k + 1) = (n + 1) * ch n k := by
  induction n with
  | zero =>
    intro k
    cases k with
    | zero => rfl
    | succ k => show (k + 2) * (ch 0 (k + 1) + ch 0 (k + 2)) = 1 * ch 0 (k + 1); simp [ch]
  | succ n ih =>
    intro k
    cases k with
    | zero =>
      have h := ih 0
      show (0 + 1) * (ch (n + 1) 0 + ch (n + 1) 1) = (n + 1 + 1) * ch (n + 1) 0
      rw [ch_zero] at h ⊢
      have h2 : ch (n + 1) 1 = n + 1 := by simpa using h
      rw [h2]; omega
    | succ j =>
      have h1 := ih (j + 1)
      have h2 := ih j
      have e : ch (n + 1 + 1) (j + 1 + 1) = ch (n + 1) (j + 1) + ch (n + 1) (j + 1 + 1) := rfl
      have e2 : ch (n + 1) (j + 1) = ch n j + ch n (j + 1) := rfl
      have e3 : (j + 1 + 1) * ch (n + 1) (j + 1) = (n + 1) * ch n j + ch (n + 1) (j + 1) := by rw [Nat.add_mul (j + 1) 1, h2, Nat.one_mul]
      have e4 : (n + 1 + 1) * ch (n + 1) (j + 1) = (n + 1) * ch n j + (n + 1) * ch n (j + 1) + ch (n + 1) (j + 1) := by
        rw [Nat.add_mul (n + 1) 1, Nat.one_mul, ← Nat.mul_add, ← e2]
      rw [e, Nat.mul_add, h1, e3, e4]
      omega
theorem ch_dvd {P : Int} (hP : Prm P) (k : Nat) (h0 : 0 < k) (h1 : k < P.toNat) : P.toNat ∣ ch P.toNat k := by
  have hp := hP.1
  obtain ⟨n, hn⟩ : ∃ n, P.toNat = n + 1 := ⟨P.toNat - 1, by omega⟩
  obtain ⟨j, rfl⟩ : ∃ j, k = j + 1 := ⟨k - 1, by omega⟩
  have h := ch_mul n j
  have hc : Nat.Coprime P.toNat (j + 1) := by
    obtain ⟨d, hd⟩ : ∃ d, d = Nat.gcd P.toNat (j + 1) := ⟨_, rfl⟩
    have hd1 : d ∣ P.toNat := by rw [hd]; exact Nat.gcd_dvd_left _ _
    have hd2 : d ≤ j + 1 := by rw [hd]; exact Nat.gcd_le_right _ (by omega)
    have hd3 : 0 < d := by rw [hd]; exact Nat.gcd_pos_of_pos_right _ (by omega)
    by_cases hd4 : d = 1
    · exact hd.symm.trans hd4
    · exfalso
      refine hP.2 (d : Int) (by omega) (by omega) ?_
      obtain ⟨c, hc⟩ := hd1
      have : P = (d : Int) * (c : Int) := by rw [← Int.natCast_mul, ← hc]; omega
      rw [this]; simp
  refine hc.dvd_of_dvd_mul_left ⟨ch n j, ?_⟩
  rw [hn]; exact h
namespace El
variable {S : FS}
/-- Multiples. -/
def nm : Nat → El S → El S
  | 0, _ => 0
  | n + 1, a => nm n a + a
theorem nm_add (m n : Nat) (a : El S) : nm (m + n) a = nm m a + nm n a := by
  induction n with
  | zero => rw [Nat.add_zero, nm, add_zero]
  | succ n ih => rw [← Nat.add_assoc, nm, ih, nm, add_assoc]
theorem nm_zero (n : Nat) : nm n (0 : El S) = 0 := by
  induction n with
  | zero => rfl
  | succ n ih => rw [nm, ih, add_zero]
theorem nm_mulr (n : Nat) (a b : El S) : nm n a * b = nm n (a * b) := by
  induction n with
  | zero => rw [nm, nm, zero_mul]
  | succ n ih => rw [nm, nm, add_mul, ih]
theorem nm_mul (m n : Nat) (a : El S) : nm (m * n) a = nm n (nm m a) := by
  induction n with
  | zero => rfl
  | succ n ih => rw [Nat.mul_succ, nm_add, ih, nm]
theorem nm_v (n : Nat) (a : El S) : Cg S.P (nm n a).v (vs n a.v) := by
  induction n with
  | zero => rw [nm, v_zero]; intro j; exact ⟨0, by show (0 : Int) = (0 : Nat) * a.v j + _; simp⟩
  | succ n ih =>
    refine (v_add _ _).trans ((ih.va (Cg.refl _ _)).trans ?_)
    intro j
    exact ⟨0, by show (n : Int) * a.v j + a.v j = ((n + 1 : Nat) : Int) * a.v j + _; rw [Int.natCast_add, Int.add_mul]; simp⟩
theorem nm_char (a : El S) : nm S.P.toNat a = 0 := by
  apply ext
  refine (nm_v _ a).trans ?_
  rw [v_zero]
  have hp := S.shp.p2
  intro j
  exact ⟨a.v j, by show ((S.P.toNat : Nat) : Int) * a.v j = 0 + S.P * a.v j; rw [Int.toNat_of_nonneg (by omega)]; omega⟩
theorem nm_dvd (a : El S) {n : Nat} (h : S.P.toNat ∣ n) : nm n a = 0 := by
  obtain ⟨c, rfl⟩ := h
  rw [nm_mul, nm_char, nm_zero]
/-- The sum of the first entries. -/
def sm (f : Nat → El S) : Nat → El S
  | 0 => f 0
  | k + 1 => sm f k + f (k + 1)
theorem sm_one (f : Nat → El S) (k : Nat) (h : ∀ j, 0 < j → j ≤ k → f j = 0) : sm f k = f 0 := by
  induction k with
  | zero => rfl
  | succ k ih => rw [sm, ih fun j h1 h2 => h j h1 (by omega), h (k + 1) (by omega) (by omega), add_zero]
theorem sm_mulr (f : Nat → El S) (k : Nat) (b : El S) : sm f k * b = sm (fun j => f j * b) k := by
  induction k with
  | zero => rfl
  | succ k ih => rw [sm, add_mul, ih]; rfl
theorem sm_step (a b : El S) (n : Nat) : ∀ m, m ≤ n → sm (fun k => nm (ch n k) (pow a k * pow b (n - k))) m * (a + b) =
    sm (fun k => nm (ch (n + 1) k) (pow a k * pow b (n + 1 - k))) m + nm (ch n m) (pow a (m + 1) * pow b (n - m)) := by
  intro m
  have ea : ∀ k, pow a k * pow b (n - k) * a = pow a (k + 1) * pow b (n - k) := fun k => by rw [pow, mul_assoc, mul_assoc, mul_comm a]
  have eb : ∀ k, k ≤ n → pow a k * pow b (n - k) * b = pow a k * pow b (n + 1 - k) := fun k hk => by
    rw [mul_assoc, show n + 1 - k = n - k + 1 from by omega]; rfl
  induction m with
  | zero =>
    intro _
    show nm (ch n 0) _ * (a + b) = nm (ch (n + 1) 0) _ + _
    rw [mul_add, nm_mulr, nm_mulr, ea, eb 0 (by omega), ch_zero, ch_zero, add_comm]
  | succ m ih =>
    intro hm
    rw [sm, add_mul, ih (by omega), sm, mul_add, nm_mulr, nm_mulr, ea, eb (m + 1) hm]
    have e1 : ch (n + 1) (m + 1) = ch n m + ch n (m + 1) := rfl
    rw [e1, nm_add, show n + 1 - (m + 1) = n - m from by omega]
    simp only [add_assoc]
    congr 1
    congr 1
    rw [add_comm]
theorem binom (a b : El S) (n : Nat) : pow (a + b) n = sm (fun k => nm (ch n k) (pow a k * pow b (n - k))) n := by
  induction n with
  | zero => show (1 : El S) = 0 + 1 * 1; rw [mul_one, zero_add]
  | succ n ih =>
    rw [pow, ih, sm_step a b n n (Nat.le_refl _), sm, ch_self, ch_self]
    rw [Nat.sub_self, Nat.sub_self]
theorem frob (a b : El S) : pow (a + b) S.P.toNat = pow a S.P.toNat + pow b S.P.toNat := by
  have hp := S.shp.p2
  rw [binom]
  obtain ⟨n, hn⟩ : ∃ n, S.P.toNat = n + 1 := ⟨S.P.toNat - 1, by omega⟩
  have hd : ∀ j, 0 < j → j ≤ n → ch S.P.toNat j = ch S.P.toNat j ∧ S.P.toNat ∣ ch S.P.toNat j := fun j h1 h2 => ⟨rfl, ch_dvd S.shp.prm j h1 (by omega)⟩
  have e : ∀ j, 0 < j → j ≤ n → nm (ch S.P.toNat j) (pow a j * pow b (S.P.toNat - j)) = 0 := fun j h1 h2 => nm_dvd _ (hd j h1 h2).2
  rw [hn] at e ⊢
  rw [sm, sm_one _ n e, ch_zero, ch_self, Nat.sub_self, Nat.sub_zero]
  show 0 + 1 * pow b (n + 1) + (0 + pow a (n + 1) * 1) = _
  rw [zero_add, zero_add, one_mul, mul_one, add_comm]
end El
section
variable {P : Int} {M : Nat} {mod : List Int} {q : Nat} {x : Int} {ex lg : List Int}
theorem Made.pow_q (h : Made P M mod q x ex lg) (a : El h.fs) : El.pow a q = a := by
  have hq := h.q2
  have e3 : El.pow a (q - 1 + 1) = El.pow a (q - 1) * a := rfl
  rw [show q - 1 + 1 = q from by omega] at e3
  rw [e3]
  by_cases ha : a = 0
  · rw [ha, El.mul_zero]
  · obtain ⟨i, _, _, e⟩ := h.log_at a ha
    have e2 : El.pow a (q - 1) = 1 := by rw [← e, ← El.pow_mul, Nat.mul_comm, El.pow_mul, h.g_one, El.one_pow]
    rw [e2, El.one_mul]
theorem Made.pow_mod1 (h : Made P M mod q x ex lg) (a : El h.fs) (ha : a ≠ 0) (n : Nat) : El.pow a (n % (q - 1)) = El.pow a n := by
  obtain ⟨i, _, _, e⟩ := h.log_at a ha
  have e2 : El.pow a (q - 1) = 1 := by rw [← e, ← El.pow_mul, Nat.mul_comm, El.pow_mul, h.g_one, El.one_pow]
  exact (El.pow_mod e2 n).symm
end

end Go.Proofs.Ytjbfccconjjofaa
