/- Fields have generators, and what has a generator has no zero divisors. No program in it. -/
import Derived.Test.YtjbfccconjjofaaMathE
namespace Go.Proofs.Ytjbfccconjjofaa

theorem inj_onto (n : Nat) : ∀ f : Nat → Nat, (∀ i, i < n → f i < n) → (∀ i j, i < j → j < n → f i ≠ f j) → ∀ v, v < n → ∃ i, i < n ∧ f i = v := by
  induction n with
  | zero => intro f _ _ v hv; omega
  | succ n ih =>
    intro f h1 h2 v hv
    have key := ih (fun i => if f i = n then f n else f i) (fun i hi => by
      show (if f i = n then f n else f i) < n
      have a1 := h1 i (by omega)
      have a2 := h1 n (by omega)
      have a3 := h2 i n hi (by omega)
      split <;> omega) (fun i j hij hj => by
      show (if f i = n then f n else f i) ≠ (if f j = n then f n else f j)
      have a1 := h2 i j hij (by omega)
      have a2 := h2 i n (by omega) (by omega)
      have a3 := h2 j n (by omega) (by omega)
      split <;> split <;> omega)
    by_cases hva : v = f n
    · exact ⟨n, by omega, hva.symm⟩
    · by_cases hvn : v = n
      · have := h1 n (by omega)
        obtain ⟨i, hi, e⟩ := key (f n) (by omega)
        have e : (if f i = n then f n else f i) = f n := e
        have a2 := h2 i n hi (by omega)
        split at e
        · exact ⟨i, by omega, by omega⟩
        · exact absurd e a2
      · obtain ⟨i, hi, e⟩ := key v (by omega)
        have e : (if f i = n then f n else f i) = v := e
        split at e
        · exact absurd e.symm hva
        · exact ⟨i, by omega, e⟩
theorem no_inj (n : Nat) (f : Nat → Nat) (h1 : ∀ i, i < n + 1 → f i < n) (h2 : ∀ i j, i < j → j < n + 1 → f i ≠ f j) : False := by
  obtain ⟨i, hi, e⟩ := inj_onto n f (fun i hi => h1 i (by omega)) (fun i j hij hj => h2 i j hij (by omega)) (f n) (h1 n (by omega))
  exact h2 i n hi (by omega) e
theorem least_of (p : Nat → Prop) : ∀ n, p n → ∃ m, p m ∧ ∀ k, k < m → ¬ p k := by
  intro n
  induction n using Nat.strongRecOn with
  | _ n ih =>
    intro hn
    by_cases h : ∃ k, k < n ∧ p k
    · obtain ⟨k, hk, hp⟩ := h
      exact ih k hk hp
    · exact ⟨n, hn, fun k hk hp => h ⟨k, hk, hp⟩⟩
theorem most_of (p : Nat → Prop) (N : Nat) (hN : ∀ n, p n → n ≤ N) : ∀ d n, N - n = d → p n → ∃ m, p m ∧ ∀ k, p k → k ≤ m := by
  intro d
  induction d using Nat.strongRecOn with
  | _ d ih =>
    intro n hd hn
    by_cases h : ∃ k, n < k ∧ p k
    · obtain ⟨k, hk, hp⟩ := h
      have := hN k hp
      exact ih (N - k) (by omega) k rfl hp
    · exact ⟨n, hn, fun k hp => Nat.le_of_not_lt fun hk => h ⟨k, hk, hp⟩⟩
/-- The part of n that is made of m's factors, and the rest. -/
theorem part_of (m : Nat) : ∀ n, 1 ≤ n → ∃ s t K, n = s * t ∧ Nat.Coprime t m ∧ s ∣ m ^ K := by
  intro n
  induction n using Nat.strongRecOn with
  | _ n ih =>
    intro hn
    by_cases hd : Nat.gcd n m = 1
    · exact ⟨1, n, 0, by omega, hd, Nat.one_dvd _⟩
    · obtain ⟨n', e⟩ := Nat.gcd_dvd_left n m
      have h0 : 0 < Nat.gcd n m := Nat.gcd_pos_of_pos_left _ (by omega)
      have hn' : 1 ≤ n' := by
        rcases Nat.eq_zero_or_pos n' with h | h
        · rw [h, Nat.mul_zero] at e; omega
        · exact h
      have hlt : n' < n := by
        have : 2 * n' ≤ Nat.gcd n m * n' := Nat.mul_le_mul_right _ (by omega)
        omega
      obtain ⟨s, t, K, h1, h2, h3⟩ := ih n' hlt hn'
      refine ⟨Nat.gcd n m * s, t, K + 1, ?_, h2, ?_⟩
      · rw [Nat.mul_assoc, ← h1]; exact e
      · rw [Nat.pow_succ, Nat.mul_comm]
        exact Nat.mul_dvd_mul h3 (Nat.gcd_dvd_right n m)

namespace El
variable {S : FS}
/-- n is the order of a. -/
structure IsOrd (a : El S) (n : Nat) : Prop where
  pos : 1 ≤ n
  one : pow a n = 1
  dvd : ∀ k, pow a k = 1 → n ∣ k
theorem pow_zero (a : El S) : pow a 0 = 1 := rfl
/-- The element with this number. -/
def mk (x : Int) (h0 : 0 ≤ x) (hx : x < S.q) : El S := ⟨x, h0, hx⟩
theorem pow_dvd {a : El S} {n k : Nat} (h : pow a n = 1) (hd : n ∣ k) : pow a k = 1 := by
  obtain ⟨c, rfl⟩ := hd
  rw [pow_mul, h, one_pow]
theorem pow_mod {a : El S} {n : Nat} (h : pow a n = 1) (k : Nat) : pow a k = pow a (k % n) := by
  have e := Nat.div_add_mod k n
  have : pow a k = pow a (n * (k / n) + k % n) := by rw [e]
  rw [this, pow_add, pow_mul, h, one_pow, one_mul]
theorem ord_of {a : El S} {k : Nat} (hk : 1 ≤ k) (h : pow a k = 1) : ∃ n, IsOrd a n ∧ n ≤ k := by
  obtain ⟨n, ⟨h1, h2⟩, h3⟩ := least_of (fun n => 1 ≤ n ∧ pow a n = 1) k ⟨hk, h⟩
  refine ⟨n, ⟨h1, h2, fun j hj => ?_⟩, Nat.le_of_not_lt fun hlt => h3 k hlt ⟨hk, h⟩⟩
  rw [pow_mod h2] at hj
  have hlt := Nat.mod_lt j (show 0 < n by omega)
  refine Nat.dvd_of_mod_eq_zero ?_
  rcases Nat.eq_zero_or_pos (j % n) with h0 | h0
  · exact h0
  · exact absurd ⟨h0, hj⟩ (h3 _ hlt)
theorem IsOrd.powd {a : El S} {n s t : Nat} (h : IsOrd a n) (e : n = s * t) : IsOrd (pow a s) t := by
  have hp := h.pos
  have ht : 1 ≤ t := by
    rcases Nat.eq_zero_or_pos t with h0 | h0
    · rw [h0, Nat.mul_zero] at e; omega
    · exact h0
  have hs : 1 ≤ s := by
    rcases Nat.eq_zero_or_pos s with h0 | h0
    · rw [h0, Nat.zero_mul] at e; omega
    · exact h0
  refine ⟨ht, by rw [← pow_mul, ← e]; exact h.one, fun k hk => ?_⟩
  rw [← pow_mul] at hk
  have := h.dvd _ hk
  rw [e] at this
  exact Nat.dvd_of_mul_dvd_mul_left (by omega) this
theorem IsOrd.mulc {a b : El S} {m n : Nat} (ha : IsOrd a m) (hb : IsOrd b n) (hc : Nat.Coprime m n) : IsOrd (a * b) (m * n) := by
  have h1 := ha.pos
  have h2 := hb.pos
  refine ⟨Nat.mul_pos h1 h2, ?_, fun k hk => ?_⟩
  · rw [mul_pow, pow_mul, ha.one, one_pow, Nat.mul_comm, pow_mul, hb.one, one_pow, one_mul]
  · have g1 : pow a (k * n) = 1 := by
      have e : pow (a * b) (k * n) = 1 := by rw [pow_mul, hk, one_pow]
      rw [mul_pow, Nat.mul_comm k n, pow_mul b, hb.one, one_pow, mul_one] at e
      rw [Nat.mul_comm]; exact e
    have g2 : pow b (k * m) = 1 := by
      have e : pow (a * b) (k * m) = 1 := by rw [pow_mul, hk, one_pow]
      rw [mul_pow, Nat.mul_comm k m, pow_mul a, ha.one, one_pow, one_mul] at e
      rw [Nat.mul_comm]; exact e
    exact Nat.Coprime.mul_dvd_of_dvd_of_dvd hc (hc.dvd_of_dvd_mul_right (ha.dvd _ g1)) (hc.symm.dvd_of_dvd_mul_right (hb.dvd _ g2))
/-- A greater order, where one does not divide the other. -/
theorem IsOrd.more {a b : El S} {n m : Nat} (ha : IsOrd a n) (hb : IsOrd b m) (hnd : ¬ m ∣ n) : ∃ (c : El S) (k : Nat), IsOrd c k ∧ n < k := by
  have hn := ha.pos
  have hm := hb.pos
  obtain ⟨m1, e1⟩ := Nat.gcd_dvd_left m n
  obtain ⟨n1, e2⟩ := Nat.gcd_dvd_right m n
  have hg : 0 < Nat.gcd m n := Nat.gcd_pos_of_pos_left _ (by omega)
  have hc : Nat.Coprime m1 n1 := by
    have h := Nat.gcd_mul_left (Nat.gcd m n) m1 n1
    rw [← e1, ← e2] at h
    exact Nat.eq_of_mul_eq_mul_left hg (by rw [Nat.mul_one]; exact h.symm)
  have hm1 : m1 ≠ 1 := fun h => hnd (by rw [h, Nat.mul_one] at e1; rw [e1]; exact Nat.gcd_dvd_right m n)
  have hm0 : m1 ≠ 0 := fun h => by rw [h, Nat.mul_zero] at e1; omega
  obtain ⟨s, t, K, h1, h2, h3⟩ := part_of m1 n hn
  have hsn : Nat.Coprime s n1 := Nat.Coprime.coprime_dvd_left h3 (Nat.Coprime.pow_left K hc)
  have hsg : s ∣ Nat.gcd m n := by
    have : s ∣ Nat.gcd m n * n1 := by rw [← e2]; exact ⟨t, h1⟩
    exact hsn.dvd_of_dvd_mul_right this
  obtain ⟨g', e3⟩ := hsg
  have hts : Nat.Coprime (s * m1) t := Nat.Coprime.mul_left (Nat.Coprime.coprime_dvd_left h3 (Nat.Coprime.pow_left K h2.symm)) h2.symm
  have o1 : IsOrd (pow b g') (s * m1) := hb.powd (by
    rw [e1, e3, Nat.mul_comm s g', Nat.mul_assoc])
  have o2 : IsOrd (pow a s) t := ha.powd h1
  refine ⟨_, _, o1.mulc o2 hts, ?_⟩
  have : s * m1 * t = n * m1 := by rw [h1, Nat.mul_right_comm]
  rw [this]
  have : n * 2 ≤ n * m1 := Nat.mul_le_mul_left _ (by omega)
  omega

/-- f is a polynomial of degree n. -/
def Deg : Nat → (El S → El S) → Prop
  | 0, f => ∃ c, c ≠ 0 ∧ ∀ x, f x = c
  | n + 1, f => ∀ r, ∃ g e, Deg n g ∧ ∀ x, f x = (x + -r) * g x + e
theorem Deg.step : ∀ (n : Nat) (g : El S → El S) (c : El S), Deg n g → Deg (n + 1) fun x => x * g x + c := by
  intro n
  induction n with
  | zero =>
    rintro g c ⟨d, hd, hg⟩ r
    refine ⟨fun _ => d, r * d + c, ⟨d, hd, fun _ => rfl⟩, fun x => ?_⟩
    show x * g x + c = (x + -r) * d + (r * d + c)
    rw [hg, add_mul, neg_mul, add_assoc, ← add_assoc (-(r * d)), neg_add, zero_add]
  | succ n ih =>
    intro g c hg r
    obtain ⟨h, e, hh, he⟩ := hg r
    refine ⟨fun x => x * h x + e, e * r + c, ih h e hh, fun x => ?_⟩
    show x * g x + c = (x + -r) * (x * h x + e) + (e * r + c)
    have h1 : x * g x = (x + -r) * (x * h x) + x * e := by rw [he, mul_add, mul_left_comm]
    have h2 : (x + -r) * e + e * r = x * e := by rw [add_mul, neg_mul, mul_comm e r, add_assoc, neg_add, add_zero]
    rw [h1, mul_add, add_assoc, add_assoc, ← h2, add_assoc]
theorem Deg.pow : ∀ n, Deg (S := S) n fun x => pow x n
  | 0 => ⟨1, one_ne_zero, fun _ => rfl⟩
  | n + 1 => by
    have h := Deg.step n _ 0 (Deg.pow n)
    have e : (fun x : El S => x * El.pow x n + 0) = fun x => El.pow x (n + 1) := by
      funext x; rw [add_zero, mul_comm]; rfl
    rwa [e] at h
theorem Deg.powc (n : Nat) (hn : 1 ≤ n) (c : El S) : Deg n fun x => El.pow x n + c := by
  obtain ⟨k, rfl⟩ : ∃ k, n = k + 1 := ⟨n - 1, by omega⟩
  have h := Deg.step k _ c (Deg.pow k)
  have e : (fun x : El S => x * El.pow x k + c) = fun x => El.pow x (k + 1) + c := by
    funext x; rw [mul_comm]; rfl
  rwa [e] at h
theorem Deg.roots (hD : Dom S) : ∀ (n : Nat) (f : El S → El S), Deg n f → ∀ p : Nat → El S, (∀ i j, i < j → j < n + 1 → p i ≠ p j) → ¬ ∀ i, i < n + 1 → f (p i) = 0 := by
  intro n
  induction n with
  | zero =>
    rintro f ⟨c, hc, h⟩ p _ h0
    exact hc (by rw [← h (p 0)]; exact h0 0 (by omega))
  | succ n ih =>
    intro f hf p hp h0
    obtain ⟨g, e, hg, he⟩ := hf (p (n + 1))
    have e0 : e = 0 := by
      have h1 := h0 (n + 1) (by omega)
      rwa [he, add_neg, zero_mul, zero_add] at h1
    refine ih g hg p (fun i j hij hj => hp i j hij (by omega)) fun i hi => ?_
    have h1 := h0 i (by omega)
    rw [he, e0, add_zero] at h1
    rcases hD _ _ h1 with h2 | h2
    · exact absurd (sub_eq.1 h2) (hp i (n + 1) (by omega) (by omega))
    · exact h2

theorem cancel (hD : Dom S) {a b c : El S} (ha : a ≠ 0) (h : a * b = a * c) : b = c := by
  have h1 : a * (b + -c) = 0 := by rw [mul_add, mul_neg, h, add_neg]
  rcases hD _ _ h1 with h2 | h2
  · exact absurd h2 ha
  · exact sub_eq.1 h2
theorem pow_ne (hD : Dom S) {a : El S} (ha : a ≠ 0) (n : Nat) : pow a n ≠ 0 := by
  induction n with
  | zero => exact one_ne_zero
  | succ n ih => exact fun h => (hD _ _ h).elim ih ha
/-- The nonzero elements, as numbers from 0 on. -/
theorem val_pos {a : El S} (h : a ≠ 0) : 1 ≤ a.1 := by
  have h1 := a.2.1
  have h2 : a.1 ≠ 0 := fun e => h (eq e)
  omega
theorem idx_bd {a : El S} (h : a ≠ 0) : (a.1 - 1).toNat < S.q - 1 := by
  have := val_pos h
  have := a.2.2
  omega
theorem idx_inj {a b : El S} (ha : a ≠ 0) (hb : b ≠ 0) (h : (a.1 - 1).toNat = (b.1 - 1).toNat) : a = b := by
  have := val_pos ha
  have := val_pos hb
  exact eq (by omega)
theorem finite_ord (hD : Dom S) {a : El S} (ha : a ≠ 0) : ∃ n, IsOrd a n ∧ n ≤ S.q - 1 := by
  have hq := S.q2
  by_cases h : ∃ k, 1 ≤ k ∧ k ≤ S.q - 1 ∧ pow a k = 1
  · obtain ⟨k, h1, h2, h3⟩ := h
    obtain ⟨n, hn, hk⟩ := ord_of h1 h3
    exact ⟨n, hn, by omega⟩
  · exfalso
    refine no_inj (S.q - 1) (fun i => ((pow a i).1 - 1).toNat) (fun i _ => idx_bd (pow_ne hD ha i)) fun i j hij hj e => ?_
    have e2 := idx_inj (pow_ne hD ha i) (pow_ne hD ha j) e
    obtain ⟨d, rfl⟩ : ∃ d, j = i + d := ⟨j - i, by omega⟩
    rw [pow_add] at e2
    have e3 : pow a i * 1 = pow a i * pow a d := by rw [mul_one]; exact e2
    exact h ⟨d, by omega, by omega, (cancel hD (pow_ne hD ha i) e3).symm⟩
theorem IsOrd.inj {a : El S} {n : Nat} (h : IsOrd a n) (hD : Dom S) (ha : a ≠ 0) {i j : Nat} (hij : i < j) (hj : j < n) : pow a i ≠ pow a j := by
  intro e
  obtain ⟨d, rfl⟩ : ∃ d, j = i + d := ⟨j - i, by omega⟩
  rw [pow_add] at e
  have e3 : pow a i * 1 = pow a i * pow a d := by rw [mul_one]; exact e
  have := Nat.le_of_dvd (by omega) (h.dvd d (cancel hD (pow_ne hD ha i) e3).symm)
  omega
/-- There is an element whose order is that of the group. -/
theorem ex_gen (hD : Dom S) : ∃ a : El S, a ≠ 0 ∧ IsOrd a (S.q - 1) := by
  have hq := S.q2
  obtain ⟨n, ⟨a, ha, hn⟩, hmax⟩ := most_of (fun n => ∃ a : El S, a ≠ 0 ∧ IsOrd a n) (S.q - 1) (fun n ⟨a, ha, hn⟩ => by
    obtain ⟨k, hk, h2⟩ := finite_ord hD ha
    have := Nat.le_of_dvd hk.pos (hn.dvd k hk.one)
    omega) _ 1 rfl ⟨1, one_ne_zero, ⟨Nat.le_refl _, pow_one 1, fun k _ => Nat.one_dvd k⟩⟩
  have hall : ∀ b : El S, b ≠ 0 → pow b n = 1 := by
    intro b hb
    obtain ⟨m, hm, _⟩ := finite_ord hD hb
    by_cases hd : m ∣ n
    · exact pow_dvd hm.one hd
    · obtain ⟨c, k, hc, hk⟩ := hn.more hm hd
      have hc0 : c ≠ 0 := fun e => by
        have h1 := hc.one
        have h2 := hc.pos
        obtain ⟨k', rfl⟩ : ∃ k', k = k' + 1 := ⟨k - 1, by omega⟩
        rw [e, pow, mul_zero] at h1
        exact one_ne_zero h1.symm
      have := hmax k ⟨c, hc0, hc⟩
      omega
  have hle : n ≤ S.q - 1 := by
    obtain ⟨k, hk, h2⟩ := finite_ord hD ha
    have := Nat.le_of_dvd hk.pos (hn.dvd k hk.one)
    omega
  have hge : S.q - 1 ≤ n := Nat.le_of_not_lt fun hlt => by
    have hb : ∀ i : Nat, i < n + 1 → (0 : Int) ≤ (i : Int) + 1 ∧ (i : Int) + 1 < S.q := fun i hi => by omega
    refine Deg.roots hD n _ (Deg.powc n hn.pos (-1)) (fun i => if h : i < n + 1 then mk ((i : Int) + 1) (hb i h).1 (hb i h).2 else 0) (fun i j hij hj e => ?_) fun i hi => ?_
    · have e2 := congrArg Subtype.val e
      simp only [show i < n + 1 from by omega, hj, dif_pos] at e2
      have e3 : (i : Int) + 1 = (j : Int) + 1 := e2
      omega
    · show pow (if h : i < n + 1 then (mk ((i : Int) + 1) (hb i h).1 (hb i h).2 : El S) else 0) n + -1 = 0
      rw [dif_pos hi, sub_eq]
      refine hall _ fun e => ?_
      have e2 : (i : Int) + 1 = 0 := congrArg Subtype.val e
      omega
  have : n = S.q - 1 := by omega
  exact ⟨a, ha, this ▸ hn⟩
/-- A generator is an element whose order is that of the group. -/
theorem gen_of_ord (hD : Dom S) {a : El S} (ha : a ≠ 0) (h : IsOrd a (S.q - 1)) : IsGen S.mul S.q a.1 := by
  have hq := S.q2
  refine ⟨fun i _ e => ?_, fun i j hij hj e => ?_, ?_⟩
  · rw [pw_val] at e
    exact pow_ne hD ha i (eq e)
  · rw [pw_val, pw_val] at e
    exact h.inj hD ha hij hj (eq e)
  · rw [pw_val]
    obtain ⟨k, hk⟩ : ∃ k, S.q - 1 = k + 1 := ⟨S.q - 2, by omega⟩
    have h1 := h.one
    rw [hk] at h1
    rw [show S.q - 2 = k from by omega]
    exact congrArg Subtype.val h1
/-- The powers of a generator are all elements but 0. -/
theorem gen_all {x : Int} (h0 : 0 ≤ x) (hx : x < S.q) (h : IsGen S.mul S.q x) (b : El S) (hb : b ≠ 0) : ∃ i, i < S.q - 1 ∧ pow (mk x h0 hx : El S) i = b := by
  have hv : ∀ i, pw S.mul x i = (pow (mk x h0 hx : El S) i).1 := fun i => pw_val (mk x h0 hx) i
  have hne : ∀ i, i < S.q - 1 → pow (mk x h0 hx : El S) i ≠ 0 := fun i hi e => h.1 i hi (by rw [hv, e]; rfl)
  obtain ⟨i, hi, e⟩ := inj_onto (S.q - 1) (fun i => ((pow (mk x h0 hx : El S) i).1 - 1).toNat) (fun i hi => idx_bd (hne i hi)) (fun i j hij hj e => h.2.1 i j hij hj (by rw [hv, hv, idx_inj (hne i (by omega)) (hne j hj) e])) (b.1 - 1).toNat (idx_bd hb)
  exact ⟨i, hi, idx_inj (hne i hi) hb e⟩
theorem gen_one {x : Int} (h0 : 0 ≤ x) (hx : x < S.q) (h : IsGen S.mul S.q x) : pow (mk x h0 hx : El S) (S.q - 1) = 1 := by
  have hq := S.q2
  obtain ⟨k, hk⟩ : ∃ k, S.q - 1 = k + 1 := ⟨S.q - 2, by omega⟩
  rw [hk]
  apply eq
  have h1 := h.2.2
  rw [show S.q - 2 = k from by omega] at h1
  have : pw S.mul x k = (pow (mk x h0 hx : El S) k).1 := pw_val (mk x h0 hx) k
  rw [this] at h1
  exact h1
theorem gen_dom {x : Int} (h0 : 0 ≤ x) (hx : x < S.q) (h : IsGen S.mul S.q x) : Dom S := by
  intro a b hab
  by_cases ha : a = 0
  · exact .inl ha
  · by_cases hb : b = 0
    · exact .inr hb
    · exfalso
      obtain ⟨i, hi, rfl⟩ := gen_all h0 hx h a ha
      obtain ⟨j, hj, rfl⟩ := gen_all h0 hx h b hb
      have h1 := gen_one h0 hx h
      rw [← pow_add] at hab
      have h2 : pow (mk x h0 hx : El S) ((i + j) + (2 * (S.q - 1) - (i + j))) = 1 := by
        rw [show (i + j) + (2 * (S.q - 1) - (i + j)) = (S.q - 1) * 2 from by omega, pow_mul, h1, one_pow]
      rw [pow_add, hab, zero_mul] at h2
      exact one_ne_zero h2.symm
theorem dom_gen (hD : Dom S) : ∃ x : Int, 1 ≤ x ∧ x < S.q ∧ IsGen S.mul S.q x := by
  obtain ⟨a, ha, h⟩ := ex_gen hD
  exact ⟨a.1, val_pos ha, a.2.2, gen_of_ord hD ha h⟩
end El

end Go.Proofs.Ytjbfccconjjofaa
