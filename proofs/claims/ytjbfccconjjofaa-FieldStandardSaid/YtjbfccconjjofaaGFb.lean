/- Methods of a field that New has made: Add, Neg, Sub. -/
import Derived.Test.YtjbfccconjjofaaGFa
import Derived.Test.YtjbfccconjjofaaPlainD
import Derived.Laws.BitsAllLaws
namespace Go.Proofs.Ytjbfccconjjofaa
open Go.RowKit
attribute [local go_sem ↓] Go.wp_at_zero Go.wp_at_succ

theorem i64_xor (a b : Nat) (ha : a < 256) (hb : b < 256) : bits .xor .i64 (a : Int) (b : Int) = ((a ^^^ b : Nat) : Int) := by
  have hx : a ^^^ b < 2 ^ 8 := Nat.xor_lt_two_pow (by omega) (by omega)
  have e : ∀ n : Nat, n < 256 → (BitVec.ofInt 64 (n : Int)).toNat = n := fun n hn => by
    rw [BitVec.toNat_ofInt]; omega
  show IntKind.i64.wrap ((BitVec.ofInt 64 (a : Int) ^^^ BitVec.ofInt 64 (b : Int)).toNat : Int) = _
  rw [BitVec.toNat_xor, e a ha, e b hb]
  exact IntWalk.i64_in _ (by omega)

set_option maxHeartbeats 2000000 in
theorem gfAdd_calls (g : Nat) (P : Int) (M : Nat) (mod : List Int) (q : Nat) (ex lg : List Int) (p x y : Int) (w : World) (hg : GFat w g P M mod q ex lg) (hm : Made P M mod q p ex lg) :
    Calls Try.prog 22 #[.pointer (some ⟨g, 0, none⟩), .int .i64 x, .int .i64 y] w fun e w' => e = .returned (.int .i64 (addS P M (inn q x) (inn q y))) ∧ Below w.heap.size w w' := by
  have hu := Try.underlying71
  have hu2 := Try.underlying24
  have hq := hm.q256
  have bx := inn_bd (q := (q : Int)) (x := x) (by omega)
  have by_ := inn_bd (q := (q : Int)) (x := y) (by omega)
  obtain ⟨X, HX⟩ : ∃ X : Nat, Hid ((X : Int) = inn q x) := ⟨(inn q x).toNat, Int.toNat_of_nonneg bx.1⟩
  obtain ⟨Y, HY⟩ : ∃ Y : Nat, Hid ((Y : Int) = inn q y) := ⟨(inn q y).toNat, Int.toNat_of_nonneg by_.1⟩
  rw [← HX.out] at bx ⊢
  rw [← HY.out] at by_ ⊢
  have HG := Lib.hid hg
  have HQ := Lib.hid hm.hq
  have hp2 := hm.shp.p2
  have hp256 := hm.shp.p256
  have hM8 := hm.shp.m8
  clear hg hm
  go_enter Try.func22, Try.ntmps22
  go_wp2_with fail
  go_at_call 58
  refine (gfin_calls g P M mod q ex lg x _ HG.out).mono ?_
  rintro e w1 ⟨rfl, hb1⟩
  rw [← HX.out]
  have HG1 := Lib.hid (HG.out.below hb1)
  go_wp2_with fail
  go_at_call 58
  refine (gfin_calls g P M mod q ex lg y _ HG1.out).mono ?_
  rintro e w2 ⟨rfl, hb2⟩
  rw [← HY.out]
  have HG2 := Lib.hid (HG1.out.below hb2)
  have hb3 := below_step hb1 hb2 hb1.size
  obtain ⟨A2, c2, A4, c4, A5, c5, x0, x1, x2, x3, x4, x5, _⟩ := HG2.out.cells
  clear hb1 hb2 x1 x2 x3 x4 x5
  by_cases hP : P = 2
  · subst hP
    have HXO : Hid (bits .xor .i64 (X : Int) (Y : Int) = addS 2 M X Y) := by
      unfold Hid
      have h2 : (q : Nat) = 2 ^ M := by have := HQ.out; exact_mod_cast this
      rw [i64_xor X Y (by omega) (by omega), addS_xor M X Y (by omega) (by omega)]
    go_wp2
    go_ret
    exact ⟨by rw [← HXO.out]; rfl, hb3⟩
  · have hP' : (P == 2) = false := by simpa using hP
    go_wp2
    go_loopg [1, 2, 7, 8] M (fun n a b s pl wr => ∃ x y sm place : Int, n ≤ M ∧ a = .int .i64 x ∧ b = .int .i64 y ∧ s = .int .i64 sm ∧ pl = .int .i64 place ∧ 0 ≤ x ∧ 0 ≤ y ∧ Hid (x < P ^ n) ∧ Hid (y < P ^ n) ∧ x ≤ 255 ∧ y ≤ 255 ∧
      0 ≤ sm ∧ sm < place ∧ 1 ≤ place ∧ place ≤ 256 ∧ Hid (place * P ^ n = P ^ M) ∧ Hid (sm + place * addS P n x y = addS P M X Y) ∧ Below w2.heap.size w2 wr)
    case atStart => exact ⟨X, Y, 0, 1, Nat.le_refl _, rfl, rfl, rfl, rfl, by omega, by omega, by rw [← HQ.out]; exact bx.2, by rw [← HQ.out]; exact by_.2, by omega, by omega, by omega, by omega, by omega, by omega, Int.one_mul _, by unfold Hid; omega, Below.refl _ _⟩
    case round =>
      obtain ⟨x, y, sm, place, hn, rfl, rfl, rfl, rfl, hx0, hy0, HXN, HYN, hx2, hy2, hs0, hs1, hp1, hp3, HPL, HE, hb⟩ := hrel
      obtain ⟨n, rfl⟩ : ∃ n, n = gk := ⟨_, rfl⟩
      have x0' := (hb.cell (p := ⟨g, 0, none⟩) HG2.out.lt).trans x0
      by_cases hxy : 0 < x ∨ 0 < y
      · obtain ⟨n, rfl⟩ : ∃ m, n = m + 1 := ⟨n - 1, by
          have h1 := HXN.out
          have h2 := HYN.out
          by_cases h0 : n = 0
          · subst h0; simp at h1 h2; omega
          · omega⟩
        have hpp := HPL.out
        rw [Int.pow_succ, Int.mul_comm (P ^ n) P, ← Int.mul_assoc] at hpp
        have hpn := pow_ge P hp2 n
        have hpl2 : place * P ≤ 256 := by
          have h1 : place * P * 1 ≤ place * P * P ^ n := Int.mul_le_mul_of_nonneg_left hpn (Int.mul_nonneg (by omega) (by omega))
          have := HQ.out
          omega
        have hpl0 : 1 * 1 ≤ place * P := Int.mul_le_mul hp1 (by omega) (by omega) (by omega)
        have HPP := Lib.hid hpp
        obtain ⟨d, HD⟩ : ∃ d, Hid (d = (x % P + y % P) % P) := ⟨_, rfl⟩
        have hd0 : 0 ≤ d := by rw [HD.out]; exact Int.emod_nonneg _ (by omega)
        have hd1 : d < P := by rw [HD.out]; exact Int.emod_lt_of_pos _ (by omega)
        have hmx0 : 0 ≤ x % P := Int.emod_nonneg _ (by omega)
        have hmx1 : x % P < P := Int.emod_lt_of_pos _ (by omega)
        have hmy0 : 0 ≤ y % P := Int.emod_nonneg _ (by omega)
        have hmy1 : y % P < P := Int.emod_lt_of_pos _ (by omega)
        have hdp0 : 0 ≤ d * place := Int.mul_nonneg hd0 (by omega)
        have hdp1 : d * place ≤ place * P - place := by
          have : d * place ≤ (P - 1) * place := Int.mul_le_mul_of_nonneg_right (by omega) (by omega)
          rw [Int.sub_mul, Int.one_mul, Int.mul_comm P place] at this
          exact this
        clear hpp hpn
        have e1 : IntKind.i64.wrap (x % P + y % P) = x % P + y % P := IntWalk.i64_in _ (by omega)
        have e2 : IntKind.i64.wrap (d * place) = d * place := IntWalk.i64_in _ (by omega)
        have e3 : IntKind.i64.wrap (sm + d * place) = sm + d * place := IntWalk.i64_in _ (by omega)
        have e4 : x.tmod P = x % P := Int.tmod_eq_emod_of_nonneg hx0
        have e5 : y.tmod P = y % P := Int.tmod_eq_emod_of_nonneg hy0
        have e6 : (x % P + y % P).tmod P = d := by rw [HD.out]; exact Int.tmod_eq_emod_of_nonneg (by omega)
        have e7 : ¬ P = 0 := by omega
        have HNX : Hid (x / P < P ^ n) := by
          have := HXN.out
          rw [Int.pow_succ] at this
          exact Int.ediv_lt_of_lt_mul (by omega) this
        have HNY : Hid (y / P < P ^ n) := by
          have := HYN.out
          rw [Int.pow_succ] at this
          exact Int.ediv_lt_of_lt_mul (by omega) this
        have HNE : Hid (sm + d * place + place * P * addS P n (x / P) (y / P) = addS P M X Y) := by
          have h := HE.out
          rw [addS_succ, ← HD.out] at h
          unfold Hid
          rw [← h, Int.mul_add, Int.mul_comm (addS P n (x / P) (y / P)) P, ← Int.mul_assoc, Int.mul_comm place d]
          omega
        have q1 : 0 ≤ x / P := Int.ediv_nonneg hx0 (by omega)
        have q2 : 0 ≤ y / P := Int.ediv_nonneg hy0 (by omega)
        have q3 : x / P ≤ x := Int.ediv_le_self _ hx0
        have q4 : y / P ≤ y := Int.ediv_le_self _ hy0
        by_cases hx1 : 0 < x
        all_goals
          go_wp2
          go_quiet (fail)
          clear e1 e2 e3 e4 e5 e6
          have x0'' : ∀ k, (wr.drewN k).cell? ⟨g, 0, none⟩ = some (.int .i64 P) := fun k => x0'
          go_wp2
          go_roundg n
          case measure => omega
          case rel => exact ⟨x / P, y / P, sm + d * place, place * P, by omega, rfl, rfl, rfl, rfl, q1, q2, HNX.out, HNY.out, by omega, by omega, by omega, by omega, by omega, by omega, HPP.out, HNE.out, below_drewN hb _⟩
      · obtain rfl : x = 0 := by omega
        obtain rfl : y = 0 := by omega
        have HF : Hid (sm = addS P M X Y) := by have := HE.out; rw [addS_00] at this; unfold Hid; omega
        go_wp2
        go_ret
        exact ⟨by rw [← HF.out]; rfl, below_step hb3 hb hb3.size⟩

/-- The negative of the element x. -/
theorem negS_succ (P : Int) (M : Nat) (x : Int) : negS P (M + 1) x = negS P M (x / P) * P + (P - x % P) % P := rfl
theorem negS_0 (P : Int) (_hP : 2 ≤ P) (M : Nat) : negS P M 0 = 0 := by
  induction M with
  | zero => rfl
  | succ M ih => rw [negS_succ]; simp [ih]

set_option maxHeartbeats 2000000 in
theorem gfNeg_calls (g : Nat) (P : Int) (M : Nat) (mod : List Int) (q : Nat) (ex lg : List Int) (p x : Int) (w : World) (hg : GFat w g P M mod q ex lg) (hm : Made P M mod q p ex lg) :
    Calls Try.prog 29 #[.pointer (some ⟨g, 0, none⟩), .int .i64 x] w fun e w' => e = .returned (.int .i64 (negS P M (inn q x))) ∧ Below w.heap.size w w' := by
  have hu := Try.underlying71
  have hu2 := Try.underlying24
  have hq := hm.q256
  have bx := inn_bd (q := (q : Int)) (x := x) (by omega)
  obtain ⟨X, HX⟩ : ∃ X : Nat, Hid ((X : Int) = inn q x) := ⟨(inn q x).toNat, Int.toNat_of_nonneg bx.1⟩
  rw [← HX.out] at bx ⊢
  have HG := Lib.hid hg
  have HQ := Lib.hid hm.hq
  have hp2 := hm.shp.p2
  have hp256 := hm.shp.p256
  have hM8 := hm.shp.m8
  clear hg hm
  go_enter Try.func29, Try.ntmps29
  go_wp2_with fail
  go_at_call 58
  refine (gfin_calls g P M mod q ex lg x _ HG.out).mono ?_
  rintro e w2 ⟨rfl, hb3⟩
  rw [← HX.out]
  have HG2 := Lib.hid (HG.out.below hb3)
  obtain ⟨A2, c2, A4, c4, A5, c5, x0, x1, x2, x3, x4, x5, _⟩ := HG2.out.cells
  clear x1 x2 x3 x4 x5
  go_wp2
  go_loopg [1, 5, 6] M (fun n a s pl wr => ∃ x sm place : Int, n ≤ M ∧ a = .int .i64 x ∧ s = .int .i64 sm ∧ pl = .int .i64 place ∧ 0 ≤ x ∧ Hid (x < P ^ n) ∧ x ≤ 255 ∧
      0 ≤ sm ∧ sm < place ∧ 1 ≤ place ∧ place ≤ 256 ∧ Hid (place * P ^ n = P ^ M) ∧ Hid (sm + place * negS P n x = negS P M X) ∧ Below w2.heap.size w2 wr)
  case atStart => exact ⟨X, 0, 1, Nat.le_refl _, rfl, rfl, rfl, by omega, by rw [← HQ.out]; exact bx.2, by omega, by omega, by omega, by omega, by omega, Int.one_mul _, by unfold Hid; omega, Below.refl _ _⟩
  case round =>
    obtain ⟨x, sm, place, hn, rfl, rfl, rfl, hx0, HXN, hx2, hs0, hs1, hp1, hp3, HPL, HE, hb⟩ := hrel
    obtain ⟨n, rfl⟩ : ∃ n, n = gk := ⟨_, rfl⟩
    have x0' := (hb.cell (p := ⟨g, 0, none⟩) HG2.out.lt).trans x0
    by_cases hxy : 0 < x
    · obtain ⟨n, rfl⟩ : ∃ m, n = m + 1 := ⟨n - 1, by
        have h1 := HXN.out
        by_cases h0 : n = 0
        · subst h0; simp at h1; omega
        · omega⟩
      have hpp := HPL.out
      rw [Int.pow_succ, Int.mul_comm (P ^ n) P, ← Int.mul_assoc] at hpp
      have hpn := pow_ge P hp2 n
      have hpl2 : place * P ≤ 256 := by
        have h1 : place * P * 1 ≤ place * P * P ^ n := Int.mul_le_mul_of_nonneg_left hpn (Int.mul_nonneg (by omega) (by omega))
        have := HQ.out
        omega
      have hpl0 : 1 * 1 ≤ place * P := Int.mul_le_mul hp1 (by omega) (by omega) (by omega)
      have HPP := Lib.hid hpp
      obtain ⟨d, HD⟩ : ∃ d, Hid (d = (P - x % P) % P) := ⟨_, rfl⟩
      have hd0 : 0 ≤ d := by rw [HD.out]; exact Int.emod_nonneg _ (by omega)
      have hd1 : d < P := by rw [HD.out]; exact Int.emod_lt_of_pos _ (by omega)
      have hmx0 : 0 ≤ x % P := Int.emod_nonneg _ (by omega)
      have hmx1 : x % P < P := Int.emod_lt_of_pos _ (by omega)
      have hdp0 : 0 ≤ d * place := Int.mul_nonneg hd0 (by omega)
      have hdp1 : d * place ≤ place * P - place := by
        have : d * place ≤ (P - 1) * place := Int.mul_le_mul_of_nonneg_right (by omega) (by omega)
        rw [Int.sub_mul, Int.one_mul, Int.mul_comm P place] at this
        exact this
      clear hpp hpn
      have e1 : IntKind.i64.wrap (P - x % P) = P - x % P := IntWalk.i64_in _ (by omega)
      have e2 : IntKind.i64.wrap (d * place) = d * place := IntWalk.i64_in _ (by omega)
      have e3 : IntKind.i64.wrap (sm + d * place) = sm + d * place := IntWalk.i64_in _ (by omega)
      have e4 : x.tmod P = x % P := Int.tmod_eq_emod_of_nonneg hx0
      have e6 : (P - x % P).tmod P = d := by rw [HD.out]; exact Int.tmod_eq_emod_of_nonneg (by omega)
      have e7 : ¬ P = 0 := by omega
      have HNX : Hid (x / P < P ^ n) := by
        have := HXN.out
        rw [Int.pow_succ] at this
        exact Int.ediv_lt_of_lt_mul (by omega) this
      have HNE : Hid (sm + d * place + place * P * negS P n (x / P) = negS P M X) := by
        have h := HE.out
        rw [negS_succ, ← HD.out] at h
        unfold Hid
        rw [← h, Int.mul_add, Int.mul_comm (negS P n (x / P)) P, ← Int.mul_assoc, Int.mul_comm place d]
        omega
      have q1 : 0 ≤ x / P := Int.ediv_nonneg hx0 (by omega)
      have q3 : x / P ≤ x := Int.ediv_le_self _ hx0
      go_wp2
      go_quiet (fail)
      clear e1 e2 e3 e4 e6
      have x0'' : ∀ k, (wr.drewN k).cell? ⟨g, 0, none⟩ = some (.int .i64 P) := fun k => x0'
      go_wp2
      go_roundg n
      case measure => omega
      case rel => exact ⟨x / P, sm + d * place, place * P, by omega, rfl, rfl, rfl, q1, HNX.out, by omega, by omega, by omega, by omega, by omega, HPP.out, HNE.out, below_drewN hb _⟩
    · obtain rfl : x = 0 := by omega
      have HF : Hid (sm = negS P M X) := by have := HE.out; rw [negS_0 P hp2] at this; unfold Hid; omega
      go_wp2
      go_ret
      exact ⟨by rw [← HF.out]; rfl, below_step hb3 hb hb3.size⟩

set_option maxHeartbeats 400000 in
theorem gfSub_calls (g : Nat) (P : Int) (M : Nat) (mod : List Int) (q : Nat) (ex lg : List Int) (p x y : Int) (w : World) (hg : GFat w g P M mod q ex lg) (hm : Made P M mod q p ex lg) :
    Calls Try.prog 31 #[.pointer (some ⟨g, 0, none⟩), .int .i64 x, .int .i64 y] w fun e w' => e = .returned (.int .i64 (addS P M (inn q x) (negS P M (inn q y)))) ∧ Below w.heap.size w w' := by
  have HI : Hid (inn q (negS P M (inn q y)) = negS P M (inn q y)) := inn_yes (negS_bd P hm.shp.p2 M _).1 (by rw [hm.hq]; exact (negS_bd P hm.shp.p2 M _).2)
  have HG := Lib.hid hg
  have HM := Lib.hid hm
  clear hg hm
  go_enter Try.func31, Try.ntmps31
  go_wp2_with fail
  go_at_call 29
  refine (gfNeg_calls g P M mod q ex lg p y _ HG.out HM.out).mono ?_
  rintro e w2 ⟨rfl, hb2⟩
  have HG2 := Lib.hid (HG.out.below hb2)
  go_wp2_with fail
  go_at_call 22
  refine (gfAdd_calls g P M mod q ex lg p x _ _ HG2.out HM.out).mono ?_
  rintro e w3 ⟨rfl, hb3⟩
  go_wp2
  go_ret
  exact ⟨by rw [HI.out]; rfl, below_step hb2 hb3 hb2.size⟩

end Go.Proofs.Ytjbfccconjjofaa
