/- order, isPrime, shape and multiply of the package field, over all descriptions in range. -/
import Derived.Test.YtjbfccconjjofaaMultA
namespace Go.Proofs.Ytjbfccconjjofaa
open Go.RowKit
attribute [local go_sem ↓] Go.wp_at_zero Go.wp_at_succ

theorem multiply_calls (P : Int) (M : Nat) (A : Option Addr) (mod : List Int) (c : Nat) (x y : Int) (w : World) (hr : Rd w A mod) (hs : Shp P M mod) (hx : 0 ≤ x) (hx2 : x < P ^ M) (hy : 0 ≤ y) (hy2 : y < P ^ M) :
    Calls Try.prog 71 #[.agg #[.int .i64 P, .int .i64 M, .slice A mod.length c], .int .i64 x, .int .i64 y] w fun e w' => e = .returned (.int .i64 (mulS P M (lowOf M mod) x y)) ∧ Below w.heap.size w w' := by
  by_cases h1 : M = 1
  · subst h1
    obtain rfl := hs.one rfl
    rw [Int.pow_succ, Int.pow_zero, Int.one_mul] at hx2 hy2
    exact multiply1_calls P A 0 c x y w hs.p2 hs.p256 hx hx2 hy hy2
  · have hl := hs.len h1
    have e : lowOf M mod = mod := by unfold lowOf; rw [if_neg h1]
    rw [e, hl]
    exact multiply2_calls P M A mod c x y w hr hl hs.dig hs.p2 hs.p256 hs.m8 hs.q (by have := hs.m1; omega) hx hx2 hy hy2

set_option maxHeartbeats 400000 in
theorem order_calls (P M : Int) (w : World) :
    Calls Try.prog 66 #[.int .i64 P, .int .i64 M] w fun e w' => e = .returned (.int .i64 (ord P M)) ∧ Below w.heap.size w w' := by
  by_cases hP : P < 2
  · have HO := Lib.hid (ord_bad P M (.inl hP))
    go_enter Try.func66, Try.ntmps66
    go_wp2
    go_ret
    exact ⟨by rw [HO.out]; rfl, Below.refl _ _⟩
  by_cases hP2 : 256 < P
  · have HO := Lib.hid (ord_bigP P M hP2)
    go_enter Try.func66, Try.ntmps66
    go_wp2
    go_ret
    exact ⟨by rw [HO.out]; rfl, Below.refl _ _⟩
  by_cases hM : M < 1
  · have HO := Lib.hid (ord_bad P M (.inr (.inl hM)))
    go_enter Try.func66, Try.ntmps66
    go_wp2
    go_ret
    exact ⟨by rw [HO.out]; rfl, Below.refl _ _⟩
  by_cases hM2 : 8 < M
  · have HO := Lib.hid (ord_bad P M (.inr (.inr hM2)))
    go_enter Try.func66, Try.ntmps66
    go_wp2
    go_ret
    exact ⟨by rw [HO.out]; rfl, Below.refl _ _⟩
  go_enter Try.func66, Try.ntmps66
  go_wp2
  go_loop [5, 21] (fun q i => ∃ (k : Nat) (y : Int), (k : Int) ≤ M ∧ i = .int .i64 k ∧ q = .int .i64 y ∧ 1 ≤ y ∧ y ≤ 256 ∧ Hid (y = P ^ k)) (fun _ i => M.toNat - (intOf i).toNat)
  case atStart => exact ⟨0, 1, by omega, rfl, rfl, by omega, by omega, by simp [Hid]⟩
  case round =>
    obtain ⟨k, y, hk, rfl, rfl, hy1, hy2, HY⟩ := hrel
    by_cases hlt : (k : Int) < M
    · have hm1 : 1 * 1 ≤ y * P := Int.mul_le_mul hy1 (by omega) (by omega) (by omega)
      have hm2 : y * P ≤ 256 * 256 := Int.mul_le_mul hy2 (by omega) (by omega) (by omega)
      by_cases hg : 256 < y * P
      · have HO := Lib.hid (ord_big P M (k + 1) (by omega) (by omega) (by rw [Int.pow_succ, ← HY.out]; exact hg))
        go_wp2
        go_ret
        exact ⟨by rw [HO.out]; rfl, Below.refl _ _⟩
      · obtain ⟨z, HZ⟩ : ∃ z, Hid (z = y * P) := ⟨_, rfl⟩
        have hz1 : 1 ≤ z := by rw [HZ.out]; omega
        have hz2 : z ≤ 256 := by rw [HZ.out]; omega
        go_wp2
        go_round
        case rel => exact ⟨k + 1, z, by omega, by go_num, by rw [HZ.out], hz1, hz2, by unfold Hid; rw [HZ.out, HY.out, Int.pow_succ]⟩
        case measure => simp [intOf]; omega
    · have hkM : M.toNat = k := by omega
      have HO := Lib.hid (ord_eq P M (by omega) (by omega) (by omega) (by rw [hkM, ← HY.out]; exact hy2))
      have HK := Lib.hid hkM
      clear hkM
      go_wp2
      go_ret
      exact ⟨by rw [HO.out, HK.out, HY.out]; rfl, Below.refl _ _⟩

set_option maxHeartbeats 400000 in
theorem isPrime_calls (n : Int) (w : World) (hn : 2 ≤ n) (hn2 : n ≤ 256) :
    Calls Try.prog 69 #[.int .i64 n] w fun e w' => BoolIs (Prm n) w e w' := by
  go_enter Try.func69, Try.ntmps69
  go_wp2
  go_loop [3] (fun d => ∃ k : Int, d = .int .i64 k ∧ 2 ≤ k ∧ k ≤ n + 1 ∧ Hid (∀ d : Int, 2 ≤ d → d < k → n % d ≠ 0 ∨ n < d * d)) (fun d => (n + 1 - intOf d).toNat)
  case atStart => exact ⟨2, rfl, by omega, by omega, fun d h1 h2 => by omega⟩
  case round =>
    obtain ⟨k, rfl, hk1, hk2, HP⟩ := hrel
    have hb1 : 2 * 2 ≤ k * k := Int.mul_le_mul hk1 hk1 (by omega) (by omega)
    have hb2 : k * k ≤ 257 * 257 := Int.mul_le_mul (by omega) (by omega) (by omega) (by omega)
    by_cases hlt : k * k ≤ n
    · have hkn : k < n := by
        have h3 : k * 2 ≤ k * k := Int.mul_le_mul_of_nonneg_left hk1 (by omega)
        omega
      by_cases hz : n % k = 0
      · have HZ := Lib.hid hz
        have hz' : (n % k == 0) = true := by simpa using hz
        clear hz
        go_wp2
        go_ret
        exact BoolIs.no (fun h => absurd HZ.out (h.2 k hk1 hkn)) (Below.refl _ _)
      · have hz' : (n % k == 0) = false := by simpa using hz
        have HZ := Lib.hid hz
        clear hz
        go_wp2
        go_round
        case rel =>
          refine ⟨k + 1, rfl, by omega, by omega, fun d h1 h2 => ?_⟩
          by_cases hd : d = k
          · rw [hd]; exact .inl HZ.out
          · exact HP.out d h1 (by omega)
        case measure => simp [intOf]; omega
    · have HF := Lib.hid (prm_of_sq n hn fun d h1 h2 => by
        by_cases hd : d < k
        · rcases HP.out d h1 hd with h | h
          · exact h
          · omega
        · have h3 : k * k ≤ d * d := Int.mul_le_mul (by omega) (by omega) (by omega) (by omega)
          omega)
      go_wp2
      go_ret
      exact BoolIs.yes HF.out (Below.refl _ _)

theorem ord_pos (P M : Int) (h : ord P M ≠ 0) : 2 ≤ P ∧ P ≤ 256 ∧ 1 ≤ M ∧ M ≤ 8 ∧ P ^ M.toNat ≤ 256 := by
  by_cases h1 : 256 < P
  · exact absurd (ord_bigP P M h1) h
  · unfold ord at h
    split at h
    · rename_i h2; exact ⟨h2.1, by omega, h2.2⟩
    · exact absurd rfl h

set_option maxHeartbeats 1000000 in
theorem shape_calls (P M : Int) (A : Option Addr) (c : Nat) (mod : List Int) (w : World) (hr : Rd w A mod) :
    Calls Try.prog 65 #[.agg #[.int .i64 P, .int .i64 M, .slice A mod.length c]] w fun e w' => BoolIs (∃ m : Nat, M = m ∧ Shp P m mod) w e w' := by
  have hu := Try.underlying24
  have HR := Lib.hid hr
  clear hr
  obtain ⟨n, HN⟩ : ∃ n, Hid (n = mod.length) := ⟨_, rfl⟩
  rw [← HN.out]
  by_cases hO : ord P M = 0
  · have HO := Lib.hid hO
    have hO' : (ord P M == 0) = true := by simpa using hO
    clear hO
    go_enter Try.func65, Try.ntmps65
    go_wp2_with (go_at_call 66; refine (order_calls _ _ _).mono ?_; rintro e w1 ⟨rfl, hb1⟩)
    go_ret
    refine BoolIs.no ?_ (below_box hb1)
    rintro ⟨m, rfl, hs⟩
    have := HO.out
    rw [hs.ord] at this
    have := pow_ge P hs.p2 m
    omega
  · have HB := Lib.hid (ord_pos P M hO)
    have hO' : (ord P M == 0) = false := by simpa using hO
    clear hO
    go_enter Try.func65, Try.ntmps65
    go_wp2_with fail
    go_at_call 66
    refine (order_calls _ _ _).mono ?_
    rintro e w1 ⟨rfl, hb1⟩
    obtain ⟨x0, x1, x2, hs1⟩ := box3 hb1
    go_wp2_with fail
    go_at_call 69
    refine (isPrime_calls P _ HB.out.1 HB.out.2.1).mono ?_
    rintro e w2 ⟨b, rfl, hb, hb2⟩
    have hb3 := below_step hb1 hb2 (by simpa using hs1)
    clear x0 x1 x2
    obtain ⟨x0, x1, x2, hs2⟩ := box3 hb3
    have HBP := Lib.hid hb
    clear hb hb1 hb2
    cases b
    · go_wp2
      go_ret
      refine BoolIs.no ?_ (below_box hb3)
      rintro ⟨m, rfl, hs⟩
      exact absurd (HBP.out.2 hs.prm) (by simp)
    · have HPR := Lib.hid (HBP.out.1 rfl)
      by_cases hM : M = 1
      · subst hM
        by_cases hn : n = 0
        · have hn' : ((n : Int) == 0) = true := by simp [hn]
          have HN0 := Lib.hid hn
          clear hn
          go_wp2
          go_ret
          refine BoolIs.yes ?_ (below_box hb3)
          have hm0 : mod = [] := List.eq_nil_of_length_eq_zero (by rw [← HN.out]; exact HN0.out)
          exact ⟨1, rfl, HPR.out, Nat.le_refl _, by omega, by simpa using HB.out.2.2.2.2, fun _ => hm0, fun h => absurd rfl h, by rw [hm0]; exact Dig.nil P⟩
        · have hn' : ((n : Int) == 0) = false := by simp [hn]
          have HN0 := Lib.hid hn
          clear hn
          go_wp2
          go_ret
          refine BoolIs.no ?_ (below_box hb3)
          rintro ⟨m, hm, hs⟩
          have : mod = [] := hs.one (by omega)
          exact HN0.out (by rw [HN.out, this]; rfl)
      · obtain ⟨m, rfl⟩ : ∃ m : Nat, M = m := ⟨M.toNat, by have := HB.out.2.2.1; omega⟩
        have hM' : ((m : Int) == 1) = false := by simpa using hM
        by_cases hn : n = m
        · subst hn
          have hn' : ((n : Int) != (n : Int)) = false := by simp
          have hmod := HR.out.1
          rw [← HN.out] at hmod
          go_wp2
          go_loop [33] (fun i => ∃ k : Nat, k ≤ n ∧ i = .int .i64 k ∧ Hid (∀ j, j < k → 0 ≤ mod.getD j 0 ∧ mod.getD j 0 < P)) (fun i => n - (intOf i).toNat)
          case atStart => exact ⟨0, Nat.zero_le _, rfl, fun j hj => absurd hj (by omega)⟩
          case round =>
            obtain ⟨k, hk, rfl, HK⟩ := hrel
            by_cases hlt : k < n
            · obtain ⟨ad, rfl, hl, hc⟩ := ((HR.out.alloc _).below hb3 (Nat.le_refl _)).2 (by rw [← HN.out]; omega)
              have hcc := hc k (by rw [← HN.out]; exact hlt)
              clear hc hl
              obtain ⟨u, HU⟩ : ∃ u, Hid (u = mod.getD k 0) := ⟨_, rfl⟩
              rw [← HU.out] at hcc
              by_cases h0 : u < 0
              · go_wp2
                go_ret
                refine BoolIs.no ?_ (below_box hb3)
                rintro ⟨m, hm, hs⟩
                have := hs.dig k (by rw [← HN.out]; exact hlt)
                rw [← HU.out] at this
                omega
              · by_cases h1 : u < P
                · go_wp2
                  go_round
                  case rel =>
                    refine ⟨k + 1, by omega, by go_num, fun j hj => ?_⟩
                    by_cases hjk : j = k
                    · subst hjk; rw [← HU.out]; omega
                    · exact HK.out j (by omega)
                  case measure => simp [intOf]; omega
                · go_wp2
                  go_ret
                  refine BoolIs.no ?_ (below_box hb3)
                  rintro ⟨m, hm, hs⟩
                  have := hs.dig k (by rw [← HN.out]; exact hlt)
                  rw [← HU.out] at this
                  omega
            · obtain rfl : k = n := by omega
              go_wp2
              go_ret
              refine BoolIs.yes ?_ (below_box hb3)
              exact ⟨k, rfl, HPR.out, by have := HB.out.2.2.1; omega, by have := HB.out.2.2.2.1; omega, by simpa using HB.out.2.2.2.2, fun h => absurd (by omega) hM, fun _ => HN.out.symm, fun j hj => HK.out j (by rw [HN.out]; exact hj)⟩
        · have hn' : ((n : Int) != (m : Int)) = true := by simp; omega
          have HN0 := Lib.hid hn
          clear hn
          go_wp2
          go_ret
          refine BoolIs.no ?_ (below_box hb3)
          rintro ⟨m', hm, hs⟩
          obtain rfl : m' = m := by omega
          exact HN0.out (by rw [HN.out]; exact hs.len (by omega))

end Go.Proofs.Ytjbfccconjjofaa
