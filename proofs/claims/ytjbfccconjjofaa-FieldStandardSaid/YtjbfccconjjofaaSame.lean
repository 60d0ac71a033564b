/- The comparisons of two descriptions, and the law on them. -/
import Derived.Test.YtjbfccconjjofaaLawKit
namespace Go.Proofs.Ytjbfccconjjofaa
open Go.RowKit
attribute [local go_sem ↓] Go.wp_at_zero Go.wp_at_succ

set_option maxHeartbeats 1000000 in
theorem same_calls (P M : Int) (A : Option Addr) (c : Nat) (mod : List Int) (P' M' : Int) (B : Option Addr) (d : Nat) (mod' : List Int) (w : World) (hr : Rd w A mod) (hr' : Rd w B mod') :
    Calls Try.prog 26 #[.agg #[.int .i64 P, .int .i64 M, .slice A mod.length c], .agg #[.int .i64 P', .int .i64 M', .slice B mod'.length d]] w fun e w' => BoolIs (P = P' ∧ M = M' ∧ mod = mod') w e w' := by
  have hu := Try.underlying24
  have HR := Lib.hid hr
  have HR' := Lib.hid hr'
  clear hr hr'
  obtain ⟨n, HN⟩ : ∃ n, Hid (n = mod.length) := ⟨_, rfl⟩
  obtain ⟨n', HN'⟩ : ∃ n, Hid (n = mod'.length) := ⟨_, rfl⟩
  rw [← HN.out, ← HN'.out]
  have hln : n ≤ 140737488351232 := by rw [HN.out]; exact HR.out.1
  by_cases hP : P = P'
  rotate_left
  · have hPd : (P == P') = false := by simpa using hP
    have HP := Lib.hid hP
    clear hP
    go_enter Try.func26, Try.ntmps26
    go_wp2
    go_ret
    exact BoolIs.no (fun h => HP.out h.1) (((Below.refl _ _).alloc (Nat.le_refl _) _).alloc (by simp) _)
  subst hP
  by_cases hM : M = M'
  rotate_left
  · have hMd : (M == M') = false := by simpa using hM
    have HM := Lib.hid hM
    clear hM
    go_enter Try.func26, Try.ntmps26
    go_wp2
    go_ret
    exact BoolIs.no (fun h => HM.out h.2.1) (((Below.refl _ _).alloc (Nat.le_refl _) _).alloc (by simp) _)
  subst hM
  by_cases hn : n = n'
  rotate_left
  · have hnd : ((n : Int) == (n' : Int)) = false := by simp; omega
    have HX := Lib.hid hn
    clear hn
    go_enter Try.func26, Try.ntmps26
    go_wp2
    go_ret
    exact BoolIs.no (fun h => HX.out (by rw [HN.out, HN'.out, h.2.2])) (((Below.refl _ _).alloc (Nat.le_refl _) _).alloc (by simp) _)
  subst hn
  go_enter Try.func26, Try.ntmps26
  go_wp2
  go_loopg [31] n (fun g i wr => ∃ k : Nat, k ≤ n ∧ g = n - k ∧ i = .int .i64 k ∧ Hid (∀ j, j < k → mod.getD j 0 = mod'.getD j 0) ∧ Below ((w.alloc (.cells #[.int .i64 P, .int .i64 M, .slice A n c] 24)).alloc (.cells #[.int .i64 P, .int .i64 M, .slice B n d] 24)).heap.size ((w.alloc (.cells #[.int .i64 P, .int .i64 M, .slice A n c] 24)).alloc (.cells #[.int .i64 P, .int .i64 M, .slice B n d] 24)) wr)
  case atStart => exact ⟨0, Nat.zero_le _, rfl, rfl, fun j h => by omega, Below.refl _ _⟩
  case round =>
    obtain ⟨k, hk, HGQ, rfl, HK, hb⟩ := hrel
    replace HGQ := Lib.hid HGQ
    have hB := below_box hb
    obtain ⟨x0, x1, x2, _⟩ := box3 hB
    have hy := box3 hb
    rw [World.size_alloc] at hy
    obtain ⟨y0, y1, y2, _⟩ := hy
    by_cases hlt : k < n
    · obtain ⟨ad, rfl, hc⟩ := ((HR.out.alloc _).below hB (Nat.le_refl _)).get k (by rw [← HN.out]; exact hlt)
      obtain ⟨ad', rfl, hc'⟩ := ((HR'.out.alloc _).below hB (Nat.le_refl _)).get k (by rw [← HN'.out]; exact hlt)
      obtain ⟨u, HU⟩ : ∃ z, Hid (z = mod.getD k 0) := ⟨_, rfl⟩
      obtain ⟨v, HV⟩ : ∃ z, Hid (z = mod'.getD k 0) := ⟨_, rfl⟩
      rw [← HU.out] at hc
      rw [← HV.out] at hc'
      have i0 : (k : Int) < (n : Int) := by omega
      have i1 : (0 : Int) ≤ (k : Int) := by omega
      have HB := Lib.hid hb
      clear hb hB
      by_cases he : u = v
      · have HE : Hid (mod.getD k 0 = mod'.getD k 0) := by unfold Hid; rw [← HU.out, ← HV.out]; exact he
        subst he
        go_wp2
        go_roundg (n - (k + 1))
        case rel =>
          refine ⟨k + 1, by omega, rfl, by go_num, fun j hj => ?_, by first | exact HB.out | exact below_drewN HB.out _⟩
          by_cases hjk : j = k
          · rw [hjk]; exact HE.out
          · exact HK.out j (by omega)
        case measure => have := HGQ.out; omega
      · have HE : Hid (mod.getD k 0 ≠ mod'.getD k 0) := by unfold Hid; rw [← HU.out, ← HV.out]; exact he
        have hed : (v == u) = false := by simp; omega
        have hed' : (u == v) = false := by simp; omega
        clear he
        go_wp2
        go_ret
        exact BoolIs.no (fun h => HE.out (by rw [h.2.2])) (by first | exact below_box (below_box HB.out) | exact below_box (below_box (below_drewN HB.out _)))
    · obtain rfl : k = n := by omega
      have HB := Lib.hid hb
      clear hb hB
      go_wp2
      go_ret
      refine BoolIs.yes ⟨by first | rfl | trivial, by first | rfl | trivial, ?_⟩ (below_box (below_box HB.out))
      refine List.ext_getElem (by rw [← HN.out, ← HN'.out]) fun j h1 h2 => ?_
      have := HK.out j (by rw [HN.out]; exact h1)
      simpa [List.getD_eq_getElem?_getD, h1, h2] using this

set_option maxHeartbeats 1000000 in
theorem refSame_calls (P M : Int) (A : Option Addr) (c : Nat) (mod : List Int) (P' M' : Int) (B : Option Addr) (d : Nat) (mod' : List Int) (w : World) (hr : Rd w A mod) (hr' : Rd w B mod') :
    Calls Try.prog 27 #[.agg #[.int .i64 P, .int .i64 M, .slice A mod.length c], .agg #[.int .i64 P', .int .i64 M', .slice B mod'.length d]] w fun e w' => BoolIs (P = P' ∧ M = M' ∧ mod = mod') w e w' := by
  have hu := Try.underlying24
  have HR := Lib.hid hr
  have HR' := Lib.hid hr'
  clear hr hr'
  obtain ⟨n, HN⟩ : ∃ n, Hid (n = mod.length) := ⟨_, rfl⟩
  obtain ⟨n', HN'⟩ : ∃ n, Hid (n = mod'.length) := ⟨_, rfl⟩
  rw [← HN.out, ← HN'.out]
  have hln : n ≤ 140737488351232 := by rw [HN.out]; exact HR.out.1
  by_cases hP : P = P'
  rotate_left
  · have hPd : (P == P') = false := by simpa using hP
    have HP := Lib.hid hP
    clear hP
    go_enter Try.func27, Try.ntmps27
    go_wp2
    go_ret
    exact BoolIs.no (fun h => HP.out h.1) (((Below.refl _ _).alloc (Nat.le_refl _) _).alloc (by simp) _)
  subst hP
  by_cases hM : M = M'
  rotate_left
  · have hMd : (M == M') = false := by simpa using hM
    have HM := Lib.hid hM
    clear hM
    go_enter Try.func27, Try.ntmps27
    go_wp2
    go_ret
    exact BoolIs.no (fun h => HM.out h.2.1) (((Below.refl _ _).alloc (Nat.le_refl _) _).alloc (by simp) _)
  subst hM
  by_cases hn : n = n'
  rotate_left
  · have hnd : ((n : Int) == (n' : Int)) = false := by simp; omega
    have HX := Lib.hid hn
    clear hn
    go_enter Try.func27, Try.ntmps27
    go_wp2
    go_ret
    exact BoolIs.no (fun h => HX.out (by rw [HN.out, HN'.out, h.2.2])) (((Below.refl _ _).alloc (Nat.le_refl _) _).alloc (by simp) _)
  subst hn
  go_enter Try.func27, Try.ntmps27
  go_wp2
  go_loopg [5] n (fun g i wr => ∃ k : Nat, k ≤ n ∧ g = n - k ∧ i = .int .i64 k ∧ Hid (∀ j, j < k → mod.getD j 0 = mod'.getD j 0) ∧ Below ((w.alloc (.cells #[.int .i64 P, .int .i64 M, .slice A n c] 24)).alloc (.cells #[.int .i64 P, .int .i64 M, .slice B n d] 24)).heap.size ((w.alloc (.cells #[.int .i64 P, .int .i64 M, .slice A n c] 24)).alloc (.cells #[.int .i64 P, .int .i64 M, .slice B n d] 24)) wr)
  case atStart => exact ⟨0, Nat.zero_le _, rfl, rfl, fun j h => by omega, Below.refl _ _⟩
  case round =>
    obtain ⟨k, hk, HGQ, rfl, HK, hb⟩ := hrel
    replace HGQ := Lib.hid HGQ
    have hB := below_box hb
    obtain ⟨x0, x1, x2, _⟩ := box3 hB
    have hy := box3 hb
    rw [World.size_alloc] at hy
    obtain ⟨y0, y1, y2, _⟩ := hy
    by_cases hlt : k < n
    · obtain ⟨ad, rfl, hc⟩ := ((HR.out.alloc _).below hB (Nat.le_refl _)).get k (by rw [← HN.out]; exact hlt)
      obtain ⟨ad', rfl, hc'⟩ := ((HR'.out.alloc _).below hB (Nat.le_refl _)).get k (by rw [← HN'.out]; exact hlt)
      obtain ⟨u, HU⟩ : ∃ z, Hid (z = mod.getD k 0) := ⟨_, rfl⟩
      obtain ⟨v, HV⟩ : ∃ z, Hid (z = mod'.getD k 0) := ⟨_, rfl⟩
      rw [← HU.out] at hc
      rw [← HV.out] at hc'
      have i0 : (k : Int) < (n : Int) := by omega
      have i1 : (0 : Int) ≤ (k : Int) := by omega
      have HB := Lib.hid hb
      clear hb hB
      by_cases he : u = v
      · have HE : Hid (mod.getD k 0 = mod'.getD k 0) := by unfold Hid; rw [← HU.out, ← HV.out]; exact he
        subst he
        go_wp2
        go_quiet (fail)
        go_wp2
        go_roundg (n - (k + 1))
        case rel =>
          refine ⟨k + 1, by omega, rfl, by go_num, fun j hj => ?_, by first | exact HB.out | exact below_drewN HB.out _⟩
          by_cases hjk : j = k
          · rw [hjk]; exact HE.out
          · exact HK.out j (by omega)
        case measure => have := HGQ.out; omega
      · have HE : Hid (mod.getD k 0 ≠ mod'.getD k 0) := by unfold Hid; rw [← HU.out, ← HV.out]; exact he
        have hed : (v == u) = false := by simp; omega
        have hed' : (u == v) = false := by simp; omega
        clear he
        go_wp2
        go_quiet (fail)
        go_wp2
        go_ret
        exact BoolIs.no (fun h => HE.out (by rw [h.2.2])) (by first | exact below_box (below_box HB.out) | exact below_box (below_box (below_drewN HB.out _)))
    · obtain rfl : k = n := by omega
      have HB := Lib.hid hb
      clear hb hB
      go_wp2
      go_ret
      refine BoolIs.yes ⟨by first | rfl | trivial, by first | rfl | trivial, ?_⟩ (below_box (below_box HB.out))
      refine List.ext_getElem (by rw [← HN.out, ← HN'.out]) fun j h1 h2 => ?_
      have := HK.out j (by rw [HN.out]; exact h1)
      simpa [List.getD_eq_getElem?_getD, h1, h2] using this

end Go.Proofs.Ytjbfccconjjofaa
