/- The standard field of an order: the reference's. -/
import Derived.Test.YtjbfccconjjofaaStd
namespace Go.Proofs.Ytjbfccconjjofaa
open Go.RowKit
attribute [local go_sem ↓] Go.wp_at_zero Go.wp_at_succ

set_option maxHeartbeats 4000000 in
theorem refStandard_calls (q : Int) (w : World) : Calls Try.prog 57 #[.int .i64 q] w fun e w' => StdRet q (.bool true) (.bool false) w e w' := by
  have hu := Try.underlying24
  by_cases hq : q < 2 ∨ 256 < q
  · have HNO : Hid (∀ P m mod, ¬ Std q P m mod) := by rintro P m mod ⟨h1, h2, _⟩; omega
    rcases hq with hq | hq
    all_goals
      go_enter Try.func57, Try.ntmps57
      go_wp2
      refine bodyPost_ret (v := .tuple #[.agg #[.int .i64 0, .int .i64 0, .slice none 0 0], .bool false]) (by simp [results, Try.results57, go_sem]) rfl (StdRet.none HNO.out ?_)
      first | exact ((((Below.refl _ _).alloc (Nat.le_refl _) _).setCell (Nat.le_refl _) _).setCell (Nat.le_refl _) _).setCell (Nat.le_refl _) _ | exact (Below.refl _ _).alloc (Nat.le_refl _) _
  have hq1 : 2 ≤ q := by omega
  have hq2 : q ≤ 256 := by omega
  clear hq
  obtain ⟨g, HG⟩ : ∃ g, Hid (g = w.heap.size) := ⟨_, rfl⟩
  obtain ⟨wB, HWB⟩ : ∃ wB, Hid (wB = w.alloc (.cells #[.int .i64 0, .int .i64 0, .slice none 0 0] 24)) := ⟨_, rfl⟩
  have HZB : Hid (wB.heap[g]? = some (.cells #[.int .i64 0, .int .i64 0, .slice none 0 0] 24 (0, 0))) := by rw [HWB.out, HG.out]; exact heap_alloc_new _ _
  have HBW : Hid (Below w.heap.size w wB) := by rw [HWB.out]; exact (Below.refl _ _).alloc (Nat.le_refl _) _
  have HGS : Hid (w.heap.size ≤ g) := by rw [HG.out]; exact Nat.le_refl _
  go_enter Try.func57, Try.ntmps57
  go_wp2
  rw [← HWB.out, ← HG.out]
  clear HWB HG
  go_loopg [4] (9 - 1) (fun g2 t wr => ∃ m : Nat, 1 ≤ m ∧ m ≤ 9 ∧ g2 = 9 - m ∧ t = .int .i64 m ∧ Hid (∀ i : Nat, 1 ≤ i → i < m → ∀ p : Int, 2 ≤ p → p ≤ q → ¬ Ans q i p) ∧ Below wB.heap.size wB wr)
  case atStart => exact ⟨1, Nat.le_refl _, by omega, rfl, rfl, fun i h1 h2 => by omega, Below.refl _ _⟩
  case round =>
    obtain ⟨m, hm1, hm9, HGQ, rfl, HM, hb⟩ := hrel
    replace HGQ := Lib.hid HGQ
    have HB := Lib.hid hb
    clear hb
    by_cases hm8 : m ≤ 8
    rotate_left
    · have HNO : Hid (∀ P m' mod, ¬ Std q P m' mod) := fun P m' mod h => by
        obtain ⟨_, _, b3, b4, b5, b6⟩ := h.base
        exact HM.out m' b3 (by omega) P b5 b6 h.ans
      have hz := (HB.out.block g (Array.getElem?_eq_some_iff.1 HZB.out).1).trans HZB.out
      obtain ⟨⟨z0, z1, z2⟩, f0, f1, f2⟩ := threeAt hz
      obtain ⟨s0, s1, s2⟩ := setThree hz (.int .i64 0) (.int .i64 0) (.slice none 0 0)
      go_wp2
      refine bodyPost_ret (v := .tuple #[.agg #[.int .i64 0, .int .i64 0, .slice none 0 0], .bool false]) (by simp [results, Try.results57, go_sem, s0, s1, s2]) rfl (StdRet.none HNO.out ?_)
      exact (((below_step HBW.out HB.out HBW.out.size).setCell HGS.out _).setCell HGS.out _).setCell HGS.out _
    have hm8d : decide ((m : Int) ≤ 8) = true := by simp; omega
    go_wp2
    go_loopg [5] (q + 1 - 2).toNat (fun g2 t wr => ∃ p : Int, 2 ≤ p ∧ p ≤ q + 1 ∧ g2 = (q + 1 - p).toNat ∧ t = .int .i64 p ∧ Hid (∀ p' : Int, 2 ≤ p' → p' < p → ¬ Ans q m p') ∧ Below wB.heap.size wB wr)
    case atStart => exact ⟨2, Int.le_refl _, by omega, rfl, rfl, fun p h1 h2 => by omega, HB.out⟩
    case round =>
      obtain ⟨p, hp1, hp2, HGQ2, rfl, HP, hb⟩ := hrel
      replace HGQ2 := Lib.hid HGQ2
      have HB1 := Lib.hid hb
      clear hb
      by_cases hpq : p ≤ q
      rotate_left
      · have HM2 : Hid (∀ i : Nat, 1 ≤ i → i < m + 1 → ∀ p : Int, 2 ≤ p → p ≤ q → ¬ Ans q i p) := fun i h1 h2 p' h3 h4 => by
          by_cases e : i = m
          · rw [e]; exact HP.out p' h3 (by omega)
          · exact HM.out i h1 (by omega) p' h3 h4
        go_wp2
        go_roundg (9 - (m + 1))
        case measure => have := HGQ.out; omega
        case rel => exact ⟨m + 1, by omega, by omega, rfl, by go_num, HM2.out, HB1.out⟩
      have hp256 : p ≤ 256 := by omega
      have CP : Hid (∀ W, Calls Try.prog 63 #[.int .i64 p] W fun e w' => BoolIs (Prm p) W e w') := fun W => refPrime_calls p W hp1 hp256
      obtain ⟨o, HO⟩ : ∃ o, Hid (o = ord p m) := ⟨_, rfl⟩
      have CO : Hid (∀ W, Calls Try.prog 25 #[.agg #[.int .i64 p, .int .i64 m, .slice none 0 0]] W fun e w' => e = .returned (.int .i64 o) ∧ Below W.heap.size W w') := fun W => by rw [HO.out]; exact refOrder_calls p m none 0 0 W
      have HNEXT : Hid (¬ Ans q m p → ∀ p' : Int, 2 ≤ p' → p' < p + 1 → ¬ Ans q m p') := fun h p' h1 h2 => by
        by_cases e : p' = p
        · rw [e]; exact h
        · exact HP.out p' h1 (by omega)
      go_wp2_with fail
      go_at_call 63
      refine (CP.out _).mono ?_
      rintro e w3 ⟨b, rfl, hbi, hb3⟩
      have HB3 := Lib.hid (below_step HB1.out hb3 HB1.out.size)
      clear hb3 HB1
      cases b
      · have HPN := Lib.hid (HNEXT.out fun h => absurd (hbi.2 h.1) Bool.false_ne_true)
        clear hbi
        go_wp2
        go_roundg (q + 1 - (p + 1)).toNat
        case measure => have := HGQ2.out; omega
        case rel => exact ⟨p + 1, by omega, by omega, rfl, by go_num, HPN.out, HB3.out⟩
      · have HPR := Lib.hid (hbi.1 rfl)
        clear hbi
        go_wp2_with fail
        go_at_call 25
        refine (CO.out _).mono ?_
        rintro e w4 ⟨rfl, hb4⟩
        have HB4 := Lib.hid (below_step HB3.out hb4 HB3.out.size)
        clear hb4 HB3
        by_cases hoq : o = q
        rotate_left
        · have h3 : (o == q) = false := by simp; exact hoq
          have HPN := Lib.hid (HNEXT.out fun h => hoq (HO.out.trans h.2.1))
          go_wp2
          go_roundg (q + 1 - (p + 1)).toNat
          case measure => have := HGQ2.out; omega
          case rel => exact ⟨p + 1, by omega, by omega, rfl, by go_num, HPN.out, HB4.out⟩
        have HORD : Hid (ord p m = q) := HO.out.symm.trans hoq
        by_cases hmo : m = 1
        · subst hmo
          have hz := (HB4.out.block g (Array.getElem?_eq_some_iff.1 HZB.out).1).trans HZB.out
          obtain ⟨⟨z0, z1, z2⟩, f0, f1, f2⟩ := threeAt hz
          obtain ⟨s0, s1, s2⟩ := setThree hz (.int .i64 p) (.int .i64 1) (.slice none 0 0)
          go_wp2
          refine bodyPost_ret (v := .tuple #[.agg #[.int .i64 p, .int .i64 (1 : Nat), .slice none 0 0], .bool true]) (by simp [results, Try.results57, go_sem, s0, s1, s2]) rfl (StdRet.some (std_one hq1 hq2 HPR.out HORD.out) (Rd.nil _ _) rfl ?_)
          exact (((below_step HBW.out HB4.out HBW.out.size).setCell HGS.out _).setCell HGS.out _).setCell HGS.out _
        have hm2 : ((m : Int) == 1) = false := by simp; omega
        have CDG : Hid (∀ W (v : Nat), (v : Int) < q → Calls Try.prog 62 #[.int .i64 v, .int .i64 p, .int .i64 m] W fun e w' => ∃ gd, e = .returned (.slice (some ⟨gd, 0, none⟩) m m) ∧ W.heap.size ≤ gd ∧ Own w' gd m (digs m v p) ∧ Below W.heap.size W w') := fun W v h => refdigits_calls v p m W (by omega) (by omega) hp1 hp256 (by omega)
        have CIR : Hid (∀ W (v gd : Nat), Rd W (some ⟨gd, 0, none⟩) (digs m v p) → Calls Try.prog 64 #[.slice (some ⟨gd, 0, none⟩) m m, .int .i64 p] W fun e w' => BoolIs (IrrL p (digs m v p)) W e w') := fun W v gd hr => by
          have := irreducible_calls (some ⟨gd, 0, none⟩) m (digs m v p) p W hr (fun h => by cases h) hp1 hp256 (digs_dig _ _ _ hp1) (by rw [digs_length]; exact hm8) (by rw [digs_length, (ord_pow HORD.out hq1).2.2.2]; exact hq2)
          rw [digs_length] at this
          exact this
        go_wp2
        clear CO CP hoq hm2
        go_loopg [6] q.toNat (fun g2 t wr => ∃ v : Nat, (v : Int) ≤ q ∧ g2 = q.toNat - v ∧ t = .int .i64 v ∧ Hid (∀ u : Nat, u < v → ¬ IrrL p (digs m u p)) ∧ Below wB.heap.size wB wr)
        case atStart => exact ⟨0, by omega, rfl, rfl, fun u h => by omega, HB4.out⟩
        case round =>
          obtain ⟨v, hv, HGQ3, rfl, HNI, hb⟩ := hrel
          replace HGQ3 := Lib.hid HGQ3
          have HB5 := Lib.hid hb
          clear hb
          by_cases hvq : (v : Int) < q
          rotate_left
          · have HPN := Lib.hid (HNEXT.out fun h => by
              rcases h.2.2 with h1 | ⟨u, h1, h2⟩
              · exact hmo h1
              · exact HNI.out u (by omega) h2)
            go_wp2
            go_roundg (q + 1 - (p + 1)).toNat
            case measure => have := HGQ2.out; omega
            case rel => exact ⟨p + 1, by omega, by omega, rfl, by go_num, HPN.out, HB5.out⟩
          go_wp2_with fail
          go_at_call 62
          refine (CDG.out _ v hvq).mono ?_
          rintro e w6 ⟨gd, rfl, hgd, hown, hb6⟩
          have HO6 := Lib.hid hown
          have hlen : (digs m v p).length ≤ 140737488351232 := by rw [digs_length]; omega
          have HRD6 := Lib.hid (HO6.out.rd hlen)
          have HB6 := Lib.hid (below_step HB5.out hb6 HB5.out.size)
          have HGD : Hid (wB.heap.size ≤ gd) := Nat.le_trans HB5.out.size hgd
          clear hown hb6 hgd
          go_wp2_with fail
          go_at_call 64
          refine (CIR.out _ v gd HRD6.out).mono ?_
          rintro e w7 ⟨b, rfl, hbi, hb7⟩
          have HO7 := Lib.hid (HO6.out.below hb7 HO6.out.lt)
          have HB7 := Lib.hid (below_step HB6.out hb7 HB6.out.size)
          clear hb7 HO6 HRD6
          cases b
          · have HI : Hid (∀ u : Nat, u < v + 1 → ¬ IrrL p (digs m u p)) := fun u hu => by
              by_cases e : u = v
              · rw [e]; exact fun h => absurd (hbi.2 h) Bool.false_ne_true
              · exact HNI.out u (by omega)
            clear hbi
            go_wp2
            go_roundg (q.toNat - (v + 1))
            case measure => have := HGQ3.out; omega
            case rel => exact ⟨v + 1, by omega, rfl, by go_num, HI.out, HB7.out⟩
          · have HSTD := Lib.hid (std_more hq1 hq2 HPR.out HORD.out hmo hvq (hbi.1 rfl) HNI.out)
            clear hbi
            have hgl := (Array.getElem?_eq_some_iff.1 HZB.out).1
            have hz := (HB7.out.block g hgl).trans HZB.out
            obtain ⟨⟨z0, z1, z2⟩, f0, f1, f2⟩ := threeAt hz
            obtain ⟨s0, s1, s2⟩ := setThree hz (.int .i64 p) (.int .i64 m) (.slice (some ⟨gd, 0, none⟩) m m)
            have hne : g ≠ gd := by have := HGD.out; omega
            have HOF : Hid (Rd (((w7.setCell ⟨g, 0, none⟩ (.int .i64 p)).setCell ⟨g, 1, none⟩ (.int .i64 m)).setCell ⟨g, 2, none⟩ (.slice (some ⟨gd, 0, none⟩) m m)) (some ⟨gd, 0, none⟩) (digs m v p)) :=
              (((HO7.out.setOther _ hne _).setOther _ hne _).setOther _ hne _).rd hlen
            clear hgl hne
            go_wp2
            refine bodyPost_ret (v := .tuple #[.agg #[.int .i64 p, .int .i64 m, .slice (some ⟨gd, 0, none⟩) m m], .bool true]) (by simp [results, Try.results57, go_sem, s0, s1, s2]) rfl (StdRet.some HSTD.out HOF.out (digs_length _ _ _) ?_)
            exact (((below_step HBW.out HB7.out HBW.out.size).setCell HGS.out _).setCell HGS.out _).setCell HGS.out _

end Go.Proofs.Ytjbfccconjjofaa
