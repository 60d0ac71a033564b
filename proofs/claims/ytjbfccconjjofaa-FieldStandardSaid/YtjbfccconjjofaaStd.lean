/- The standard field of an order: the program's. -/
import Derived.Test.YtjbfccconjjofaaStdM
import Derived.Test.YtjbfccconjjofaaChk
import Derived.Test.YtjbfccconjjofaaFld
namespace Go.Proofs.Ytjbfccconjjofaa
open Go.RowKit
attribute [local go_sem ↓] Go.wp_at_zero Go.wp_at_succ

/-- What both functions hand back: the standard field and 'yes', or no field and 'no'. -/
def StdRet (q : Int) (yes no : Value) (w : World) (e : Ending) (w' : World) : Prop :=
  Below w.heap.size w w' ∧ ((∃ (P : Int) (m : Nat) (mod : List Int) (A : Option Addr) (c : Nat), Std q P m mod ∧ Rd w' A mod ∧ e = .returned (.tuple #[.agg #[.int .i64 P, .int .i64 m, .slice A mod.length c], yes])) ∨
    ((∀ P m mod, ¬ Std q P m mod) ∧ e = .returned (.tuple #[.agg #[.int .i64 0, .int .i64 0, .slice none 0 0], no])))
theorem StdRet.none {q : Int} {yes no : Value} {w w' : World} (h : ∀ P m mod, ¬ Std q P m mod) (hb : Below w.heap.size w w') : StdRet q yes no w (.returned (.tuple #[.agg #[.int .i64 0, .int .i64 0, .slice none 0 0], no])) w' := ⟨hb, .inr ⟨h, rfl⟩⟩
theorem StdRet.some {q P : Int} {m : Nat} {mod : List Int} {A : Option Addr} {n c : Nat} {yes no : Value} {w w' : World} (h : Std q P m mod) (hr : Rd w' A mod) (hn : mod.length = n) (hb : Below w.heap.size w w') : StdRet q yes no w (.returned (.tuple #[.agg #[.int .i64 P, .int .i64 m, .slice A n c], yes])) w' := by
  subst hn; exact ⟨hb, .inl ⟨P, m, mod, A, c, h, hr, rfl⟩⟩

set_option maxHeartbeats 4000000 in
theorem standard_calls (q : Int) (w : World) : Calls Try.prog 56 #[.int .i64 q] w fun e w' => StdRet q (.int .i64 0) (.int .i64 6) w e w' := by
  have hu := Try.underlying24
  by_cases hq : q < 2 ∨ 256 < q
  · have HNO : Hid (∀ P m mod, ¬ Std q P m mod) := by rintro P m mod ⟨h1, h2, _⟩; omega
    rcases hq with hq | hq
    all_goals
      go_enter Try.func56, Try.ntmps56
      go_wp2
      refine bodyPost_ret (v := .tuple #[.agg #[.int .i64 0, .int .i64 0, .slice none 0 0], .int .i64 6]) (by simp [results, Try.results56, go_sem]) rfl (StdRet.none HNO.out ?_)
      first | exact ((((Below.refl _ _).alloc (Nat.le_refl _) _).setCell (Nat.le_refl _) _).setCell (Nat.le_refl _) _).setCell (Nat.le_refl _) _ | exact (Below.refl _ _).alloc (Nat.le_refl _) _
  have hq1 : 2 ≤ q := by omega
  have hq2 : q ≤ 256 := by omega
  clear hq
  go_enter Try.func56, Try.ntmps56
  go_wp2
  go_loopg [4] (q - 2).toNat (fun g2 t wr => ∃ k : Int, 2 ≤ k ∧ k ≤ q ∧ g2 = (q - k).toNat ∧ t = .int .i64 k ∧ Hid (∀ d : Int, 2 ≤ d → d < k → q % d ≠ 0) ∧ wr = w.alloc (.cells #[.int .i64 0, .int .i64 0, .slice none 0 0] 24))
  case atStart => exact ⟨2, Int.le_refl _, hq1, rfl, rfl, fun d h1 h2 => by omega, rfl⟩
  case round =>
    obtain ⟨k, hk1, hk2, HGQ, rfl, HL, rfl⟩ := hrel
    replace HGQ := Lib.hid HGQ
    by_cases hd : q % k = 0
    rotate_left
    · have hkq : k < q := by
        rcases Int.lt_or_eq_of_le hk2 with h | h
        · exact h
        · subst h; exact absurd Int.emod_self hd
      have hd2 : (q % k == 0) = false := by simp; exact hd
      go_wp2
      go_roundg (q - (k + 1)).toNat
      case measure => have := HGQ.out; omega
      case rel => exact ⟨k + 1, by omega, by omega, rfl, by go_num, fun d h1 h2 => by
        by_cases e : d = k
        · rw [e]; exact hd
        · exact HL.out d h1 (by omega), rfl⟩
    have HD := Lib.hid hd
    have HP : Hid (Prm k) := least_prm q k hk1 hd HL.out
    go_wp2
    clear hd
    obtain ⟨g, HG⟩ : ∃ g, Hid (g = w.heap.size) := ⟨_, rfl⟩
    obtain ⟨wB, HWB⟩ : ∃ wB, Hid (wB = w.alloc (.cells #[.int .i64 0, .int .i64 0, .slice none 0 0] 24)) := ⟨_, rfl⟩
    have HZB : Hid (wB.heap[g]? = some (.cells #[.int .i64 0, .int .i64 0, .slice none 0 0] 24 (0, 0))) := by rw [HWB.out, HG.out]; exact heap_alloc_new _ _
    have HBW : Hid (Below w.heap.size w wB) := by rw [HWB.out]; exact (Below.refl _ _).alloc (Nat.le_refl _) _
    have HGS : Hid (w.heap.size ≤ g) := by rw [HG.out]; exact Nat.le_refl _
    rw [← HWB.out, ← HG.out]
    clear HWB HG
    go_loopg [5] (8 - 1) (fun g2 t wr => ∃ m : Nat, 1 ≤ m ∧ m ≤ 8 ∧ g2 = 8 - m ∧ t = .int .i64 m ∧ Hid (∀ i : Nat, 1 ≤ i → i < m → ord k i < q) ∧ Below wB.heap.size wB wr)
    case atStart => exact ⟨1, Nat.le_refl _, by omega, rfl, rfl, fun i h1 h2 => by omega, Below.refl _ _⟩
    case round =>
      obtain ⟨m, hm1, hm8, HGQ2, rfl, HLOW, hb⟩ := hrel
      replace HGQ2 := Lib.hid HGQ2
      have HB := Lib.hid hb
      clear hb
      obtain ⟨o, HO⟩ : ∃ o, Hid (o = ord k m) := ⟨_, rfl⟩
      have hob := ord_bd k m
      rw [← HO.out] at hob
      have CO : Hid (∀ W, Calls Try.prog 66 #[.int .i64 k, .int .i64 m] W fun e w' => e = .returned (.int .i64 o) ∧ Below W.heap.size W w') := fun W => by rw [HO.out]; exact order_calls k m W
      go_wp2_with fail
      go_at_call 66
      refine (CO.out _).mono ?_
      rintro e w3 ⟨rfl, hb3⟩
      have HB3 := Lib.hid (below_step HB.out hb3 HB.out.size)
      clear hb3 HB
      by_cases h1 : o < q ∧ m < 8
      · obtain ⟨h1, h2⟩ := h1
        go_wp2
        go_roundg (8 - (m + 1))
        case measure => have := HGQ2.out; omega
        case rel => exact ⟨m + 1, by omega, by omega, rfl, by go_num, fun i h3 h4 => by
          by_cases e : i = m
          · rw [e, ← HO.out]; exact h1
          · exact HLOW.out i h3 (by omega), HB3.out⟩
      · have HFOUND : Hid (∀ P m' mod, Std q P m' mod → P = k ∧ m' = m) := fun P m' mod h => h.found hk1 HD.out HL.out hm1 hm8 HLOW.out (by rw [← HO.out]; exact h1)
        by_cases h2 : o = q
        rotate_left
        · have HNO : Hid (∀ P m' mod, ¬ Std q P m' mod) := fun P m' mod h => by
            obtain ⟨rfl, rfl⟩ := HFOUND.out P m' mod h
            exact h2 (HO.out.trans h.ord)
          have h3 : (o == q) = false := by simp; exact h2
          go_wp2_with fail
          all_goals
            go_at_call 66
            refine (CO.out _).mono ?_
            rintro e w4 ⟨rfl, hb4⟩
            have HB4 := Lib.hid (below_step HB3.out hb4 HB3.out.size)
            clear hb4
            have hz := (HB4.out.block g (Array.getElem?_eq_some_iff.1 HZB.out).1).trans HZB.out
            obtain ⟨⟨z0, z1, z2⟩, f0, f1, f2⟩ := threeAt hz
            obtain ⟨s0, s1, s2⟩ := setThree hz (.int .i64 0) (.int .i64 0) (.slice none 0 0)
            go_wp2
            refine bodyPost_ret (v := .tuple #[.agg #[.int .i64 0, .int .i64 0, .slice none 0 0], .int .i64 6]) (by simp [results, Try.results56, go_sem, s0, s1, s2]) rfl (StdRet.none HNO.out ?_)
            exact (((below_step HBW.out HB4.out HBW.out.size).setCell HGS.out _).setCell HGS.out _).setCell HGS.out _
        · have HORD : Hid (ord k m = q) := HO.out.symm.trans h2
          go_wp2_with fail
          go_at_call 66
          refine (CO.out _).mono ?_
          rintro e w4 ⟨rfl, hb4⟩
          have HB4 := Lib.hid (below_step HB3.out hb4 HB3.out.size)
          clear hb4 HB3
          by_cases hmo : m = 1
          · subst hmo
            have hz := (HB4.out.block g (Array.getElem?_eq_some_iff.1 HZB.out).1).trans HZB.out
            obtain ⟨⟨z0, z1, z2⟩, f0, f1, f2⟩ := threeAt hz
            obtain ⟨s0, s1, s2⟩ := setThree hz (.int .i64 k) (.int .i64 1) (.slice none 0 0)
            go_wp2
            refine bodyPost_ret (v := .tuple #[.agg #[.int .i64 k, .int .i64 (1 : Nat), .slice none 0 0], .int .i64 0]) (by simp [results, Try.results56, go_sem, s0, s1, s2]) rfl (StdRet.some (std_one hq1 hq2 HP.out HORD.out) (Rd.nil _ _) rfl ?_)
            exact (((below_step HBW.out HB4.out HBW.out.size).setCell HGS.out _).setCell HGS.out _).setCell HGS.out _
          · have hm2 : ((m : Int) == 1) = false := by simp; omega
            go_wp2
            obtain ⟨hk256, hm8b⟩ : k ≤ 256 ∧ m ≤ 8 := ⟨by omega, hm8⟩
            have CDG : Hid (∀ W (v : Nat), (v : Int) < q → Calls Try.prog 60 #[.int .i64 v, .int .i64 k, .int .i64 m] W fun e w' => ∃ gd, e = .returned (.slice (some ⟨gd, 0, none⟩) m m) ∧ W.heap.size ≤ gd ∧ Own w' gd m (digs m v k) ∧ Below W.heap.size W w') := fun W v h => digitsOf_calls v k m W (by omega) (by omega) hk1 hk256 (by omega)
            have CCK : Hid (∀ W (v gd : Nat), (v : Int) < q → Rd W (some ⟨gd, 0, none⟩) (digs m v k) → Calls Try.prog 49 #[.agg #[.int .i64 k, .int .i64 m, .slice (some ⟨gd, 0, none⟩) m m]] W fun e w' => CheckRet (IrrL k (digs m v k)) W e w') := fun W v gd h hr => by
              have := check_calls k m (some ⟨gd, 0, none⟩) m (digs m v k) W hr (fun h => by cases h)
              rw [digs_length, propext (good_digs hq1 hq2 HP.out HORD.out hmo)] at this
              exact this
            clear CO h1 h2 hm2
            go_loopg [43] q.toNat (fun g2 t wr => ∃ v : Nat, (v : Int) ≤ q ∧ g2 = q.toNat - v ∧ t = .int .i64 v ∧ Hid (∀ u : Nat, u < v → ¬ IrrL k (digs m u k)) ∧ Below wB.heap.size wB wr)
            case atStart => exact ⟨0, by omega, rfl, rfl, fun u h => by omega, HB4.out⟩
            case round =>
              obtain ⟨v, hv, HGQ3, rfl, HNI, hb⟩ := hrel
              replace HGQ3 := Lib.hid HGQ3
              have HB5 := Lib.hid hb
              clear hb
              by_cases hvq : (v : Int) < q
              · go_wp2_with fail
                go_at_call 60
                refine (CDG.out _ v hvq).mono ?_
                rintro e w6 ⟨gd, rfl, hgd, hown, hb6⟩
                go_wp2_with fail
                have HO6 := Lib.hid (hown.alloc (.cells #[.int .i64 k, .int .i64 m, .slice (some ⟨gd, 0, none⟩) m m] 24))
                have hlen : (digs m v k).length ≤ 140737488351232 := by rw [digs_length]; omega
                have HRD6 := Lib.hid (HO6.out.rd hlen)
                have HB6 := Lib.hid ((below_step HB5.out hb6 HB5.out.size).alloc (below_step HB5.out hb6 HB5.out.size).size (.cells #[.int .i64 k, .int .i64 m, .slice (some ⟨gd, 0, none⟩) m m] 24))
                have HGD : Hid (wB.heap.size ≤ gd) := Nat.le_trans HB5.out.size hgd
                clear hown hb6 hgd
                go_at_call 49
                refine (CCK.out _ v gd hvq HRD6.out).mono ?_
                rintro e w7 ⟨kk, rfl, hkk, hb7⟩
                obtain ⟨y0, y1, y2, _⟩ := box3 hb7
                have HO7 := Lib.hid (HO6.out.below hb7 HO6.out.lt)
                have HB7 := Lib.hid (below_step HB6.out hb7 HB6.out.size)
                clear hb7 HO6 HRD6
                by_cases hi : IrrL k (digs m v k)
                · obtain rfl : kk = 0 := by
                    rcases hkk with ⟨h, _⟩ | ⟨_, h⟩
                    · exact h
                    · exact absurd hi h
                  have HSTD := Lib.hid (std_more hq1 hq2 HP.out HORD.out hmo hvq hi HNI.out)
                  clear hkk hi
                  have hgl := (Array.getElem?_eq_some_iff.1 HZB.out).1
                  have hz := (HB7.out.block g hgl).trans HZB.out
                  obtain ⟨⟨z0, z1, z2⟩, f0, f1, f2⟩ := threeAt hz
                  obtain ⟨s0, s1, s2⟩ := setThree hz (.int .i64 k) (.int .i64 m) (.slice (some ⟨gd, 0, none⟩) m m)
                  have hne : g ≠ gd := by have := HGD.out; omega
                  have HOF : Hid (Rd (((w7.setCell ⟨g, 0, none⟩ (.int .i64 k)).setCell ⟨g, 1, none⟩ (.int .i64 m)).setCell ⟨g, 2, none⟩ (.slice (some ⟨gd, 0, none⟩) m m)) (some ⟨gd, 0, none⟩) (digs m v k)) :=
                    (((HO7.out.setOther _ hne _).setOther _ hne _).setOther _ hne _).rd hlen
                  clear hgl hne
                  go_wp2
                  refine bodyPost_ret (v := .tuple #[.agg #[.int .i64 k, .int .i64 m, .slice (some ⟨gd, 0, none⟩) m m], .int .i64 0]) (by simp [results, Try.results56, go_sem, s0, s1, s2]) rfl (StdRet.some HSTD.out HOF.out (digs_length _ _ _) ?_)
                  exact (((below_step HBW.out HB7.out HBW.out.size).setCell HGS.out _).setCell HGS.out _).setCell HGS.out _
                · obtain rfl : kk = 1 := by
                    rcases hkk with ⟨_, h⟩ | ⟨h, _⟩
                    · exact absurd h hi
                    · exact h
                  clear hkk y0 y1 y2
                  go_wp2
                  go_roundg (q.toNat - (v + 1))
                  case measure => have := HGQ3.out; omega
                  case rel => exact ⟨v + 1, by omega, rfl, by go_num, fun u hu => by
                    by_cases e : u = v
                    · rw [e]; exact hi
                    · exact HNI.out u (by omega), HB7.out⟩
              · have HNO : Hid (∀ P m' mod, ¬ Std q P m' mod) := fun P m' mod h => by
                  obtain ⟨rfl, rfl⟩ := HFOUND.out P m' mod h
                  obtain ⟨u, h5, h6, h7, _⟩ := h.2.2.2.2.2.2.2 hmo
                  exact HNI.out u (by omega) (by rw [← h6]; exact h7)
                have hz := (HB5.out.block g (Array.getElem?_eq_some_iff.1 HZB.out).1).trans HZB.out
                obtain ⟨⟨z0, z1, z2⟩, f0, f1, f2⟩ := threeAt hz
                obtain ⟨s0, s1, s2⟩ := setThree hz (.int .i64 0) (.int .i64 0) (.slice none 0 0)
                go_wp2
                refine bodyPost_ret (v := .tuple #[.agg #[.int .i64 0, .int .i64 0, .slice none 0 0], .int .i64 6]) (by simp [results, Try.results56, go_sem, s0, s1, s2]) rfl (StdRet.none HNO.out ?_)
                exact (((below_step HBW.out HB5.out HBW.out.size).setCell HGS.out _).setCell HGS.out _).setCell HGS.out _

end Go.Proofs.Ytjbfccconjjofaa
