/- The reference's irreducible and Check. -/
import Derived.Test.YtjbfccconjjofaaDivides
namespace Go.Proofs.Ytjbfccconjjofaa
open Go.RowKit
attribute [local go_sem ↓] Go.wp_at_zero Go.wp_at_succ

set_option maxHeartbeats 2000000 in
theorem irreducible_calls (A : Option Addr) (c : Nat) (mod : List Int) (p : Int) (w : World) (hr : Rd w A mod) (hnil : A = none → c = 0)
    (hp : 2 ≤ p) (hp2 : p ≤ 256) (hdm : Dig p mod) (hm : mod.length ≤ 8) (hq : p ^ mod.length ≤ 256) :
    Calls Try.prog 64 #[.slice A mod.length c, .int .i64 p] w fun e w' => BoolIs (IrrL p mod) w e w' := by
  obtain ⟨m, HM⟩ : ∃ m, Hid (m = mod.length) := ⟨_, rfl⟩
  have HQ := Lib.hid hq
  have hm2 : m ≤ 8 := by rw [HM.out]; exact hm
  have HD : Hid (∀ (W1 : World) (g d : Nat) (low : List Int), Own W1 g d low → low.length = d → d ≤ m → Dig p low → Below w.heap.size w W1 →
      Calls Try.prog 68 #[.slice (some ⟨g, 0, none⟩) d d, .slice A m c, .int .i64 p] W1 fun e w' => BoolIs (DividesL p low mod) W1 e w') := by
    intro W1 g d low h1 h2 h3 h4 h5
    subst h2
    rw [HM.out]
    exact divides_calls _ _ low A c mod p W1 (h1.rd (by omega)) (hr.below h5 (Nat.le_refl _)) hnil hp hp2 h4 hdm (by rw [← HM.out]; exact h3) (by omega)
  rw [← HM.out]
  clear hr hnil hdm hm hq
  go_enter Try.func64, Try.ntmps64
  go_wp2
  go_loopg [5, 6] 9 (fun gq cnt d wr => ∃ (dn : Nat) (cn : Int), 1 ≤ dn ∧ gq + dn = 10 ∧ d = .int .i64 dn ∧ cnt = .int .i64 cn ∧ 1 ≤ cn ∧ cn ≤ 256 ∧ Hid (cn = p ^ (dn - 1)) ∧ Hid (∀ d' : Nat, 1 ≤ d' → d' < dn → 2 * d' ≤ m → ∀ v : Int, 0 ≤ v → v < p ^ d' → ¬ DividesL p (digs d' v p) mod) ∧ Below w.heap.size w wr)
  case atStart => exact ⟨1, 1, Nat.le_refl _, by omega, rfl, rfl, by omega, by omega, by simp [Hid], fun d' h1 h2 => by omega, Below.refl _ _⟩
  case round =>
    obtain ⟨dn, cn, hd1, HGQ, rfl, rfl, hc1, hc2, HC, HNO, hb⟩ := hrel
    replace HGQ := Lib.hid HGQ
    have hdn : dn ≤ 10 := by have := HGQ.out; omega
    by_cases hlt : 2 * dn ≤ m
    · have hpw : p ^ dn ≤ 256 := by
        have := pow_mono p (by omega) dn m (by omega)
        have := HQ.out
        rw [← HM.out] at this
        omega
      obtain ⟨k, HK⟩ : ∃ k, Hid (k = cn * p) := ⟨_, rfl⟩
      have HK2 : Hid (k = p ^ dn) := by
        unfold Hid
        rw [HK.out, HC.out, ← Int.pow_succ]
        congr 1; omega
      have hk1 : 1 ≤ k := by rw [HK2.out]; exact pow_ge p hp dn
      have hk2 : k ≤ 256 := by rw [HK2.out]; exact hpw
      have hk3 : 0 ≤ cn * p := by rw [← HK.out]; omega
      have hk4 : cn * p ≤ 256 := by rw [← HK.out]; omega
      clear hpw
      have HB := Lib.hid hb
      have hdec : decide (2 * (dn : Int) ≤ (m : Int)) = true := by simp; omega
      clear hb
      go_wp2
      rw [← HK.out]
      clear hk3 hk4
      go_loopg [7] k.toNat (fun g2 v wi => ∃ vn : Nat, vn ≤ k ∧ g2 + vn = k.toNat ∧ v = .int .i64 vn ∧ Hid (∀ v : Int, 0 ≤ v → v < vn → ¬ DividesL p (digs dn v p) mod) ∧ Below w.heap.size w wi)
      case atStart => exact ⟨0, by omega, by omega, rfl, fun v h1 h2 => by omega, HB.out⟩
      case round =>
        obtain ⟨vn, hv, HG2, rfl, HV, hb⟩ := hrel
        replace HG2 := Lib.hid HG2
        by_cases hlt2 : (vn : Int) < k
        · go_wp2_with fail
          go_at_call 62
          refine (refdigits_calls vn p dn _ (by omega) (by omega) hp hp2 (by omega)).mono ?_
          rintro e w2 ⟨g, rfl, hg, ho, hb2⟩
          have hb3 := below_step hb hb2 hb.size
          have HD2 := Lib.hid (HD.out w2 g dn _ ho (digs_length _ _ _) (by omega) (digs_dig _ _ _ hp) hb3)
          clear ho hb hb2 hg
          go_wp2_with fail
          go_at_call 68
          refine HD2.out.mono ?_
          rintro e w3 ⟨b, rfl, hbb, hb4⟩
          have hb5 := below_step hb3 hb4 hb3.size
          have HBB := Lib.hid hbb
          clear hbb hb3 hb4
          cases b
          · have HN := Lib.hid (show ¬ DividesL p (digs dn vn p) mod from fun h => absurd (HBB.out.2 h) (by simp))
            clear HBB
            go_wp2
            go_roundg (k.toNat - (vn + 1))
            case measure => have := HG2.out; omega
            case rel =>
              refine ⟨vn + 1, by omega, by omega, by go_num, fun v h1 h2 => ?_, hb5⟩
              by_cases hvv : v = vn
              · rw [hvv]; exact HN.out
              · exact HV.out v h1 (by omega)
          · have HN := Lib.hid (HBB.out.1 rfl)
            clear HBB
            go_wp2
            go_ret
            exact BoolIs.no (fun h => h dn hd1 (by rw [← HM.out]; omega) vn (by omega) (by rw [← HK2.out]; exact hlt2) HN.out) hb5
        · have HB3 := Lib.hid hb
          clear hb
          go_wp2
          go_roundg (9 - dn)
          case measure => have := HGQ.out; omega
          case rel =>
            refine ⟨dn + 1, k, by omega, by have := HGQ.out; omega, by go_num, rfl, hk1, hk2, by unfold Hid; rw [HK2.out]; rfl, fun d' h1 h2 h3 v h4 h5 => ?_, HB3.out⟩
            by_cases hdd : d' = dn
            · subst hdd; exact HV.out v h4 (by have := HK2.out; omega)
            · exact HNO.out d' h1 (by omega) h3 v h4 h5
    · have HB := Lib.hid hb
      have hdec : decide (2 * (dn : Int) ≤ (m : Int)) = false := by simp; omega
      clear hb
      go_wp2
      go_ret
      exact BoolIs.yes (fun d h1 h2 v h3 h4 => HNO.out d h1 (by rw [← HM.out] at h2; omega) (by rw [HM.out]; exact h2) v h3 h4) HB.out

/-- The reference takes the description for one of a field. -/
def RefGood (P M : Int) (mod : List Int) : Prop := ∃ m : Nat, M = m ∧ Shp P m mod ∧ (m ≠ 1 → IrrL P mod)
def CheckRet (p : Prop) (w : World) (e : Ending) (w' : World) : Prop := ∃ k : Int, e = .returned (.int .i64 k) ∧ ((k = 0 ∧ p) ∨ (k = 1 ∧ ¬ p)) ∧ Below w.heap.size w w'
theorem CheckRet.yes {p : Prop} {w w' : World} (h : p) (hb : Below w.heap.size w w') : CheckRet p w (.returned (.int .i64 0)) w' := ⟨0, rfl, .inl ⟨rfl, h⟩, hb⟩
theorem CheckRet.no {p : Prop} {w w' : World} (h : ¬ p) (hb : Below w.heap.size w w') : CheckRet p w (.returned (.int .i64 1)) w' := ⟨1, rfl, .inr ⟨rfl, h⟩, hb⟩

set_option maxHeartbeats 2000000 in
theorem refCheck_calls (P M : Int) (A : Option Addr) (c : Nat) (mod : List Int) (w : World) (hr : Rd w A mod) (hnil : A = none → c = 0) :
    Calls Try.prog 47 #[.agg #[.int .i64 P, .int .i64 M, .slice A mod.length c]] w fun e w' => CheckRet (RefGood P M mod) w e w' := by
  have hu := Try.underlying24
  have HR := Lib.hid hr
  have HNIL := Lib.hid hnil
  clear hr hnil
  obtain ⟨n, HN⟩ : ∃ n, Hid (n = mod.length) := ⟨_, rfl⟩
  rw [← HN.out]
  by_cases hO : ord P M = 0
  · have HO := Lib.hid hO
    have hO' : (ord P M == 0) = true := by simpa using hO
    clear hO
    go_enter Try.func47, Try.ntmps47
    go_wp2_with fail
    go_at_call 25
    refine (refOrder_calls _ _ _ _ _ _).mono ?_
    rintro e w1 ⟨rfl, hb1⟩
    go_wp2
    go_ret
    refine CheckRet.no ?_ (below_box hb1)
    rintro ⟨m, rfl, hs, _⟩
    have := HO.out
    rw [hs.ord] at this
    have := pow_ge P hs.p2 m
    omega
  · have HB := Lib.hid (ord_pos P M hO)
    have hO' : (ord P M == 0) = false := by simpa using hO
    clear hO
    go_enter Try.func47, Try.ntmps47
    go_wp2_with fail
    go_at_call 25
    refine (refOrder_calls _ _ _ _ _ _).mono ?_
    rintro e w1 ⟨rfl, hb1⟩
    obtain ⟨x0, x1, x2, hs1⟩ := box3 hb1
    go_wp2_with fail
    go_at_call 63
    refine (refPrime_calls P _ HB.out.1 HB.out.2.1).mono ?_
    rintro e w2 ⟨b, rfl, hb, hb2⟩
    have hb3 := below_step hb1 hb2 (by simpa using hs1)
    clear x0 x1 x2
    obtain ⟨x0, x1, x2, hs2⟩ := box3 hb3
    have HBP := Lib.hid hb
    clear hb hb1 hb2
    cases b
    · go_wp2
      go_ret
      refine CheckRet.no ?_ (below_box hb3)
      rintro ⟨m, rfl, hs, _⟩
      exact absurd (HBP.out.2 hs.prm) (by simp)
    · have HPR := Lib.hid (HBP.out.1 rfl)
      by_cases hM : M = 1
      · subst hM
        by_cases hn : n = 0
        · have hn' : ((n : Int) != 0) = false := by simp [hn]
          have HN0 := Lib.hid hn
          clear hn
          go_wp2
          go_ret
          refine CheckRet.yes ?_ (below_box hb3)
          have hm0 : mod = [] := List.eq_nil_of_length_eq_zero (by rw [← HN.out]; exact HN0.out)
          exact ⟨1, rfl, ⟨HPR.out, Nat.le_refl _, by omega, by simpa using HB.out.2.2.2.2, fun _ => hm0, fun h => absurd rfl h, by rw [hm0]; exact Dig.nil P⟩, fun h => absurd rfl h⟩
        · have hn' : ((n : Int) != 0) = true := by simp [hn]
          have HN0 := Lib.hid hn
          clear hn
          go_wp2
          go_ret
          refine CheckRet.no ?_ (below_box hb3)
          rintro ⟨m, hm, hs, _⟩
          have : mod = [] := hs.one (by omega)
          exact HN0.out (by rw [HN.out, this]; rfl)
      · obtain ⟨m, rfl⟩ : ∃ m : Nat, M = m := ⟨M.toNat, by have := HB.out.2.2.1; omega⟩
        have hM' : ((m : Int) == 1) = false := by simpa using hM
        by_cases hn : n = m
        · subst hn
          have hn' : ((n : Int) != (n : Int)) = false := by simp
          have hmod := HR.out.1
          rw [← HN.out] at hmod
          go_wp2
          go_loopg [3] n (fun gq i wr => ∃ k : Nat, k ≤ n ∧ gq + k = n ∧ i = .int .i64 k ∧ Hid (∀ j, j < k → 0 ≤ mod.getD j 0 ∧ mod.getD j 0 < P) ∧ Below (w.alloc (.cells #[.int .i64 P, .int .i64 n, .slice A n c] 24)).heap.size (w.alloc (.cells #[.int .i64 P, .int .i64 n, .slice A n c] 24)) wr)
          case atStart => exact ⟨0, Nat.zero_le _, by omega, rfl, fun j hj => absurd hj (by omega), hb3⟩
          case round =>
            obtain ⟨k, hk, HGQ, rfl, HK, hb⟩ := hrel
            replace HGQ := Lib.hid HGQ
            clear x0 x1 x2 hb3
            obtain ⟨x0, x1, x2, hs3⟩ := box3 hb
            by_cases hlt : k < n
            · obtain ⟨ad, rfl, hl, hc⟩ := ((HR.out.alloc _).below hb (Nat.le_refl _)).2 (by rw [← HN.out]; omega)
              have hcc := hc k (by rw [← HN.out]; exact hlt)
              clear hc hl
              obtain ⟨u, HU⟩ : ∃ u, Hid (u = mod.getD k 0) := ⟨_, rfl⟩
              rw [← HU.out] at hcc
              have i1 : (0 : Int) ≤ (k : Int) := by omega
              have i2 : (k : Int) < (n : Int) := by omega
              by_cases h0 : u < 0
              · have h0' : decide (u < 0) = true := by simpa using h0
                go_wp2
                go_quiet (fail)
                go_wp2
                go_ret
                refine CheckRet.no ?_ (below_box (below_drewN hb _))
                rintro ⟨m, hm, hs, _⟩
                have := hs.dig k (by rw [← HN.out]; exact hlt)
                rw [← HU.out] at this
                omega
              · have h0' : decide (u < 0) = false := by simpa using h0
                by_cases h1 : u < P
                · have h1' : decide (P ≤ u) = false := by simpa using h1
                  go_wp2
                  go_quiet (fail)
                  go_wp2
                  go_roundg (n - (k + 1))
                  case measure => have := HGQ.out; omega
                  case rel =>
                    refine ⟨k + 1, by omega, by omega, by go_num, fun j hj => ?_, below_drewN hb _⟩
                    by_cases hjk : j = k
                    · subst hjk; rw [← HU.out]; omega
                    · exact HK.out j (by omega)
                · have h1' : decide (P ≤ u) = true := by simp; omega
                  go_wp2
                  go_quiet (fail)
                  go_wp2
                  go_ret
                  refine CheckRet.no ?_ (below_box (below_drewN hb _))
                  rintro ⟨m, hm, hs, _⟩
                  have := hs.dig k (by rw [← HN.out]; exact hlt)
                  rw [← HU.out] at this
                  omega
            · obtain rfl : k = n := by omega
              have HSP : Hid (Shp P k mod) := ⟨HPR.out, by have := HB.out.2.2.1; omega, by have := HB.out.2.2.2.1; omega, by simpa using HB.out.2.2.2.2, fun h => absurd (by omega) hM, fun _ => HN.out.symm, fun j hj => HK.out j (by rw [HN.out]; exact hj)⟩
              have HI : Hid (∀ W1 : World, Rd W1 A mod → Calls Try.prog 64 #[.slice A k c, .int .i64 P] W1 fun e w' => BoolIs (IrrL P mod) W1 e w') := by
                intro W1 h1
                rw [HN.out]
                exact irreducible_calls A c mod P W1 h1 HNIL.out HSP.out.p2 HSP.out.p256 HSP.out.dig (by rw [← HN.out]; exact HSP.out.m8) (by rw [← HN.out]; exact HSP.out.q)
              go_wp2_with fail
              go_at_call 64
              refine (HI.out _ ((HR.out.alloc _).below hb (Nat.le_refl _))).mono ?_
              rintro e w4 ⟨b, rfl, hbb, hb4⟩
              have hb5 := below_step hb hb4 hb.size
              have HBB := Lib.hid hbb
              clear hbb hb hb4 x0 x1 x2
              cases b
              · go_wp2
                go_ret
                refine CheckRet.no ?_ (below_box hb5)
                rintro ⟨m, hm, hs, hi⟩
                exact absurd (HBB.out.2 (hi (by omega))) (by simp)
              · go_wp2
                go_ret
                exact CheckRet.yes ⟨k, rfl, HSP.out, fun _ => HBB.out.1 (by simp)⟩ (below_box hb5)
        · have hn' : ((n : Int) != (m : Int)) = true := by simp; omega
          have HN0 := Lib.hid hn
          clear hn
          go_wp2
          go_ret
          refine CheckRet.no ?_ (below_box hb3)
          rintro ⟨m', hm, hs, _⟩
          obtain rfl : m' = m := by omega
          exact HN0.out (by rw [HN.out]; exact hs.len (by omega))

end Go.Proofs.Ytjbfccconjjofaa
