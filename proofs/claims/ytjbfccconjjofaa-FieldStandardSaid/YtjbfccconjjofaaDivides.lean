/- The reference's divides, irreducible and Check. -/
import Derived.Test.YtjbfccconjjofaaNew
import Derived.Test.YtjbfccconjjofaaPlainC
namespace Go.Proofs.Ytjbfccconjjofaa
open Go.RowKit
attribute [local go_sem ↓] Go.wp_at_zero Go.wp_at_succ

set_option maxHeartbeats 4000000 in
theorem divides_calls (A0 : Option Addr) (c0 : Nat) (low : List Int) (A1 : Option Addr) (c1 : Nat) (mod : List Int) (p : Int) (w : World) (hr0 : Rd w A0 low) (hr1 : Rd w A1 mod) (hnil : A1 = none → c1 = 0)
    (hp : 2 ≤ p) (hp2 : p ≤ 256) (hdl : Dig p low) (hdm : Dig p mod) (hd : low.length ≤ mod.length) (hm : mod.length ≤ 100) :
    Calls Try.prog 68 #[.slice A0 low.length c0, .slice A1 mod.length c1, .int .i64 p] w fun e w' => BoolIs (DividesL p low mod) w e w' := by
  have HR0 := Lib.hid hr0
  have HR1 := Lib.hid hr1
  have HNIL := Lib.hid hnil
  have HDL := Lib.hid hdl
  have HDM := Lib.hid hdm
  clear hr0 hr1 hnil hdl hdm
  obtain ⟨d, HD⟩ : ∃ d, Hid (d = low.length) := ⟨_, rfl⟩
  obtain ⟨m, HM⟩ : ∃ m, Hid (m = mod.length) := ⟨_, rfl⟩
  have hdm : d ≤ m := by rw [HD.out, HM.out]; exact hd
  have hm2 : m ≤ 100 := by rw [HM.out]; exact hm
  clear hd hm
  rw [← HD.out, ← HM.out]
  go_enter Try.func68, Try.ntmps68
  go_wp2_with (first
    | (at_builtin; refine wpList_copied rfl (.tmp 15) (.tmp 16) rfl w.heap.size rfl (heap_alloc_new w _) A1 m c1 mod HM.out.symm rfl HNIL.out (HR1.out.alloc _) (by omega) ?_; intro b' c' w1 ho1 hg1 hb1; have hs1 := ho1.lt; have hb2 := ((Below.refl w.heap.size w).alloc (Nat.le_refl _) (.cells #[] 3)).grown hg1 (by simp) (by intro k hk; have h5 : w.heap.size = k := (by simpa using hk); omega); have HO1 := Lib.hid ho1; have HB1 := Lib.hid hb1; clear ho1 hg1 hb1)
    | (at_builtin; refine wpList_push _ rfl (.tmp 18) (.tmp 19) rfl b' c' m mod 1 HM.out.symm rfl w1.heap.size rfl rfl HO1.out (by omega) ?_; intro g cap w2 ho2 hg2 hg3; have hb4 := hb2.grown hg2 hb2.size (by intro k hk; have h5 : b' = k := (by simpa using hk); have := HB1.out; simp at this; omega); have HO2 := Lib.hid ho2; have HG3 := Lib.hid hg3; clear ho2 hg2 hg3))
  have hgw : w.heap.size ≤ g := by
    have h1 := HB1.out
    have h2 := HG3.out
    have h3 := hb2.size
    simp at h1
    omega
  clear hb2
  have HR : Hid ((mod ++ [1]).length = m + 1) := by unfold Hid; rw [List.length_append, ← HM.out]; rfl
  go_loopg [9] (m + 1) (fun gq i wr => ∃ (t : Nat) (j : Int) (R : List Int), t ≤ m + 1 - d ∧ t ≤ gq ∧ j ≤ (d : Int) + t - 1 ∧ (d : Int) + t - 1 ≤ j ∧ i = .int .i64 j ∧ Own wr g cap R ∧ Hid (R.length = m + 1) ∧ Hid (Dig p R) ∧ Hid (remN p low t R = remOf p low mod) ∧ Below w.heap.size w wr)
  case atStart => exact ⟨m + 1 - d, m, mod ++ [1], Nat.le_refl _, by omega, by omega, by omega, rfl, HO2.out, HR.out, HDM.out.append (Dig.one hp), by unfold Hid remOf; rw [← HM.out, ← HD.out], hb4⟩
  case round =>
    obtain ⟨t, j, R, ht, htg, hj1, hj2, rfl, ho, HRL, HRD, HRE, hb⟩ := hrel
    clear hb4
    by_cases ht0 : t = 0
    · have HRZ : Hid (R = remOf p low mod) := by have := HRE.out; rw [ht0] at this; exact this
      have HB := Lib.hid hb
      have HT0 := Lib.hid ht0
      have hjd : ¬ (d : Int) ≤ j := by omega
      clear hb ht0
      go_wp2
      go_loop [12] (fun i => ∃ k : Nat, k ≤ m + 1 ∧ i = .int .i64 k ∧ Hid (∀ j, j < k → R.getD j 0 = 0)) (fun i => m + 1 - (intOf i).toNat)
      case atStart => exact ⟨0, by omega, rfl, fun j hj => by omega⟩
      case round =>
        obtain ⟨k, hk, rfl, HK⟩ := hrel
        by_cases hlt : k < m + 1
        · have hc := ho.cell k (by rw [HRL.out]; exact hlt)
          obtain ⟨u, HU⟩ : ∃ u, Hid (u = R.getD k 0) := ⟨_, rfl⟩
          rw [← HU.out] at hc
          have HO := Lib.hid ho
          clear ho
          by_cases hu0 : u = 0
          · have hu' : (u != 0) = false := by simpa using hu0
            have HU0 := Lib.hid hu0
            clear hu0
            go_wp2
            go_round
            case rel =>
              refine ⟨k + 1, by omega, by go_num, fun j hj => ?_⟩
              by_cases hjk : j = k
              · rw [hjk, ← HU.out]; exact HU0.out
              · exact HK.out j (by omega)
            case measure => simp [intOf]; omega
          · have hu' : (u != 0) = true := by simpa using hu0
            have HU0 := Lib.hid hu0
            clear hu0
            go_wp2
            go_ret
            refine BoolIs.no (fun h => ?_) HB.out
            have := h k
            rw [← HRZ.out, ← HU.out] at this
            exact HU0.out this
        · obtain rfl : k = m + 1 := by omega
          go_wp2
          go_ret
          refine BoolIs.yes (fun j => ?_) HB.out
          rw [← HRZ.out]
          by_cases hj : j < m + 1
          · exact HK.out j hj
          · rw [List.getD_eq_getElem?_getD, List.getElem?_eq_none (by rw [HRL.out]; omega)]; rfl
    · obtain ⟨n, rfl⟩ : ∃ n, t = n + 1 := ⟨t - 1, by omega⟩
      obtain ⟨jn, rfl⟩ : ∃ jn : Nat, j = jn := ⟨j.toNat, by omega⟩
      have HJ : Hid (jn = d + n) := by unfold Hid; omega
      have hjm : jn ≤ m := by omega
      have hjd : d ≤ jn := by omega
      have hc0 := ho.cell jn (by rw [HRL.out]; omega)
      obtain ⟨c, HC⟩ : ∃ c, Hid (c = R.getD jn 0) := ⟨_, rfl⟩
      have hcd := HRD.out jn (by rw [HRL.out]; omega)
      rw [← HC.out] at hc0 hcd
      have HO := Lib.hid ho
      have HB := Lib.hid hb
      clear ho hb
      go_wp2
      go_loopg [11] d (fun gk2 k wi => ∃ kn : Nat, kn ≤ d ∧ gk2 = d - kn ∧ k = .int .i64 kn ∧ Own wi g cap (updK p low n c kn R) ∧ Below w.heap.size w wi)
      case atStart => exact ⟨0, by omega, rfl, rfl, HO.out, HB.out⟩
      case round =>
        obtain ⟨k, hk, HG2, rfl, ho, hb⟩ := hrel
        replace HG2 := Lib.hid HG2
        by_cases hlt : k < d
        · have hul : (updK p low n c k R).length = m + 1 := by rw [updK_length, HRL.out]
          have hdig := updK_dig p (by omega) low n c k R HRD.out
          have hc1 := ho.cell (jn - d + k) (by rw [hul]; omega)
          have hf1 := ho.free (jn - d + k)
          have hd1 := hdig (jn - d + k) (by rw [hul]; omega)
          obtain ⟨ad, rfl, hl, hc⟩ := (HR0.out.below hb (Nat.le_refl _)).2 (by rw [← HD.out]; omega)
          have hc2 := hc k (by rw [← HD.out]; exact hlt)
          have hd2 := HDL.out k (by rw [← HD.out]; exact hlt)
          clear hc hl
          obtain ⟨u, HU⟩ : ∃ u, Hid (u = (updK p low n c k R).getD (jn - d + k) 0) := ⟨_, rfl⟩
          obtain ⟨lv, HLV⟩ : ∃ u, Hid (u = low.getD k 0) := ⟨_, rfl⟩
          rw [← HU.out] at hc1 hd1
          rw [← HLV.out] at hc2 hd2
          have m1 : 0 ≤ (p - c) * lv := Int.mul_nonneg (by omega) (by omega)
          have m2 : (p - c) * lv ≤ 256 * 256 := Int.mul_le_mul (by omega) (by omega) (by omega) (by omega)
          have HS := Lib.hid (ho.set (jn - d + k) ((u + (p - c) * lv) % p))
          have HB2 := Lib.hid (hb.drew.setCell (p := ⟨g, jn - d + k, none⟩) hgw (.int .i64 ((u + (p - c) * lv) % p)))
          clear ho hb hul hdig
          have i1 : ((jn : Int) - (d : Int) + (k : Int)).toNat = jn - d + k := by omega
          have i2 : (0 : Int) ≤ (jn : Int) - (d : Int) + (k : Int) := by omega
          have i3 : (jn : Int) - (d : Int) + (k : Int) < (m : Int) + 1 := by omega
          go_wp2
          go_region
          go_wp2
          go_roundg (d - (k + 1))
          case measure => have := HG2.out; omega
          case rel =>
            refine ⟨k + 1, by omega, rfl, by go_num, ?_, HB2.out⟩
            have h := HS.out
            rw [show jn - d + k = n + k from by have := HJ.out; omega] at h HU ⊢
            rw [HU.out, HLV.out] at h ⊢
            exact h
        · obtain rfl : k = d := by omega
          have hul : (updK p low n c k R).length = m + 1 := by rw [updK_length, HRL.out]
          have hc1 := ho.cell jn (by rw [hul]; omega)
          have hf1 := ho.free jn
          have HS := Lib.hid (ho.set jn 0)
          have HB2 := Lib.hid (hb.setCell (p := ⟨g, jn, none⟩) hgw (.int .i64 0))
          have HDG := Lib.hid (updK_dig p (by omega) low n c k R HRD.out)
          have HUL := Lib.hid hul
          clear ho hb hul
          go_wp2
          go_roundg n
          case measure => omega
          case rel =>
            refine ⟨n, (jn : Int) - 1, _, by omega, Nat.le_refl _, by omega, by omega, rfl, HS.out, by unfold Hid; rw [List.length_set]; exact HUL.out, HDG.out.set _ _ (by omega) (by omega), ?_, HB2.out⟩
            have h := HRE.out
            rw [remN, ← HD.out, ← HJ.out, ← HC.out] at h
            exact h

end Go.Proofs.Ytjbfccconjjofaa
