/- The reference's product. -/
import Derived.Test.YtjbfccconjjofaaGFb
import Derived.Test.YtjbfccconjjofaaPlainE
namespace Go.Proofs.Ytjbfccconjjofaa
open Go.RowKit
attribute [local go_sem ↓] Go.wp_at_zero Go.wp_at_succ

set_option maxHeartbeats 4000000 in
theorem refMul_calls (P : Int) (M : Nat) (A : Option Addr) (mod : List Int) (c : Nat) (x y : Int) (w : World) (hr : Rd w A mod) (hs : Shp P M mod) :
    Calls Try.prog 21 #[.agg #[.int .i64 P, .int .i64 M, .slice A mod.length c], .int .i64 x, .int .i64 y] w fun e w' => e = .returned (.int .i64 (refMul P M mod (inn (P ^ M) x) (inn (P ^ M) y))) ∧ Below w.heap.size w w' := by
  have hu := Try.underlying24
  have hp := hs.p2
  have hp2 := hs.p256
  have hm := hs.m8
  have hm1 := hs.m1
  have HQ := Lib.hid hs.q
  have HR := Lib.hid hr
  have HS := Lib.hid hs
  clear hr hs
  obtain ⟨n, HN⟩ : ∃ n, Hid (n = mod.length) := ⟨_, rfl⟩
  rw [← HN.out]
  have hL : (digs M (inn (P ^ M) x) P).length = M := digs_length _ _ _
  have hL2 : (digs M (inn (P ^ M) y) P).length = M := digs_length _ _ _
  have hdx := digs_dig M (inn (P ^ M) x) P hp
  have hdy := digs_dig M (inn (P ^ M) y) P hp
  obtain ⟨a, HA⟩ : ∃ a, Hid (a = digs M (inn (P ^ M) x) P) := ⟨_, rfl⟩
  obtain ⟨b, HB⟩ : ∃ b, Hid (b = digs M (inn (P ^ M) y) P) := ⟨_, rfl⟩
  rw [← HA.out] at hL hdx
  rw [← HB.out] at hL2 hdy
  have HL := Lib.hid hL
  have HL2 := Lib.hid hL2
  have HDX := Lib.hid hdx
  have HDY := Lib.hid hdy
  have HV : Hid (refMul P M mod (inn (P ^ M) x) (inn (P ^ M) y) = valL P ((redN P mod M (M - 1) (mulC P M a b M)).take M)) := by
    unfold Hid refMul; rw [← HA.out, ← HB.out]
  clear hL hL2 hdx hdy
  have hmk : ∀ W : World, (Instr.makeSlice 22 (.int .i64 (2 * (M : Int) - 1)) (.int .i64 (2 * (M : Int) - 1))).run Try.prog W = .ok (.slice (some ⟨W.heap.size, 0, none⟩) (2 * M - 1) (2 * M - 1)) (W.alloc (.cells (madeCells #[.int .i64 0] (2 * M - 1)) 3)) := by
    have := makeInts (2 * M - 1) (by omega)
    rw [show ((2 * M - 1 : Nat) : Int) = 2 * (M : Int) - 1 from by omega] at this
    exact this
  go_enter Try.func21, Try.ntmps21
  go_wp2_with fail
  go_at_call 38
  refine (refDigits_calls P M A n c x _ hp hp2 hm HQ.out hm1).mono ?_
  rintro e w1 ⟨ga, rfl, hga, hoa, hb1⟩
  obtain ⟨x0, x1, x2, hs1⟩ := box3 hb1
  go_wp2_with fail
  go_at_call 38
  refine (refDigits_calls P M A n c y _ hp hp2 hm HQ.out hm1).mono ?_
  rintro e w2 ⟨gb, rfl, hgb, hob, hb2⟩
  have hb := below_step hb1 hb2 hb1.size
  clear x0 x1 x2
  obtain ⟨x0, x1, x2, hs2⟩ := box3 hb
  have hla := hoa.lt
  have hlb := hob.lt
  have hsz := hb2.size
  have HOA := Lib.hid (hoa.below hb2 hla)
  have HOB := Lib.hid hob
  rw [← HA.out] at HOA
  rw [← HB.out] at HOB
  have HBB := Lib.hid hb
  have HMD := Lib.hid (Own.made w2 (2 * M - 1) (by omega))
  simp at hga
  clear hoa hob hb1 hb2 hb
  go_wp2
  clear x0 x1 x2 hmk
  go_loopg [10] M (fun gq i wr => ∃ iN : Nat, iN ≤ M ∧ gq + iN = M ∧ i = .int .i64 iN ∧ Own wr w2.heap.size (2 * M - 1) (mulC P M a b iN) ∧ Own wr ga M a ∧ Own wr gb M b ∧ Below (w.alloc (.cells #[.int .i64 P, .int .i64 M, .slice A n c] 24)).heap.size (w.alloc (.cells #[.int .i64 P, .int .i64 M, .slice A n c] 24)) wr)
  case atStart => exact ⟨0, Nat.zero_le _, by omega, rfl, HMD.out, HOA.out.alloc _, HOB.out.alloc _, HBB.out.alloc (by simp; omega) _⟩
  case round =>
    obtain ⟨iN, hiN, HG, rfl, ho, hoa, hob, hb⟩ := hrel
    replace HG := Lib.hid HG
    clear HOA HOB HBB HMD
    obtain ⟨x0, x1, x2, hs3⟩ := box3 hb
    by_cases hlt : iN < M
    · obtain ⟨av, HAV⟩ : ∃ z, Hid (z = a.getD iN 0) := ⟨_, rfl⟩
      have hav := HDX.out iN (by rw [HL.out]; exact hlt)
      rw [← HAV.out] at hav
      have HO := Lib.hid ho
      have HOA := Lib.hid hoa
      have HOB := Lib.hid hob
      have HBB := Lib.hid hb
      clear ho hoa hob hb
      go_wp2
      clear x0 x1 x2
      go_loopg [11] M (fun g2 j wi => ∃ jN : Nat, jN ≤ M ∧ g2 + jN = M ∧ j = .int .i64 jN ∧ Own wi w2.heap.size (2 * M - 1) (addK P b iN av jN (mulC P M a b iN)) ∧ Own wi ga M a ∧ Own wi gb M b ∧ Below (w.alloc (.cells #[.int .i64 P, .int .i64 M, .slice A n c] 24)).heap.size (w.alloc (.cells #[.int .i64 P, .int .i64 M, .slice A n c] 24)) wi)
      case atStart => exact ⟨0, Nat.zero_le _, by omega, rfl, HO.out, HOA.out, HOB.out, HBB.out⟩
      case round =>
        obtain ⟨jN, hjN, HG2, rfl, ho, hoa, hob, hb⟩ := hrel
        replace HG2 := Lib.hid HG2
        clear HO HOA HOB HBB
        obtain ⟨x0, x1, x2, hs4⟩ := box3 hb
        by_cases hlt2 : jN < M
        · as_aux_lemma =>
            have hcl : (addK P b iN av jN (mulC P M a b iN)).length = 2 * M - 1 := by rw [addK_length, mulC_length]
            have hc1 := ho.cell (iN + jN) (by rw [hcl]; omega)
            have hf1 := ho.free (iN + jN)
            have hd1 := addK_dig P (by omega) b iN av jN _ (mulC_dig P (by omega) M a b iN) (iN + jN) (by rw [hcl]; omega)
            have hc2 := hoa.cell iN (by rw [HL.out]; exact hlt)
            have hc3 := hob.cell jN (by rw [HL2.out]; exact hlt2)
            have hd3 := HDY.out jN (by rw [HL2.out]; exact hlt2)
            rw [← HAV.out] at hc2
            obtain ⟨u, HU⟩ : ∃ u, Hid (u = (addK P b iN av jN (mulC P M a b iN)).getD (iN + jN) 0) := ⟨_, rfl⟩
            obtain ⟨bv, HBV⟩ : ∃ u, Hid (u = b.getD jN 0) := ⟨_, rfl⟩
            rw [← HU.out] at hc1 hd1
            rw [← HBV.out] at hc3 hd3
            have m1 : 0 ≤ av * bv := Int.mul_nonneg (by omega) (by omega)
            have m2 : av * bv ≤ 256 * 256 := Int.mul_le_mul (by omega) (by omega) (by omega) (by omega)
            have HS1 := Lib.hid (ho.set (iN + jN) ((u + av * bv) % P))
            have HS2 := Lib.hid (hoa.drew.setOther ⟨w2.heap.size, iN + jN, none⟩ (by simp; omega) (.int .i64 ((u + av * bv) % P)))
            have HS3 := Lib.hid (hob.drew.setOther ⟨w2.heap.size, iN + jN, none⟩ (by simp; omega) (.int .i64 ((u + av * bv) % P)))
            have HS4 := Lib.hid (hb.drew.setCell (p := ⟨w2.heap.size, iN + jN, none⟩) (by simp; omega) (.int .i64 ((u + av * bv) % P)))
            clear ho hoa hob hb hcl
            have i2 : (0 : Int) ≤ (iN : Int) + (jN : Int) := by omega
            have i3 : (iN : Int) + (jN : Int) < ((2 * M - 1 : Nat) : Int) := by omega
            go_wp2
            go_region
            go_wp2
            go_roundg (M - (jN + 1))
            case measure => have := HG2.out; omega
            case rel =>
              refine ⟨jN + 1, by omega, by omega, by go_num, ?_, HS2.out, HS3.out, HS4.out⟩
              have h := HS1.out
              rw [HU.out, HBV.out] at h ⊢
              exact h
        · obtain rfl : jN = M := by omega
          have HO := Lib.hid ho
          have HOA := Lib.hid hoa
          have HOB := Lib.hid hob
          have HBB := Lib.hid hb
          clear ho hoa hob hb
          go_wp2
          go_roundg (jN - (iN + 1))
          case measure => have := HG.out; omega
          case rel =>
            refine ⟨iN + 1, by omega, by omega, by go_num, ?_, HOA.out, HOB.out, HBB.out⟩
            have h := HO.out
            rw [mulC, ← HAV.out]
            exact h
    · obtain rfl : M = iN := by omega
      have HO := Lib.hid ho
      have HBB := Lib.hid hb
      clear ho hoa hob hb
      go_wp2
      clear x0 x1 x2
      go_loopg [12] (M - 1) (fun gq i wr => ∃ (t : Nat) (j : Int) (C : List Int), t ≤ M - 1 ∧ t ≤ gq ∧ j ≤ (M : Int) + t - 1 ∧ (M : Int) + t - 1 ≤ j ∧ i = .int .i64 j ∧ Own wr w2.heap.size (2 * M - 1) C ∧ Hid (C.length = 2 * M - 1) ∧ Hid (Dig P C) ∧ Hid (redN P mod M t C = redN P mod M (M - 1) (mulC P M a b M)) ∧ Below (w.alloc (.cells #[.int .i64 P, .int .i64 M, .slice A n c] 24)).heap.size (w.alloc (.cells #[.int .i64 P, .int .i64 M, .slice A n c] 24)) wr)
      case atStart => exact ⟨M - 1, 2 * (M : Int) - 2, mulC P M a b M, Nat.le_refl _, Nat.le_refl _, by omega, by omega, rfl, HO.out, mulC_length _ _ _ _ _, mulC_dig P (by omega) _ _ _ _, rfl, HBB.out⟩
      case round =>
        obtain ⟨t, j, C, ht, htg, hj1, hj2, rfl, ho, HCL, HCD, HCE, hb⟩ := hrel
        clear HO HBB
        obtain ⟨x0, x1, x2, hs3⟩ := box3 hb
        by_cases ht0 : t = 0
        · as_aux_lemma =>
            have HCZ : Hid (C = redN P mod M (M - 1) (mulC P M a b M)) := by have := HCE.out; rw [ht0] at this; exact this
            have hjd : ¬ (M : Int) ≤ j := by omega
            have hlt2 : (C.take M).length = M := by rw [List.length_take, HCL.out]; omega
            have hrd := ho.rdTake M (by rw [HCL.out]; omega) (by omega)
            have HVC : Hid (∀ W1 : World, Below wr.heap.size wr W1 → Calls Try.prog 39 #[.agg #[.int .i64 P, .int .i64 M, .slice A n c], .slice (some ⟨w2.heap.size, 0, none⟩) M (2 * M - 1)] W1 fun e w' => e = .returned (.int .i64 (valL P (C.take M))) ∧ Below W1.heap.size W1 w') := by
              intro W1 h1
              have h := refValue_calls P M A n c (some ⟨w2.heap.size, 0, none⟩) (2 * M - 1) (C.take M) W1 (hrd.below h1 (Nat.le_refl _)) hp hp2 (HCD.out.take M) (by rw [hlt2]; exact HQ.out) (by rw [hlt2]; omega)
              rw [hlt2] at h; exact h
            have HBB := Lib.hid hb
            clear ho hb hrd hlt2 ht0
            have i1 : (0 : Int) ≤ (M : Int) := by omega
            have i2 : (M : Int) ≤ ((2 * M - 1 : Nat) : Int) := by omega
            have HSB := Lib.hid (Below.refl wr.heap.size wr)
            go_wp2
            go_region_held3 (fun w' => w'.cell? ⟨w.heap.size, 0, none⟩ = some (.int .i64 P) ∧ w'.cell? ⟨w.heap.size, 1, none⟩ = some (.int .i64 M) ∧ w'.cell? ⟨w.heap.size, 2, none⟩ = some (.slice A n c) ∧ Below (w.alloc (.cells #[.int .i64 P, .int .i64 M, .slice A n c] 24)).heap.size (w.alloc (.cells #[.int .i64 P, .int .i64 M, .slice A n c] 24)) w') (first | (exact keep3 (by simp) (by assumption) (by assumption)) | (exact ⟨x0, x1, x2, HBB.out.drew⟩))
              ((go_at_call 39; refine (HVC.out _ (Below.refl _ _).drew).mono ?_; rintro e w3 ⟨rfl, hb3⟩))
            rename_i hS
            go_wp2
            go_ret
            exact ⟨by rw [HV.out, HCZ.out]; rfl, below_box hS.2.2.2⟩
        · obtain ⟨tn, rfl⟩ : ∃ n, t = n + 1 := ⟨t - 1, by omega⟩
          obtain ⟨jn, rfl⟩ : ∃ jn : Nat, j = jn := ⟨j.toNat, by omega⟩
          have HJ : Hid (jn = M + tn) := by unfold Hid; omega
          have hjm : jn < 2 * M - 1 := by omega
          have hjd : M ≤ jn := by omega
          have hnM : Hid (mod.length = M) := HS.out.len (by omega)
          obtain ⟨ci, HCI⟩ : ∃ z, Hid (z = C.getD jn 0) := ⟨_, rfl⟩
          have hci := HCD.out jn (by rw [HCL.out]; omega)
          rw [← HCI.out] at hci
          have HO := Lib.hid ho
          have HBB := Lib.hid hb
          clear ho hb
          go_wp2
          clear x0 x1 x2
          go_loopg [13] M (fun g2 j wi => ∃ k : Nat, k ≤ M ∧ g2 + k = M ∧ j = .int .i64 k ∧ Own wi w2.heap.size (2 * M - 1) (addK P mod tn (P - ci) k C) ∧ Below (w.alloc (.cells #[.int .i64 P, .int .i64 M, .slice A n c] 24)).heap.size (w.alloc (.cells #[.int .i64 P, .int .i64 M, .slice A n c] 24)) wi)
          case atStart => exact ⟨0, Nat.zero_le _, by omega, rfl, HO.out, HBB.out⟩
          case round =>
            obtain ⟨k, hk, HG2, rfl, ho, hb⟩ := hrel
            replace HG2 := Lib.hid HG2
            clear HO HBB
            obtain ⟨x0, x1, x2, hs4⟩ := box3 hb
            by_cases hlt2 : k < M
            · as_aux_lemma =>
                have hcl : (addK P mod tn (P - ci) k C).length = 2 * M - 1 := by rw [addK_length, HCL.out]
                have hc1 := ho.cell (jn - M + k) (by rw [hcl]; omega)
                have hf1 := ho.free (jn - M + k)
                have hd1 := addK_dig P (by omega) mod tn (P - ci) k C HCD.out (jn - M + k) (by rw [hcl]; omega)
                have hc0 := ho.cell jn (by rw [hcl]; omega)
                rw [addK_far _ _ _ _ _ _ jn (by have := HJ.out; omega), ← HCI.out] at hc0
                obtain ⟨ad, rfl, hl, hc⟩ := ((HR.out.alloc _).below hb (Nat.le_refl _)).2 (by rw [hnM.out]; omega)
                have hc2 := hc k (by rw [hnM.out]; exact hlt2)
                have hd2 := HS.out.dig k (by rw [hnM.out]; exact hlt2)
                clear hc hl
                obtain ⟨u, HU⟩ : ∃ u, Hid (u = (addK P mod tn (P - ci) k C).getD (jn - M + k) 0) := ⟨_, rfl⟩
                obtain ⟨lv, HLV⟩ : ∃ u, Hid (u = mod.getD k 0) := ⟨_, rfl⟩
                rw [← HU.out] at hc1 hd1
                rw [← HLV.out] at hc2 hd2
                have m1 : 0 ≤ (P - ci) * lv := Int.mul_nonneg (by omega) (by omega)
                have m2 : (P - ci) * lv ≤ 256 * 256 := Int.mul_le_mul (by omega) (by omega) (by omega) (by omega)
                have HS1 := Lib.hid (ho.set (jn - M + k) ((u + (P - ci) * lv) % P))
                have HS4 := Lib.hid (hb.drew.setCell (p := ⟨w2.heap.size, jn - M + k, none⟩) (by simp; omega) (.int .i64 ((u + (P - ci) * lv) % P)))
                clear ho hb hcl
                have i0 : (k : Int) < (n : Int) := by rw [HN.out, hnM.out]; omega
                have i1 : ((jn : Int) - (M : Int) + (k : Int)).toNat = jn - M + k := by omega
                have i2 : (0 : Int) ≤ (jn : Int) - (M : Int) + (k : Int) := by omega
                have i3 : (jn : Int) - (M : Int) + (k : Int) < ((2 * M - 1 : Nat) : Int) := by omega
                have i4 : (jn : Int) < ((2 * M - 1 : Nat) : Int) := by omega
                go_wp2
                go_region
                go_wp2
                go_roundg (M - (k + 1))
                case measure => have := HG2.out; omega
                case rel =>
                  refine ⟨k + 1, by omega, by omega, by go_num, ?_, HS4.out⟩
                  have h := HS1.out
                  rw [show jn - M + k = tn + k from by have := HJ.out; omega] at h HU ⊢
                  rw [HU.out, HLV.out] at h ⊢
                  exact h
            · obtain rfl : M = k := by omega
              have HO := Lib.hid ho
              have HBB := Lib.hid hb
              have HCL2 : Hid ((addK P mod tn (P - ci) M C).length = 2 * M - 1) := by unfold Hid; rw [addK_length, HCL.out]
              clear ho hb
              go_wp2
              go_roundg tn
              case measure => omega
              case rel =>
                refine ⟨tn, (jn : Int) - 1, _, by omega, Nat.le_refl _, by omega, by omega, by go_num, HO.out, HCL2.out, addK_dig P (by omega) _ _ _ _ _ HCD.out, ?_, HBB.out⟩
                have h := HCE.out
                rw [redN, ← HJ.out, ← HCI.out] at h
                exact h

end Go.Proofs.Ytjbfccconjjofaa
