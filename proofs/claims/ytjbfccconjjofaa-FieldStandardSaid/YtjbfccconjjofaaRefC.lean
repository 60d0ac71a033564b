/- The reference's Add, Neg, Sub. -/
import Derived.Test.YtjbfccconjjofaaRefB
import Derived.BigRegion
namespace Go.Proofs.Ytjbfccconjjofaa
open Go.RowKit
attribute [local go_sem ↓] Go.wp_at_zero Go.wp_at_succ

set_option maxHeartbeats 1000000 in
theorem refAdd_calls (P : Int) (M : Nat) (A : Option Addr) (n c : Nat) (x y : Int) (w : World) (hp : 2 ≤ P) (hp2 : P ≤ 256) (hm : M ≤ 8) (hq : P ^ M ≤ 256) (hm1 : 1 ≤ M) :
    Calls Try.prog 28 #[.agg #[.int .i64 P, .int .i64 M, .slice A n c], .int .i64 x, .int .i64 y] w fun e w' => e = .returned (.int .i64 (addS P M (inn (P ^ M) x) (inn (P ^ M) y))) ∧ Below w.heap.size w w' := by
  have hu := Try.underlying24
  have HQ := Lib.hid hq
  clear hq
  go_enter Try.func28, Try.ntmps28
  have hL : (digs M (inn (P ^ M) x) P).length = M := digs_length _ _ _
  have hL2 : (digs M (inn (P ^ M) y) P).length = M := digs_length _ _ _
  have hdx := digs_dig M (inn (P ^ M) x) P hp
  have hdy := digs_dig M (inn (P ^ M) y) P hp
  obtain ⟨a, HA⟩ : ∃ a, Hid (a = digs M (inn (P ^ M) x) P) := ⟨_, rfl⟩
  obtain ⟨b, HB⟩ : ∃ b, Hid (b = digs M (inn (P ^ M) y) P) := ⟨_, rfl⟩
  rw [← HA.out] at hL hdx
  rw [← HB.out] at hL2 hdy
  have HL := Lib.hid hL
  have HL2 := Lib.hid hL2
  have HDX := Lib.hid hdx
  have HDY := Lib.hid hdy
  clear hL hL2 hdx hdy
  go_wp2_with fail
  go_at_call 38
  refine (refDigits_calls P M A n c x _ hp hp2 hm HQ.out hm1).mono ?_
  rintro e w1 ⟨ga, rfl, hga, hoa, hb1⟩
  obtain ⟨x0, x1, x2, hs1⟩ := box3 hb1
  go_wp2_with fail
  go_at_call 38
  refine (refDigits_calls P M A n c y _ hp hp2 hm HQ.out hm1).mono ?_
  rintro e w2 ⟨gb, rfl, hgb, hob, hb2⟩
  have hb12 := below_step hb1 hb2 (by simpa using hs1)
  clear x0 x1 x2
  have hoa2 := hoa.below hb2 hoa.lt
  have hla := hoa.lt
  simp at hga
  clear hoa hb1 hb2
  rw [← HA.out] at hoa2
  rw [← HB.out] at hob
  go_wp2
  go_loopw [9] (fun i wr => ∃ k : Nat, k ≤ M ∧ i = .int .i64 k ∧ Own wr ga M (addL P (a.take k) (b.take k) ++ a.drop k) ∧ Own wr gb M b ∧ Below (w.alloc (.cells #[.int .i64 P, .int .i64 M, .slice A n c] 24)).heap.size (w.alloc (.cells #[.int .i64 P, .int .i64 M, .slice A n c] 24)) wr) (fun i _ => M - (intOf i).toNat)
  case atStart => exact ⟨0, Nat.zero_le _, rfl, by simpa [addL] using hoa2, hob, hb12⟩
  case round =>
    obtain ⟨k, hk, rfl, ho1, ho2, hb⟩ := hrel
    clear hb12 hoa2 hob
    obtain ⟨x0, x1, x2, hs1⟩ := box3 hb
    by_cases hlt : k < M
    · have hla' : (addL P (a.take k) (b.take k)).length = k := by rw [addL_length _ _ _ (by simp [HL.out, HL2.out])]; simp [HL.out]; omega
      have hc1 := ho1.cell k (by simp [hla', HL.out]; omega)
      have hc2 := ho2.cell k (by rw [HL2.out]; exact hlt)
      have hf1 := ho1.free k
      have e1 : (addL P (a.take k) (b.take k) ++ a.drop k).getD k 0 = a.getD k 0 := by
        rw [List.getD_eq_getElem?_getD, List.getElem?_append_right (by omega), hla', Nat.sub_self]; simp [List.getD_eq_getElem?_getD]
      rw [e1] at hc1
      have d1 := HDX.out k (by rw [HL.out]; exact hlt)
      have d2 := HDY.out k (by rw [HL2.out]; exact hlt)
      obtain ⟨u, HU⟩ : ∃ u, Hid (u = a.getD k 0) := ⟨_, rfl⟩
      obtain ⟨v, HV⟩ : ∃ v, Hid (v = b.getD k 0) := ⟨_, rfl⟩
      rw [← HU.out] at hc1 d1
      rw [← HV.out] at hc2 d2
      have HS := Lib.hid (ho1.set k ((u + v) % P))
      have HN := Lib.hid (show gb ≠ ga by omega)
      have HO1 := Lib.hid ho1
      have HO2 := Lib.hid ho2
      have HE := Lib.hid e1
      have HLA := Lib.hid hla'
      clear ho1 ho2 e1 hla'
      go_wp2
      go_region
      go_wp2
      go_roundw
      case rel =>
        refine ⟨k + 1, by omega, by go_num, ?_, (HO2.out.drew).setOther _ HN.out.symm _, (hb.drew).setCell (by simp; omega) _⟩
        have := HS.out
        rw [HU.out, HV.out, addL_set P a b k M HL.out HL2.out hlt] at this
        rw [HU.out, HV.out]; exact this
      case measure => simp [intOf]; omega
    · obtain rfl : k = M := by omega
      have ho3 : Own wr ga k (addL P a b) := by
        have := ho1
        rwa [List.take_of_length_le (by rw [HL.out]; exact Nat.le_refl _), List.take_of_length_le (by rw [HL2.out]; exact Nat.le_refl _), List.drop_of_length_le (by rw [HL.out]; exact Nat.le_refl _), List.append_nil] at this
      have hl3 : (addL P a b).length = k := by rw [addL_length _ _ _ (by rw [HL.out, HL2.out]), HL.out]
      have hd3 := addL_dig P (by omega) a b
      have HV := Lib.hid (show addS P k (inn (P ^ k) x) (inn (P ^ k) y) = valL P (addL P a b) from by unfold addS; rw [← HA.out, ← HB.out])
      have hrd := ho3.rd (by rw [hl3]; omega)
      have HC : Hid (Calls Try.prog 39 #[.agg #[.int .i64 P, .int .i64 k, .slice A n c], .slice (some ⟨ga, 0, none⟩) k k] wr fun e w' => e = .returned (.int .i64 (valL P (addL P a b))) ∧ Below wr.heap.size wr w') := by
        have h := refValue_calls P k A n c (some ⟨ga, 0, none⟩) k (addL P a b) wr hrd hp hp2 hd3 (by rw [hl3]; exact HQ.out) (by rw [hl3]; omega)
        rw [hl3] at h; exact h
      clear ho1 ho3 hl3 hd3 hrd
      go_wp2_with (go_at_call 39; refine HC.out.mono ?_; rintro e w3 ⟨rfl, hb3⟩)
      go_ret
      exact ⟨by rw [HV.out]; rfl, below_box (below_step hb hb3 hb.size)⟩

set_option maxHeartbeats 1000000 in
theorem refNeg_calls (P : Int) (M : Nat) (A : Option Addr) (n c : Nat) (x : Int) (w : World) (hp : 2 ≤ P) (hp2 : P ≤ 256) (hm : M ≤ 8) (hq : P ^ M ≤ 256) (hm1 : 1 ≤ M) :
    Calls Try.prog 30 #[.agg #[.int .i64 P, .int .i64 M, .slice A n c], .int .i64 x] w fun e w' => e = .returned (.int .i64 (negS P M (inn (P ^ M) x))) ∧ Below w.heap.size w w' := by
  have hu := Try.underlying24
  have HQ := Lib.hid hq
  clear hq
  go_enter Try.func30, Try.ntmps30
  have hL : (digs M (inn (P ^ M) x) P).length = M := digs_length _ _ _
  have hdx := digs_dig M (inn (P ^ M) x) P hp
  obtain ⟨a, HA⟩ : ∃ a, Hid (a = digs M (inn (P ^ M) x) P) := ⟨_, rfl⟩
  rw [← HA.out] at hL hdx
  have HL := Lib.hid hL
  have HDX := Lib.hid hdx
  clear hL hdx
  go_wp2_with fail
  go_at_call 38
  refine (refDigits_calls P M A n c x _ hp hp2 hm HQ.out hm1).mono ?_
  rintro e w1 ⟨ga, rfl, hga, hoa, hb1⟩
  obtain ⟨x0, x1, x2, hs1⟩ := box3 hb1
  clear x0 x1 x2
  have hla := hoa.lt
  simp at hga
  rw [← HA.out] at hoa
  go_wp2
  go_loopw [6] (fun i wr => ∃ k : Nat, k ≤ M ∧ i = .int .i64 k ∧ Own wr ga M (negL P (a.take k) ++ a.drop k) ∧ Below (w.alloc (.cells #[.int .i64 P, .int .i64 M, .slice A n c] 24)).heap.size (w.alloc (.cells #[.int .i64 P, .int .i64 M, .slice A n c] 24)) wr) (fun i _ => M - (intOf i).toNat)
  case atStart => exact ⟨0, Nat.zero_le _, rfl, by simpa [negL] using hoa, hb1⟩
  case round =>
    obtain ⟨k, hk, rfl, ho1, hb⟩ := hrel
    clear hb1 hoa
    obtain ⟨x0, x1, x2, hs1⟩ := box3 hb
    by_cases hlt : k < M
    · have hla' : (negL P (a.take k)).length = k := by simp [negL, HL.out]; omega
      have hc1 := ho1.cell k (by simp [hla', HL.out]; omega)
      have hf1 := ho1.free k
      have e1 : (negL P (a.take k) ++ a.drop k).getD k 0 = a.getD k 0 := by
        rw [List.getD_eq_getElem?_getD, List.getElem?_append_right (by omega), hla', Nat.sub_self]; simp [List.getD_eq_getElem?_getD]
      rw [e1] at hc1
      have d1 := HDX.out k (by rw [HL.out]; exact hlt)
      obtain ⟨u, HU⟩ : ∃ u, Hid (u = a.getD k 0) := ⟨_, rfl⟩
      rw [← HU.out] at hc1 d1
      have HS := Lib.hid (ho1.set k ((P - u) % P))
      have HO1 := Lib.hid ho1
      have HE := Lib.hid e1
      have HLA := Lib.hid hla'
      clear ho1 e1 hla'
      go_wp2
      go_region
      go_wp2
      go_roundw
      case rel =>
        refine ⟨k + 1, by omega, by go_num, ?_, (hb.drew).setCell (by simp; omega) _⟩
        have := HS.out
        rw [HU.out, negL_set P a k M HL.out hlt, sub_emod_self] at this
        rw [HU.out]; exact this
      case measure => simp [intOf]; omega
    · obtain rfl : k = M := by omega
      have ho3 : Own wr ga k (negL P a) := by
        have := ho1
        rwa [List.take_of_length_le (by rw [HL.out]; exact Nat.le_refl _), List.drop_of_length_le (by rw [HL.out]; exact Nat.le_refl _), List.append_nil] at this
      have hl3 : (negL P a).length = k := by simp [negL, HL.out]
      have hd3 := negL_dig P (by omega) a
      have HV := Lib.hid (show negS P k (inn (P ^ k) x) = valL P (negL P a) from by unfold negS; rw [← HA.out])
      have hrd := ho3.rd (by rw [hl3]; omega)
      have HC : Hid (Calls Try.prog 39 #[.agg #[.int .i64 P, .int .i64 k, .slice A n c], .slice (some ⟨ga, 0, none⟩) k k] wr fun e w' => e = .returned (.int .i64 (valL P (negL P a))) ∧ Below wr.heap.size wr w') := by
        have h := refValue_calls P k A n c (some ⟨ga, 0, none⟩) k (negL P a) wr hrd hp hp2 hd3 (by rw [hl3]; exact HQ.out) (by rw [hl3]; omega)
        rw [hl3] at h; exact h
      clear ho1 ho3 hl3 hd3 hrd
      go_wp2_with (go_at_call 39; refine HC.out.mono ?_; rintro e w3 ⟨rfl, hb3⟩)
      go_ret
      exact ⟨by rw [HV.out]; rfl, below_box (below_step hb hb3 hb.size)⟩

set_option maxHeartbeats 400000 in
theorem refSub_calls (P : Int) (M : Nat) (A : Option Addr) (n c : Nat) (x y : Int) (w : World) (hp : 2 ≤ P) (hp2 : P ≤ 256) (hm : M ≤ 8) (hq : P ^ M ≤ 256) (hm1 : 1 ≤ M) :
    Calls Try.prog 32 #[.agg #[.int .i64 P, .int .i64 M, .slice A n c], .int .i64 x, .int .i64 y] w fun e w' => e = .returned (.int .i64 (addS P M (inn (P ^ M) x) (negS P M (inn (P ^ M) y)))) ∧ Below w.heap.size w w' := by
  have hu := Try.underlying24
  have HQ := Lib.hid hq
  clear hq
  have HI : Hid (inn (P ^ M) (negS P M (inn (P ^ M) y)) = negS P M (inn (P ^ M) y)) := inn_yes (negS_bd P hp M _).1 (negS_bd P hp M _).2
  go_enter Try.func32, Try.ntmps32
  go_wp2
  go_region_held3 (fun w' => w'.cell? ⟨w.heap.size, 0, none⟩ = some (.int .i64 P) ∧ w'.cell? ⟨w.heap.size, 1, none⟩ = some (.int .i64 M) ∧ w'.cell? ⟨w.heap.size, 2, none⟩ = some (.slice A n c) ∧ Below (w.alloc (.cells #[.int .i64 P, .int .i64 M, .slice A n c] 24)).heap.size (w.alloc (.cells #[.int .i64 P, .int .i64 M, .slice A n c] 24)) w') (first | (exact keep3 (by simp) (by assumption) (by assumption)) | (exact ⟨by simp, by simp, by simp, (Below.refl _ _).drew⟩))
    (first | (go_at_call 30; refine (refNeg_calls P M A n c y _ hp hp2 hm HQ.out hm1).mono ?_; rintro e w1 ⟨rfl, hb1⟩) | (go_at_call 28; refine (refAdd_calls P M A n c x (negS P M (inn (P ^ M) y)) _ hp hp2 hm HQ.out hm1).mono ?_; rintro e w2 ⟨rfl, hb2⟩))
  go_wp2
  go_ret
  rename_i hS
  exact ⟨by rw [HI.out]; rfl, below_box hS.2.2.2⟩

end Go.Proofs.Ytjbfccconjjofaa
