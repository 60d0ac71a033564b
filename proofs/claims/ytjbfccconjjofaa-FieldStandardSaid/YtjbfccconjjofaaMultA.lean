/- multiply of the package field over a field of prime order. -/
import Derived.Test.YtjbfccconjjofaaMult
namespace Go.Proofs.Ytjbfccconjjofaa
open Go.RowKit
attribute [local go_sem ↓] Go.wp_at_zero Go.wp_at_succ

set_option maxHeartbeats 2000000 in
theorem multiply1_calls (P : Int) (A : Option Addr) (n c : Nat) (x y : Int) (w : World)
    (hp : 2 ≤ P) (hp2 : P ≤ 256) (hx : 0 ≤ x) (hx2 : x < P) (hy : 0 ≤ y) (hy2 : y < P) :
    Calls Try.prog 71 #[.agg #[.int .i64 P, .int .i64 1, .slice A n c], .int .i64 x, .int .i64 y] w fun e w' => e = .returned (.int .i64 (mulS P 1 [0] x y)) ∧ Below w.heap.size w w' := by
  have hu := Try.underlying24
  have HQ := Lib.hid (show P ^ 1 ≤ 256 by rw [Int.pow_succ, Int.pow_zero, Int.one_mul]; exact hp2)
  have HLO := Lib.hid (show ([0] : List Int).length = 1 from rfl)
  have HX := Lib.hid (show x ≤ 100000000 by omega)
  have HY := Lib.hid (show y ≤ 100000000 by omega)
  clear hx2 hy2
  have hL : (digs 1 x P).length = 1 := digs_length _ _ _
  have hL2 : (digs 1 y P).length = 1 := digs_length _ _ _
  have hdx := digs_dig 1 x P hp
  have hdy := digs_dig 1 y P hp
  obtain ⟨a, HA⟩ : ∃ a, Hid (a = digs 1 x P) := ⟨_, rfl⟩
  obtain ⟨b, HB⟩ : ∃ b, Hid (b = digs 1 y P) := ⟨_, rfl⟩
  rw [← HA.out] at hL hdx
  rw [← HB.out] at hL2 hdy
  have HL := Lib.hid hL
  have HL2 := Lib.hid hL2
  have HDX := Lib.hid hdx
  have HDY := Lib.hid hdy
  clear hL hL2 hdx hdy
  have hmk : ∀ W : World, (Instr.makeSlice 22 (.int .i64 1) (.int .i64 1)).run Try.prog W = .ok (.slice (some ⟨W.heap.size, 0, none⟩) 1 1) (W.alloc (.cells (madeCells #[.int .i64 0] 1) 3)) := by simpa using makeInts 1 (by omega)
  go_enter Try.func71, Try.ntmps71
  go_wp2
  go_region_held3 (fun w' => w'.cell? ⟨w.heap.size, 0, none⟩ = some (.int .i64 P) ∧ w'.cell? ⟨w.heap.size, 1, none⟩ = some (.int .i64 1) ∧ w'.cell? ⟨w.heap.size, 2, none⟩ = some (.slice A n c) ∧ Below (w.alloc (.cells #[.int .i64 P, .int .i64 1, .slice A n c] 24)).heap.size (w.alloc (.cells #[.int .i64 P, .int .i64 1, .slice A n c] 24)) w') (first | (exact keep3 (by simp) (by assumption) (by assumption)) | (exact ⟨by simp, by simp, by simp, (Below.refl _ _).drew⟩))
    (first | (go_at_call_of 60 (Value.int .i64 x); refine (digitsOf_calls x P 1 _ hx HX.out hp hp2 (by omega)).mono ?_; rintro e w1 ⟨ga, rfl, hga, hoa, hb1⟩) | (go_at_call_of 60 (Value.int .i64 y); refine (digitsOf_calls y P 1 _ hy HY.out hp hp2 (by omega)).mono ?_; rintro e w2 ⟨gb, rfl, hgb, hob, hb2⟩))
  rename_i hS
  obtain ⟨x0, x1, x2, hb⟩ := hS
  have hs1 := hb1.size
  have hs2 := hb2.size
  simp at hga hs1
  have hla := hoa.lt
  have hlb := hob.lt
  have hoa2 := hoa.below hb2 hla
  rw [← HA.out] at hoa2
  rw [← HB.out] at hob
  have hmade := Own.made w2 1 (by omega)
  have HS2 := Lib.hid (show w.heap.size + 1 ≤ w2.heap.size by omega)
  have hlt2 : w.heap.size < w2.heap.size := by omega
  clear hoa hb1 hb2
  go_wp2
  go_loopg [10] 1 (fun g i wr => ∃ j : Int, -1 ≤ j ∧ j < 1 ∧ g = (j + 1).toNat ∧ i = .int .i64 j ∧ Own wr w2.heap.size 1 (hor P [0] a (b.drop (j + 1).toNat)) ∧ Own wr ga 1 a ∧ Own wr gb 1 b ∧ Below (w.alloc (.cells #[.int .i64 P, .int .i64 1, .slice A n c] 24)).heap.size (w.alloc (.cells #[.int .i64 P, .int .i64 1, .slice A n c] 24)) wr)
  case atStart => exact ⟨0, by omega, by omega, rfl, rfl, by rw [show ((0 : Int) + 1).toNat = 1 from rfl, List.drop_of_length_le (by rw [HL2.out]; exact Nat.le_refl _)]; simpa [hor, HLO.out] using hmade, hoa2.alloc _, hob.alloc _, hb.alloc (by simpa using HS2.out) _⟩
  case round =>
    obtain ⟨j, hj1, hj2, HG, rfl, ho, hoa, hob', hb'⟩ := hrel
    replace HG := Lib.hid HG
    clear hmade hoa2 hob hb x0 x1 x2 hmk
    obtain ⟨x0, x1, x2, hs1'⟩ := box3 hb'
    clear hs1'
    by_cases hlt : 0 ≤ j
    · obtain ⟨t, rfl⟩ := Int.eq_ofNat_of_zero_le hlt
      have HT : Hid (((t : Int) + 1).toNat = t + 1) := by unfold Hid; omega
      rw [HT.out] at ho
      obtain ⟨o, HO⟩ : ∃ o, Hid (o = hor P [0] a (b.drop (t + 1))) := ⟨_, rfl⟩
      rw [← HO.out] at ho
      have hlo : o.length = 1 := by rw [HO.out, hor_length _ _ _ _ (by rw [HLO.out]; omega) (by rw [HL.out, HLO.out]), HLO.out]
      have hdo : Dig P o := by rw [HO.out]; exact hor_dig P (by omega) _ _ _
      have hct := ho.cell 0 (by omega)
      obtain ⟨top, HTOP⟩ : ∃ top, Hid (top = o.getD 0 0) := ⟨_, rfl⟩
      have hdt := hdo 0 (by omega)
      rw [← HTOP.out] at hct hdt
      have HLO2 := Lib.hid hlo
      have HDO := Lib.hid hdo
      have hblk := Lib.hid (show wr.heap[w2.heap.size]? = some (.cells (ints o).toArray 3 (0, 0)) from by have h := ho; rw [← hlo] at h; exact h.block)
      have HOW := Lib.hid ho
      have HOA := Lib.hid hoa
      have HOB := Lib.hid hob'
      have HBB := Lib.hid hb'
      clear hlo hdo ho hoa hob' hb'
      go_wp2
      have i5 : IntKind.i64.wrap 0 = 0 := IntWalk.i64_in _ (by omega)
      go_region_law ((refine step_copy_splice rfl (.tmp 43) (.tmp 48) 22 22 rfl 3 Try.underlying22 size_int _ _ _ _ _ _ rfl rfl w2.heap.size 0 (ints o) 3 hblk.out [] (by simp) (fun h => absurd h (by simp)) (by simp) (by simp) w2.heap.size wr (Below.refl _ _).drew (Nat.le_refl _) ?_; intro w4 hg4 hb4))
      clear i5
      have hown4 : Own w4 w2.heap.size 1 o := by
        have e : splice (ints o) 0 [] = ints o := by simp [splice]
        have h := hg4.out
        rw [e] at h
        have := Own.of h (by rw [HLO2.out]; omega)
        rwa [HLO2.out] at this
      obtain ⟨sh, HSH⟩ : ∃ sh : List Int, Hid (sh = [0]) := ⟨[0], rfl⟩
      have hset := hown4.set 0 0
      have e2 : o.set 0 0 = sh := by
        rw [HSH.out]
        match o, HLO2.out with
        | [z], _ => rfl
      rw [e2] at hset
      have HSET := Lib.hid hset
      have hc0 := hown4.cell 0 (by rw [HLO2.out]; omega)
      have hf0 := hown4.free 0
      have HSL : Hid (sh.length = 1) := by unfold Hid; rw [HSH.out]; rfl
      have HOA4 := Lib.hid (HOA.out.below hb4 (by omega))
      have HOB4 := Lib.hid (HOB.out.below hb4 hlb)
      have HBB4 := Lib.hid (HBB.out.trans (hb4.mono (by simp; omega)))
      obtain ⟨bt, HBT⟩ : ∃ bt, Hid (bt = b.getD t 0) := ⟨_, rfl⟩
      have hbt := HDY.out t (by rw [HL2.out]; omega)
      rw [← HBT.out] at hbt
      clear hown4 hset e2 x0 x1 x2 hct hg4 hb4 hblk HOW HOA HOB HBB
      go_wp2
      clear hc0 hf0
      go_loopg [54] 1 (fun g i wi => ∃ k : Nat, k ≤ 1 ∧ g = 1 - k ∧ i = .int .i64 k ∧ Own wi w2.heap.size 1 (rowL P (P - top) bt (sh.take k) (([0] : List Int).take k) (a.take k) ++ sh.drop k) ∧ Own wi ga 1 a ∧ Own wi gb 1 b ∧ Below (w.alloc (.cells #[.int .i64 P, .int .i64 1, .slice A n c] 24)).heap.size (w.alloc (.cells #[.int .i64 P, .int .i64 1, .slice A n c] 24)) wi)
      case atStart => exact ⟨0, Nat.zero_le _, rfl, rfl, by simpa [rowL] using HSET.out, HOA4.out.setOther _ (by simp; omega) _, HOB4.out.setOther _ (by simp; omega) _, HBB4.out.setCell (by simp; omega) _⟩
      case round =>
        obtain ⟨k, hk, HG2, rfl, hi1, hi2, hi3, hi4⟩ := hrel
        replace HG2 := Lib.hid HG2
        clear HSET HOA4 HOB4 HBB4
        obtain ⟨x0, x1, x2, hs1'⟩ := box3 hi4
        clear hs1'
        by_cases hlt2 : k < 1
        · have hrl : (rowL P (P - top) bt (sh.take k) (([0] : List Int).take k) (a.take k)).length = k := by
            rw [rowL_length _ _ _ _ _ _ (by simp [HSL.out, HLO.out]) (by simp [HSL.out, HL.out])]; simp [HSL.out]; omega
          have ec : (rowL P (P - top) bt (sh.take k) (([0] : List Int).take k) (a.take k) ++ sh.drop k).getD k 0 = sh.getD k 0 := by
            rw [List.getD_eq_getElem?_getD, List.getElem?_append_right (by omega), hrl, Nat.sub_self]; simp [List.getD_eq_getElem?_getD]
          have hc1 := hi1.cell k (by simp [hrl, HSL.out]; omega)
          rw [ec] at hc1
          have hc2 := hi2.cell k (by rw [HL.out]; exact hlt2)
          have hc3 := hi3.cell t (by rw [HL2.out]; omega)
          rw [← HBT.out] at hc3
          have hf1 := hi1.free k
          obtain rfl : k = 0 := by omega
          have d1 : 0 ≤ sh.getD 0 0 ∧ sh.getD 0 0 < P := by
            rw [HSH.out]; simp; omega
          have d2 := HDX.out 0 (by rw [HL.out]; omega)
          obtain ⟨so, HSO⟩ : ∃ z, Hid (z = sh.getD 0 0) := ⟨_, rfl⟩
          obtain ⟨av, HAV⟩ : ∃ z, Hid (z = a.getD 0 0) := ⟨_, rfl⟩
          rw [← HSO.out] at hc1 d1
          rw [← HAV.out] at hc2 d2
          have m3 : 0 ≤ bt * av := Int.mul_nonneg (by omega) (by omega)
          have m4 : bt * av ≤ 256 * 256 := Int.mul_le_mul (by omega) (by omega) (by omega) (by omega)
          have HS := Lib.hid (hi1.set 0 ((so + bt * av) % P))
          have HI2 := Lib.hid hi2
          have HI3 := Lib.hid hi3
          have HI4 := Lib.hid hi4
          clear hi1 hi2 hi3 hi4 hrl ec
          go_wp2
          go_region
          go_wp2
          go_roundg 0
          case measure => have := HG2.out; omega
          case rel =>
            refine ⟨1, by omega, rfl, by go_num, ?_, (HI2.out.drew).setOther _ (by simp; omega) _, (HI3.out.drew).setOther _ (by simp; omega) _, (HI4.out.drew).setCell (by simp; omega) _⟩
            have := HS.out
            have e3 := rowL_set P (P - top) bt sh [0] a 0 1 HSL.out HLO.out HL.out (by omega)
            rw [show ([0] : List Int).getD 0 0 = 0 from rfl, Int.mul_zero, Int.add_zero] at e3
            rw [HSO.out, HAV.out, e3] at this
            rw [HSO.out, HAV.out]; exact this
        · obtain rfl : k = 1 := by omega
          go_wp2
          go_roundg t
          case measure => have := HG.out; rw [HT.out] at this; omega
          case rel =>
            refine ⟨t - 1, by omega, by omega, by omega, by go_num, ?_, hi2, hi3, hi4⟩
            rw [show ((t : Int) - 1 + 1).toNat = t from by omega, hor_drop P [0] a b t (by rw [HL2.out]; omega), ← HO.out, ← HBT.out]
            unfold stepL
            rw [HLO2.out, show 1 - 1 = 0 from rfl, ← HTOP.out, List.take_zero]
            have := hi1
            rw [List.take_of_length_le (by rw [HSL.out]; exact Nat.le_refl _), List.take_of_length_le (by rw [HLO.out]; exact Nat.le_refl _), List.take_of_length_le (by rw [HL.out]; exact Nat.le_refl _), List.drop_of_length_le (by rw [HSL.out]; exact Nat.le_refl _), List.append_nil, HSH.out] at this
            exact this
    · obtain rfl : j = -1 := by omega
      rw [show ((-1 : Int) + 1).toNat = 0 from rfl, List.drop_zero] at ho
      have hl3 : (hor P [0] a b).length = 1 := by rw [hor_length _ _ _ _ (by rw [HLO.out]; omega) (by rw [HL.out, HLO.out]), HLO.out]
      have hd3 := hor_dig P (by omega) [0] a b
      have HV := Lib.hid (show mulS P 1 [0] x y = valL P (hor P [0] a b) from by unfold mulS; rw [← HA.out, ← HB.out])
      have hrd := ho.rd (by rw [hl3]; omega)
      have HC : Hid (Calls Try.prog 61 #[.slice (some ⟨w2.heap.size, 0, none⟩) 1 1, .int .i64 P] wr fun e w' => e = .returned (.int .i64 (valL P (hor P [0] a b))) ∧ Below wr.heap.size wr w') := by
        have h := valueOf_calls P (some ⟨w2.heap.size, 0, none⟩) 1 (hor P [0] a b) wr hrd hp hp2 hd3 (by rw [hl3]; exact HQ.out) (by rw [hl3]; omega)
        rw [hl3] at h; exact h
      have HBB := Lib.hid hb'
      clear ho hl3 hd3 hrd hoa hob' hb'
      go_wp2_with (go_at_call 61; refine HC.out.mono ?_; rintro e w3 ⟨rfl, hb3⟩)
      go_ret
      exact ⟨by rw [HV.out]; rfl, below_box (below_step HBB.out hb3 HBB.out.size)⟩


end Go.Proofs.Ytjbfccconjjofaa
