/- valueOf and multiply of the package field. -/
import Derived.Test.YtjbfccconjjofaaRefC
import Derived.Laws.CopyOwn
import Derived.Deep.LoopGhost
namespace Go.Proofs.Ytjbfccconjjofaa
open Go.RowKit
attribute [local go_sem ↓] Go.wp_at_zero Go.wp_at_succ

set_option maxHeartbeats 400000 in
theorem valueOf_calls (P : Int) (A : Option Addr) (c : Nat) (d : List Int) (w : World) (hr : Rd w A d)
    (hp : 2 ≤ P) (hp2 : P ≤ 256) (hd : Dig P d) (hq : P ^ d.length ≤ 256) (hlen : d.length ≤ 100) :
    Calls Try.prog 61 #[.slice A d.length c, .int .i64 P] w fun e w' => e = .returned (.int .i64 (valL P d)) ∧ Below w.heap.size w w' := by
  have HR := Lib.hid hr
  have HD := Lib.hid hd
  have HQ := Lib.hid hq
  clear hr hd hq
  obtain ⟨n, hn⟩ : ∃ n, n = d.length := ⟨_, rfl⟩
  rw [← hn] at hlen ⊢
  have HN := Lib.hid hn
  clear hn
  go_enter Try.func61, Try.ntmps61
  go_wp2
  go_loopw [5, 6] (fun x i wr => ∃ (j y : Int), -1 ≤ j ∧ j < n ∧ i = .int .i64 j ∧ x = .int .i64 y ∧ 0 ≤ y ∧ y ≤ 255 ∧ Hid (y = valL P (d.drop (j + 1).toNat)) ∧ Below w.heap.size w wr) (fun _ i _ => (intOf i + 1).toNat)
  case atStart => exact ⟨n - 1, 0, by omega, by omega, rfl, rfl, by omega, by omega, by unfold Hid; rw [show ((n : Int) - 1 + 1).toNat = n from by omega, HN.out]; simp [valL], Below.refl _ _⟩
  case round =>
    obtain ⟨j, y, hj1, hj2, rfl, rfl, hy1, hy2, HY, hb⟩ := hrel
    by_cases hlt : 0 ≤ j
    · obtain ⟨t, rfl⟩ := Int.eq_ofNat_of_zero_le hlt
      obtain ⟨ad, rfl, hl, hc⟩ := (HR.out.below hb (Nat.le_refl _)).2 (by have := HN.out; omega)
      have hcc := hc t (by have := HN.out; omega)
      clear hc
      have hdg := HD.out t (by have := HN.out; omega)
      obtain ⟨u, hu⟩ : ∃ u, u = d.getD t 0 := ⟨_, rfl⟩
      rw [← hu] at hcc hdg
      have HU := Lib.hid hu
      clear hu
      have hm1 : y * P ≤ 255 * 256 := Int.mul_le_mul hy2 hp2 (by omega) (by omega)
      have hm0 : 0 ≤ y * P := Int.mul_nonneg hy1 (by omega)
      go_wp2
      go_roundw
      case rel =>
        have e : y * P + u = valL P (d.drop t) := by rw [HY.out, HU.out]; exact (valL_drop P d t (by have := HN.out; omega)).symm
        have hs := valL_small P hp d HD.out HQ.out t
        exact ⟨t - 1, y * P + u, by omega, by omega, by go_num, rfl, by omega, by omega, by unfold Hid; rw [e]; congr 2; omega, hb⟩
      case measure => simp [intOf]
    · obtain rfl : j = -1 := by omega
      go_wp2
      go_ret
      exact ⟨by have := HY.out; rw [show ((-1 : Int) + 1).toNat = 0 from rfl, List.drop_zero] at this; rw [← this]; rfl, hb⟩

set_option maxHeartbeats 2000000 in
theorem multiply2_calls (P : Int) (M : Nat) (A : Option Addr) (low : List Int) (c : Nat) (x y : Int) (w : World) (hr : Rd w A low) (hlow : low.length = M) (hdl : Dig P low)
    (hp : 2 ≤ P) (hp2 : P ≤ 256) (hm : M ≤ 8) (hq : P ^ M ≤ 256) (hm1 : 2 ≤ M) (hx : 0 ≤ x) (hx2 : x < P ^ M) (hy : 0 ≤ y) (hy2 : y < P ^ M) :
    Calls Try.prog 71 #[.agg #[.int .i64 P, .int .i64 M, .slice A M c], .int .i64 x, .int .i64 y] w fun e w' => e = .returned (.int .i64 (mulS P M low x y)) ∧ Below w.heap.size w w' := by
  have hu := Try.underlying24
  have HR := Lib.hid hr
  have HLO := Lib.hid hlow
  have HDLO := Lib.hid hdl
  have HQ := Lib.hid hq
  have HX := Lib.hid (show x ≤ 100000000 by omega)
  have HY := Lib.hid (show y ≤ 100000000 by omega)
  clear hr hlow hdl hq hx2 hy2
  have hL : (digs M x P).length = M := digs_length _ _ _
  have hL2 : (digs M y P).length = M := digs_length _ _ _
  have hdx := digs_dig M x P hp
  have hdy := digs_dig M y P hp
  obtain ⟨a, HA⟩ : ∃ a, Hid (a = digs M x P) := ⟨_, rfl⟩
  obtain ⟨b, HB⟩ : ∃ b, Hid (b = digs M y P) := ⟨_, rfl⟩
  rw [← HA.out] at hL hdx
  rw [← HB.out] at hL2 hdy
  have HL := Lib.hid hL
  have HL2 := Lib.hid hL2
  have HDX := Lib.hid hdx
  have HDY := Lib.hid hdy
  clear hL hL2 hdx hdy
  have hmk := makeInts M (by omega)
  go_enter Try.func71, Try.ntmps71
  go_wp2
  go_region_held3 (fun w' => w'.cell? ⟨w.heap.size, 0, none⟩ = some (.int .i64 P) ∧ w'.cell? ⟨w.heap.size, 1, none⟩ = some (.int .i64 M) ∧ w'.cell? ⟨w.heap.size, 2, none⟩ = some (.slice A M c) ∧ Below (w.alloc (.cells #[.int .i64 P, .int .i64 M, .slice A M c] 24)).heap.size (w.alloc (.cells #[.int .i64 P, .int .i64 M, .slice A M c] 24)) w') (first | (exact keep3 (by simp) (by assumption) (by assumption)) | (exact ⟨by simp, by simp, by simp, (Below.refl _ _).drew⟩))
    (first | (go_at_call_of 60 (Value.int .i64 x); refine (digitsOf_calls x P M _ hx HX.out hp hp2 (by omega)).mono ?_; rintro e w1 ⟨ga, rfl, hga, hoa, hb1⟩) | (go_at_call_of 60 (Value.int .i64 y); refine (digitsOf_calls y P M _ hy HY.out hp hp2 (by omega)).mono ?_; rintro e w2 ⟨gb, rfl, hgb, hob, hb2⟩))
  rename_i hS
  obtain ⟨x0, x1, x2, hb⟩ := hS
  have hs1 := hb1.size
  have hs2 := hb2.size
  simp at hga hs1
  have hla := hoa.lt
  have hlb := hob.lt
  have hoa2 := hoa.below hb2 hla
  rw [← HA.out] at hoa2
  rw [← HB.out] at hob
  have hmade := Own.made w2 M (by omega)
  have HS2 := Lib.hid (show w.heap.size + 1 ≤ w2.heap.size by omega)
  have hlt2 : w.heap.size < w2.heap.size := by omega
  clear hoa hb1 hb2
  go_wp2
  go_loopg [10] M (fun g i wr => ∃ j : Int, -1 ≤ j ∧ j < M ∧ g = (j + 1).toNat ∧ i = .int .i64 j ∧ Own wr w2.heap.size M (hor P low a (b.drop (j + 1).toNat)) ∧ Own wr ga M a ∧ Own wr gb M b ∧ Below (w.alloc (.cells #[.int .i64 P, .int .i64 M, .slice A M c] 24)).heap.size (w.alloc (.cells #[.int .i64 P, .int .i64 M, .slice A M c] 24)) wr)
  case atStart => exact ⟨M - 1, by omega, by omega, by omega, rfl, by rw [show ((M : Int) - 1 + 1).toNat = M from by omega, List.drop_of_length_le (by rw [HL2.out]; exact Nat.le_refl _)]; simpa [hor, HLO.out] using hmade, hoa2.alloc _, hob.alloc _, hb.alloc (by simpa using HS2.out) _⟩
  case round =>
    obtain ⟨j, hj1, hj2, HG, rfl, ho, hoa, hob', hb'⟩ := hrel
    replace HG := Lib.hid HG
    clear hmade hoa2 hob hb x0 x1 x2 hmk
    obtain ⟨x0, x1, x2, hs1'⟩ := box3 hb'
    clear hs1'
    by_cases hlt : 0 ≤ j
    · obtain ⟨t, rfl⟩ := Int.eq_ofNat_of_zero_le hlt
      have HT : Hid (((t : Int) + 1).toNat = t + 1) := by unfold Hid; omega
      rw [HT.out] at ho
      obtain ⟨o, HO⟩ : ∃ o, Hid (o = hor P low a (b.drop (t + 1))) := ⟨_, rfl⟩
      rw [← HO.out] at ho
      have hlo : o.length = M := by rw [HO.out, hor_length _ _ _ _ (by rw [HLO.out]; omega) (by rw [HL.out, HLO.out]), HLO.out]
      have hdo : Dig P o := by rw [HO.out]; exact hor_dig P (by omega) _ _ _
      have hct := ho.cell (M - 1) (by omega)
      obtain ⟨top, HTOP⟩ : ∃ top, Hid (top = o.getD (M - 1) 0) := ⟨_, rfl⟩
      have hdt := hdo (M - 1) (by omega)
      rw [← HTOP.out] at hct hdt
      have HLO2 := Lib.hid hlo
      have HDO := Lib.hid hdo
      have hblk := Lib.hid (show wr.heap[w2.heap.size]? = some (.cells (ints o).toArray 3 (0, 0)) from by have h := ho; rw [← hlo] at h; exact h.block)
      have HOW := Lib.hid ho
      have HOA := Lib.hid hoa
      have HOB := Lib.hid hob'
      have HBB := Lib.hid hb'
      clear hlo hdo ho hoa hob' hb'
      have e1 : ((M : Int) - 1).toNat = M - 1 := by omega
      go_wp2
      have i1 : (1 : Int) ≤ (M : Int) := by omega
      have i2 : ¬ M = 1 := by omega
      have i3 : (0 : Int) ≤ (M : Int) - 1 := by omega
      have i4 : (M : Int) - 1 ≤ (M : Int) := by omega
      have hcs : (ints (o.take (M - 1))).length = M - 1 := by rw [ints_length, List.length_take, HLO2.out]; omega
      have i5 : IntKind.i64.wrap ((M : Int) - 1) = (M : Int) - 1 := IntWalk.i64_in _ (by omega)
      go_region_law ((refine step_copy_splice rfl (.tmp 43) (.tmp 48) 22 22 rfl 3 Try.underlying22 size_int _ _ _ _ _ _ rfl rfl w2.heap.size 1 (ints o) 3 hblk.out (ints (o.take (M - 1))) (by rw [hcs]; simp) (fun _ => ⟨rfl, ⟨w2.heap.size, 0, none⟩, rfl, fun j v hj => by rw [add_plain]; exact HOW.out.cellOf j v (ints_take hj)⟩) (by rw [hcs, ints_length, HLO2.out]; omega) (ints_one _) w2.heap.size wr (Below.refl _ _).drew (Nat.le_refl _) ?_; intro w4 hg4 hb4))
      clear i5
      have hown4 : Own w4 w2.heap.size M (o.take 1 ++ o.take (M - 1)) := by
        have e : splice (ints o) 1 (ints (o.take (M - 1))) = ints (o.take 1 ++ o.take (M - 1)) := by
          unfold splice
          rw [hcs, List.drop_of_length_le (by rw [ints_length, HLO2.out]; omega)]
          simp [ints]
        have h := hg4.out
        rw [e] at h
        have hl : (o.take 1 ++ o.take (M - 1)).length = M := by rw [List.length_append, List.length_take, List.length_take, HLO2.out]; omega
        have := Own.of h (by omega)
        rwa [hl] at this
      obtain ⟨sh, HSH⟩ : ∃ sh, Hid (sh = 0 :: o.take (M - 1)) := ⟨_, rfl⟩
      have hset := hown4.set 0 0
      have e2 : (o.take 1 ++ o.take (M - 1)).set 0 0 = sh := by
        rw [HSH.out]
        cases o with
        | nil => exact absurd HLO2.out (by simp; omega)
        | cons z zs => simp
      rw [e2] at hset
      have HSET := Lib.hid hset
      have hc0 := hown4.cell 0 (by rw [List.length_append, List.length_take, List.length_take, HLO2.out]; omega)
      have hf0 := hown4.free 0
      have HSL : Hid (sh.length = M) := by unfold Hid; rw [HSH.out, List.length_cons, List.length_take, HLO2.out]; omega
      have HOA4 := Lib.hid (HOA.out.below hb4 (by omega))
      have HOB4 := Lib.hid (HOB.out.below hb4 hlb)
      have HBB4 := Lib.hid (HBB.out.trans (hb4.mono (by simp; omega)))
      obtain ⟨bt, HBT⟩ : ∃ bt, Hid (bt = b.getD t 0) := ⟨_, rfl⟩
      have hbt := HDY.out t (by rw [HL2.out]; omega)
      rw [← HBT.out] at hbt
      clear hown4 hset e2 x0 x1 x2 hct hg4 hb4 hblk HOW HOA HOB HBB hcs i1 i2 i3 i4 e1
      go_wp2
      clear hc0 hf0
      go_loopg [54] M (fun g i wi => ∃ k : Nat, k ≤ M ∧ g = M - k ∧ i = .int .i64 k ∧ Own wi w2.heap.size M (rowL P (P - top) bt (sh.take k) (low.take k) (a.take k) ++ sh.drop k) ∧ Own wi ga M a ∧ Own wi gb M b ∧ Below (w.alloc (.cells #[.int .i64 P, .int .i64 M, .slice A M c] 24)).heap.size (w.alloc (.cells #[.int .i64 P, .int .i64 M, .slice A M c] 24)) wi)
      case atStart => exact ⟨0, Nat.zero_le _, rfl, rfl, by simpa [rowL] using HSET.out, HOA4.out.setOther _ (by simp; omega) _, HOB4.out.setOther _ (by simp; omega) _, HBB4.out.setCell (by simp; omega) _⟩
      case round =>
        obtain ⟨k, hk, HG2, rfl, hi1, hi2, hi3, hi4⟩ := hrel
        replace HG2 := Lib.hid HG2
        clear HSET HOA4 HOB4 HBB4
        obtain ⟨x0, x1, x2, hs1'⟩ := box3 hi4
        clear hs1'
        by_cases hlt2 : k < M
        · have hrl : (rowL P (P - top) bt (sh.take k) (low.take k) (a.take k)).length = k := by
            rw [rowL_length _ _ _ _ _ _ (by simp [HSL.out, HLO.out]) (by simp [HSL.out, HL.out])]; simp [HSL.out]; omega
          have ec : (rowL P (P - top) bt (sh.take k) (low.take k) (a.take k) ++ sh.drop k).getD k 0 = sh.getD k 0 := by
            rw [List.getD_eq_getElem?_getD, List.getElem?_append_right (by omega), hrl, Nat.sub_self]; simp [List.getD_eq_getElem?_getD]
          have hc1 := hi1.cell k (by simp [hrl, HSL.out]; omega)
          rw [ec] at hc1
          have hc2 := hi2.cell k (by rw [HL.out]; exact hlt2)
          have hc3 := hi3.cell t (by rw [HL2.out]; omega)
          rw [← HBT.out] at hc3
          have hf1 := hi1.free k
          obtain ⟨ad, rfl, hl, hc⟩ := ((HR.out.alloc _).below hi4 (Nat.le_refl _)).2 (by rw [HLO.out]; omega)
          have hc4 := hc k (by rw [HLO.out]; exact hlt2)
          clear hc hl
          have d1 : 0 ≤ sh.getD k 0 ∧ sh.getD k 0 < P := by
            rw [HSH.out]
            exact Dig.cons (by omega) (by omega) (HDO.out.take _) k (by have := HSL.out; rw [HSH.out] at this; rw [this]; exact hlt2)
          have d2 := HDX.out k (by rw [HL.out]; exact hlt2)
          have d4 := HDLO.out k (by rw [HLO.out]; exact hlt2)
          obtain ⟨so, HSO⟩ : ∃ z, Hid (z = sh.getD k 0) := ⟨_, rfl⟩
          obtain ⟨av, HAV⟩ : ∃ z, Hid (z = a.getD k 0) := ⟨_, rfl⟩
          obtain ⟨lv, HLV⟩ : ∃ z, Hid (z = low.getD k 0) := ⟨_, rfl⟩
          rw [← HSO.out] at hc1 d1
          rw [← HAV.out] at hc2 d2
          rw [← HLV.out] at hc4 d4
          have m1 : 0 ≤ (P - top) * lv := Int.mul_nonneg (by omega) (by omega)
          have m2 : (P - top) * lv ≤ 256 * 256 := Int.mul_le_mul (by omega) (by omega) (by omega) (by omega)
          have m3 : 0 ≤ bt * av := Int.mul_nonneg (by omega) (by omega)
          have m4 : bt * av ≤ 256 * 256 := Int.mul_le_mul (by omega) (by omega) (by omega) (by omega)
          have HS := Lib.hid (hi1.set k ((so + (P - top) * lv + bt * av) % P))
          have HI2 := Lib.hid hi2
          have HI3 := Lib.hid hi3
          have HI4 := Lib.hid hi4
          clear hi1 hi2 hi3 hi4 hrl ec
          go_wp2
          go_region
          go_wp2
          go_roundg (M - (k + 1))
          case measure => have := HG2.out; omega
          case rel =>
            refine ⟨k + 1, by omega, rfl, by go_num, ?_, (HI2.out.drew).setOther _ (by simp; omega) _, (HI3.out.drew).setOther _ (by simp; omega) _, (HI4.out.drew).setCell (by simp; omega) _⟩
            have := HS.out
            rw [HSO.out, HAV.out, HLV.out, rowL_set P (P - top) bt sh low a k M HSL.out HLO.out HL.out hlt2] at this
            rw [HSO.out, HAV.out, HLV.out]; exact this
        · obtain rfl : k = M := by omega
          go_wp2
          go_roundg t
          case measure => have := HG.out; rw [HT.out] at this; omega
          case rel =>
            refine ⟨t - 1, by omega, by omega, by omega, by go_num, ?_, hi2, hi3, hi4⟩
            rw [show ((t : Int) - 1 + 1).toNat = t from by omega, hor_drop P low a b t (by rw [HL2.out]; omega), ← HO.out, ← HBT.out]
            unfold stepL
            rw [HLO2.out, ← HTOP.out, ← HSH.out]
            have := hi1
            rwa [List.take_of_length_le (by rw [HSL.out]; exact Nat.le_refl _), List.take_of_length_le (by rw [HLO.out]; exact Nat.le_refl _), List.take_of_length_le (by rw [HL.out]; exact Nat.le_refl _), List.drop_of_length_le (by rw [HSL.out]; exact Nat.le_refl _), List.append_nil] at this
    · obtain rfl : j = -1 := by omega
      rw [show ((-1 : Int) + 1).toNat = 0 from rfl, List.drop_zero] at ho
      have hl3 : (hor P low a b).length = M := by rw [hor_length _ _ _ _ (by rw [HLO.out]; omega) (by rw [HL.out, HLO.out]), HLO.out]
      have hd3 := hor_dig P (by omega) low a b
      have HV := Lib.hid (show mulS P M low x y = valL P (hor P low a b) from by unfold mulS; rw [← HA.out, ← HB.out])
      have hrd := ho.rd (by rw [hl3]; omega)
      have HC : Hid (Calls Try.prog 61 #[.slice (some ⟨w2.heap.size, 0, none⟩) M M, .int .i64 P] wr fun e w' => e = .returned (.int .i64 (valL P (hor P low a b))) ∧ Below wr.heap.size wr w') := by
        have h := valueOf_calls P (some ⟨w2.heap.size, 0, none⟩) M (hor P low a b) wr hrd hp hp2 hd3 (by rw [hl3]; exact HQ.out) (by rw [hl3]; omega)
        rw [hl3] at h; exact h
      have HBB := Lib.hid hb'
      clear ho hl3 hd3 hrd hoa hob' hb'
      go_wp2_with (go_at_call 61; refine HC.out.mono ?_; rintro e w3 ⟨rfl, hb3⟩)
      go_ret
      exact ⟨by rw [HV.out]; rfl, below_box (below_step HBB.out hb3 HBB.out.size)⟩

end Go.Proofs.Ytjbfccconjjofaa
