/- Twice as many entries as the register is long suffice: the walk of the law. -/
import Derived.Test.YtdbhhfhfjlpepaaGen
import Derived.Test.YtdbhhfhfjlpepaaLfE
namespace Go.Proofs.Ytdbhhfhfjlpepaa
open Go.RowKit
attribute [local go_sem ↓] Go.wp_at_zero Go.wp_at_succ

set_option maxHeartbeats 2000000 in
theorem lawRecovers (P M : Int) (A : Option Addr) (c : Nat) (mod : List Int) (L : Option Addr) (lc : Nat) (l : List Int) (O : Option Addr) (oc : Nat) (o : List Int) (N : Int) (w : World) (hr : Rd w A mod) (hnil : A = none → c = 0) (hrl : Rd w L l) (hro : Rd w O o) :
    Calls Try.prog 4 #[.agg #[.int .i64 P, .int .i64 M, .slice A mod.length c], .agg #[.slice L l.length lc, .slice O o.length oc], .int .i64 N] w fun e w' => e = .returned (.bool true) ∧ Below w.heap.size w w' := by
  have hu := Try.underlying24
  have HR := Lib.hid hr
  have HNIL := Lib.hid hnil
  have HRL := Lib.hid hrl
  have HRO := Lib.hid hro
  have hln := hrl.1
  have hon := hro.1
  clear hr hnil hrl hro
  obtain ⟨nl, HNL⟩ : ∃ n, Hid (n = l.length) := ⟨_, rfl⟩
  obtain ⟨no, HNO⟩ : ∃ n, Hid (n = o.length) := ⟨_, rfl⟩
  rw [← HNL.out] at hln ⊢
  rw [← HNO.out] at hon ⊢
  obtain ⟨n, HN⟩ : ∃ n, Hid (n = mod.length) := ⟨_, rfl⟩
  rw [← HN.out]
  have HMADE : Hid (∀ W1 : World, Rd W1 A mod → Calls Try.prog 14 #[.agg #[.int .i64 P, .int .i64 M, .slice A n c]] W1 fun e w' => MadeSRet P M mod W1 e w') := by
    intro W1 h1; rw [HN.out]; exact madeS_calls P M A c mod W1 h1 HNIL.out
  go_enter Try.func4, Try.ntmps4
  go_wp2_with fail
  go_at_call 13
  refine (aliveS_calls _).mono ?_
  rintro e w1 ⟨rfl, hb1⟩
  have hb0 := below_box hb1
  obtain ⟨k0, k1, k2, _⟩ := box3 hb0
  have hy := box2 hb1
  rw [World.size_alloc] at hy
  obtain ⟨y0, y1⟩ := hy
  have kb := below_box hb0
  have HR1 := Lib.hid ((HR.out.alloc _).below hb0 (Nat.le_refl _))
  clear hb1 hb0
  go_wp2_with fail
  go_at_call 14
  refine (HMADE.out _ HR1.out).mono ?_
  rintro e w2 ⟨hret, hb2⟩
  have HR3 := Lib.hid (HR1.out.below hb2 (Nat.le_refl _))
  replace y0 := (hb2.cell (World.block_lt_of_cell? w1 _ y0)).trans y0
  replace y1 := (hb2.cell (World.block_lt_of_cell? w1 _ y1)).trans y1
  (have hk := keepS k0 k1 k2 hb2; replace kb := below_step kb hb2 kb.size; clear k0 k1 k2 hb2; obtain ⟨k0, k1, k2, _⟩ := hk)
  have HB := Lib.hid kb
  have HL2 := Lib.hid (HRL.out.below kb (Nat.le_refl _))
  have HO2 := Lib.hid (HRO.out.below kb (Nat.le_refl _))
  clear kb
  have HBQ := Lib.hid (fun k => below_drewN (Below.refl w2.heap.size w2) k)
  have hret2 := hret
  clear hret
  rcases hret2 with ⟨rfl, hno⟩ | ⟨g, S, rfl, rfl, rfl, rfl, hf⟩
  · clear hno
    go_wp2
    go_quiet (fail)
    go_wp2
    go_ret
    exact ⟨rfl, below_step HB.out (HBQ.out _) HB.out.size⟩
  · have HF := Lib.hid hf
    clear hf
    go_wp2
    go_quiet (fail)
    by_cases h8 : 8 < no
    · have h8' : (8 : Int) < (no : Int) := by omega
      go_wp2
      go_ret
      exact ⟨by first | rfl | (simp; done) | (simp; omega), below_step HB.out (HBQ.out _) HB.out.size⟩
    by_cases h9 : 9 < nl
    · have h8' : ¬ (8 : Int) < (no : Int) := by omega
      have h9' : (9 : Int) < (nl : Int) := by omega
      go_wp2
      go_ret
      exact ⟨by first | rfl | (simp; done) | (simp; omega), below_step HB.out (HBQ.out _) HB.out.size⟩
    have h8' : ¬ (8 : Int) < (no : Int) := by omega
    have h9' : ¬ (9 : Int) < (nl : Int) := by omega
    have HK := Lib.hid (fun (W : World) (h : Below w2.heap.size w2 W) => keepS k0 k1 k2 h)
    obtain ⟨p, HP⟩ : ∃ p : Prop, Hid (p ↔ S.IsReg l no) := ⟨_, Iff.rfl⟩
    obtain ⟨rc, HRC⟩ : ∃ rc : Nat → List Int, Hid (∀ k, rc k = S.recu l o k) := ⟨_, fun _ => rfl⟩
    have HRL2 : Hid (∀ k, (rc k).length = k) := fun k => by rw [HRC.out]; exact S.recu_length l o k
    have CR : Hid (∀ W, Below w2.heap.size w2 W → Calls Try.prog 17 #[.agg #[.int .i64 S.P, .int .i64 S.M, .slice A n c], .slice L nl lc, .int .i64 no] W fun e w' => BoolIs p W e w') := by
      intro W h
      rw [propext HP.out, HNL.out]
      exact rReg S A n c L lc l no W (HL2.out.below h (Nat.le_refl _)) (by rw [← HNL.out]; omega)
    have CN : Hid (∀ W (k : Nat), Below w2.heap.size w2 W → k ≤ 100 → Calls Try.prog 19 #[.agg #[.int .i64 S.P, .int .i64 S.M, .slice A n c], .slice L nl lc, .slice O no oc, .int .i64 k] W fun e w' => ∃ bo, e = .returned (.slice (some ⟨bo, 0, none⟩) k k) ∧ Rd w' (some ⟨bo, 0, none⟩) (rc k) ∧ Below W.heap.size W w') := by
      intro W k h hk
      have := rGen S A c L lc l O oc o k W (HR3.out.below h (Nat.le_refl _)) (HL2.out.below h (Nat.le_refl _)) (HO2.out.below h (Nat.le_refl _)) (by rw [← HNL.out]; omega) (by rw [← HNO.out]; omega) (by omega) n HN.out
      rw [← HNL.out, ← HNO.out, ← HRC.out] at this
      exact this
    have CS : Hid (∀ W (k : Nat) A7 c7 A8 c8, k ≤ 100 → Rd W A7 (rc k) → Rd W A8 (rc k) → Calls Try.prog 18 #[.slice A7 k c7, .slice A8 k c8] W fun e w' => e = .returned (.bool true) ∧ Below W.heap.size W w') := by
      intro W k A7 c7 A8 c8 hk h1 h2
      have := lawsame_calls A7 c7 (rc k) A8 c8 (rc k) W h1 h2 rfl (by rw [HRL2.out]; omega)
      rw [HRL2.out] at this
      exact this
    obtain ⟨P, HPP⟩ : ∃ P, Hid (P = S.P) := ⟨_, rfl⟩
    obtain ⟨M, HMM⟩ : ∃ M, Hid (M = S.M) := ⟨_, rfl⟩
    rw [← HPP.out, ← HMM.out] at CR CN HK
    rw [← HPP.out] at k0
    rw [← HMM.out] at k1
    rw [← HPP.out, ← HMM.out]
    go_wp2_with fail
    go_at_call 17
    refine (CR.out _ (HBQ.out _)).mono ?_
    rintro e w4 ⟨b, rfl, hbi, hb4⟩
    replace hb4 := below_step (HBQ.out _) hb4 (HBQ.out _).size
    have HB4 := Lib.hid hb4
    clear k0 k1 k2
    obtain ⟨k0, k1, k2, _⟩ := HK.out _ hb4
    clear hb4
    cases b
    · go_wp2
      go_ret
      exact ⟨by first | rfl | (simp; done) | (simp; omega), below_step HB.out HB4.out HB.out.size⟩
    · have HPY : Hid p := hbi.1 rfl
      clear hbi
      by_cases hN0 : N < 0
      · go_wp2
        go_ret
        exact ⟨by first | rfl | (simp; done) | (simp; omega), below_step HB.out HB4.out HB.out.size⟩
      by_cases hN1 : 16 < N
      · go_wp2
        go_ret
        exact ⟨by first | rfl | (simp; done) | (simp; omega), below_step HB.out HB4.out HB.out.size⟩
      obtain ⟨k, rfl⟩ := Int.eq_ofNat_of_zero_le (show 0 ≤ N by omega)
      have hk16 : k ≤ 16 := by omega
      have hN0' : ¬ (k : Int) < 0 := hN0
      have hN1' : ¬ (16 : Int) < (k : Int) := hN1
      obtain ⟨nn, HNN⟩ : ∃ nn, Hid (nn = 2 * no) := ⟨_, rfl⟩
      obtain ⟨NN, HN2⟩ : ∃ NN, Hid (NN = nn + k) := ⟨_, rfl⟩
      have e1 : 2 * (no : Int) = (nn : Int) := by rw [HNN.out]; omega
      have e2 : (nn : Int) + (k : Int) = (NN : Int) := by rw [HN2.out]; omega
      have hnn : nn ≤ 16 := by rw [HNN.out]; omega
      have hNN : NN ≤ 32 := by rw [HN2.out]; omega
      have e3 : IntKind.i64.wrap (nn : Int) = (nn : Int) := IntWalk.i64_in _ (by omega)
      have e4 : IntKind.i64.wrap (NN : Int) = (NN : Int) := IntWalk.i64_in _ (by omega)
      have hle : nn ≤ NN := by rw [HN2.out]; omega
      obtain ⟨⟨c0, b0⟩, HB0⟩ : ∃ b : List Int × Nat, Hid (b = ((S.bm ((rc NN).take nn)).c, (S.bm ((rc NN).take nn)).l)) := ⟨_, rfl⟩
      have hc0 : (S.bm ((rc NN).take nn)).c = c0 := (congrArg Prod.fst HB0.out).symm
      have hb0 : (S.bm ((rc NN).take nn)).l = b0 := (congrArg Prod.snd HB0.out).symm
      have htl : ((rc NN).take nn).length = nn := by rw [List.length_take, HRL2.out]; omega
      have HREC : Hid (b0 ≤ no ∧ S.IsReg c0 b0 ∧ S.recu c0 ((rc NN).take b0) NN = rc NN ∧ c0.length ≤ 1000) := by
        obtain ⟨j, ej, hreg⟩ := HP.out.1 HPY.out
        obtain rfl : no = j := by omega
        have h1 := S.recovers HF.out.inv l o NN (by rw [← HNO.out]; exact hreg) (by rw [← HNO.out, ← HNN.out]; exact hle)
        rw [← HNO.out, ← HNN.out, ← HRC.out] at h1
        have h2 : BM.run S ((rc NN).take nn) nn = S.bm ((rc NN).take nn) := by unfold FS.bm; rw [htl]
        rw [h2, hc0, hb0] at h1
        obtain ⟨K, ol, hok⟩ := BM.run_ok HF.out.inv ((rc NN).take nn) nn
        rw [h2] at hok
        have h3 := hok.clen
        rw [hc0, hb0] at h3
        have := h1.1
        exact ⟨h1.1, h1.2.1, h1.2.2, by omega⟩
      obtain ⟨nc, HNC⟩ : ∃ nc, Hid (nc = c0.length) := ⟨_, rfl⟩
      have CSH : Hid (∀ W bo, Below w2.heap.size w2 W → Rd W (some ⟨bo, 0, none⟩) (rc NN) → Calls Try.prog 21 #[.pointer (some ⟨g, 0, none⟩), .slice (some ⟨bo, 0, none⟩) nn NN] W fun e w' => ∃ A c, e = .returned (.tuple #[.slice A nc c, .int .i64 b0]) ∧ Rd w' A c0 ∧ Below W.heap.size W w') := by
        intro W bo h h1
        have := shortest_calls g S (some ⟨bo, 0, none⟩) NN ((rc NN).take nn) W (HF.out.below h) (h1.take nn (by rw [HRL2.out]; exact hle)) (by rw [htl]; omega)
        rw [htl, hc0, hb0, ← HNC.out] at this
        exact this
      have CG : Hid (∀ W bo A7 c7, Below w2.heap.size w2 W → Rd W (some ⟨bo, 0, none⟩) (rc NN) → Rd W A7 c0 → Calls Try.prog 16 #[.pointer (some ⟨g, 0, none⟩), .slice A7 nc c7, .slice (some ⟨bo, 0, none⟩) b0 NN, .int .i64 NN] W fun e w' => ∃ A c, e = .returned (.tuple #[.slice A NN c, .int .i64 0]) ∧ Rd w' A (rc NN) ∧ Below W.heap.size W w') := by
        intro W bo A7 c7 h h1 h2
        have hb1 := HREC.out.1
        have hbl : ((rc NN).take b0).length = b0 := by rw [List.length_take, HRL2.out]; have := HNN.out; omega
        have := lfGen_calls g S A7 c7 c0 (some ⟨bo, 0, none⟩) NN ((rc NN).take b0) NN W (HF.out.below h) h2 (h1.take b0 (by rw [HRL2.out]; have := HNN.out; omega)) HREC.out.2.2.2 (by rw [hbl]; omega)
        rw [hbl, ← HNC.out] at this
        refine this.mono ?_
        rintro e w' ⟨h3, h4⟩
        rw [hbl] at h3
        rcases h3 with ⟨_, h3⟩ | ⟨_, _, h3⟩ | ⟨j, A8, c8, ej, _, _, rfl, h5⟩
        · exact absurd HREC.out.2.1 h3
        · omega
        · obtain rfl : NN = j := by omega
          rw [HREC.out.2.2.1] at h5
          exact ⟨A8, c8, rfl, h5, h4⟩
      have hb0n : b0 ≤ no := HREC.out.1
      have hb0N : b0 ≤ NN := by have := HNN.out; omega
      clear HP HRC HRL2 HF hln hon HREC HB0 hc0 hb0 htl HPY
      go_wp2_with fail
      go_at_call 19
      refine (CN.out _ NN HB4.out (by omega)).mono ?_
      rintro e w5 ⟨bo, rfl, hr5, hb5⟩
      have HB5 := Lib.hid (below_step HB4.out hb5 HB4.out.size)
      have HR5 := Lib.hid hr5
      clear hb5 hr5 k0 k1 k2
      obtain ⟨k0, k1, k2, _⟩ := HK.out _ HB5.out
      go_wp2_with fail
      go_at_call 21
      refine (CSH.out _ bo HB5.out HR5.out).mono ?_
      rintro e w6 ⟨A6, c6, rfl, hr6, hb6⟩
      have HB6 := Lib.hid (below_step HB5.out hb6 HB5.out.size)
      have HR56 := Lib.hid (HR5.out.below hb6 (Nat.le_refl _))
      have HR6 := Lib.hid hr6
      clear hb6 hr6 k0 k1 k2
      obtain ⟨k0, k1, k2, _⟩ := HK.out _ HB6.out
      have hb00 : ¬ (b0 : Int) < 0 := by omega
      have hb01 : ¬ (no : Int) < (b0 : Int) := by omega
      go_wp2_with fail
      go_at_call 16
      refine (CG.out _ bo A6 c6 HB6.out HR56.out HR6.out).mono ?_
      rintro e w7 ⟨A7, c7, rfl, hr7, hb7⟩
      have HB7 := Lib.hid (below_step HB6.out hb7 HB6.out.size)
      have HR57 := Lib.hid (HR56.out.below hb7 (Nat.le_refl _))
      have HR7 := Lib.hid hr7
      clear hb7 hr7
      go_wp2_with fail
      go_at_call 18
      refine (CS.out _ NN A7 c7 (some ⟨bo, 0, none⟩) NN (by omega) HR7.out HR57.out).mono ?_
      rintro e w8 ⟨rfl, hb8⟩
      have HB8 := Lib.hid (below_step HB7.out hb8 HB7.out.size)
      clear hb8
      go_wp2
      go_ret
      exact ⟨by first | rfl | (simp; done) | (simp; omega), below_step HB.out HB8.out HB.out.size⟩

end Go.Proofs.Ytdbhhfhfjlpepaa
