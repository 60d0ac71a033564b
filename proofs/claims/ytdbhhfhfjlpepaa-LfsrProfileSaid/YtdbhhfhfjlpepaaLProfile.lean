/- The profile has the complexities of all beginnings: the walk of the law. -/
import Derived.Test.YtdbhhfhfjlpepaaBmK
import Derived.Test.YtdbhhfhfjlpepaaCpx
import Derived.Test.YtdbhhfhfjlpepaaLfE
namespace Go.Proofs.Ytdbhhfhfjlpepaa
open Go.RowKit
attribute [local go_sem ↓] Go.wp_at_zero Go.wp_at_succ

theorem FS.profile_len (S : FS) (s : List Int) : (S.prof s).length = s.length + 1 := by simp [FS.prof]
theorem FS.profile_at (S : FS) (s : List Int) (n : Nat) (h : n ≤ s.length) : (S.prof s).getD n 0 = ((BM.run S s n).l : Int) := by
  cases n with
  | zero => rfl
  | succ n => simp [FS.prof, List.getD_eq_getElem?_getD, show n < s.length by omega]
theorem BM.run_take (S : FS) (s : List Int) (n : Nat) : ∀ k, k ≤ n → BM.run S (s.take n) k = BM.run S s k
  | 0, _ => rfl
  | k + 1, h => by
    show BM.step S (s.take n) (BM.run S (s.take n) k) k = BM.step S s (BM.run S s k) k
    rw [BM.run_take S s n k (by omega)]
    have e : ∀ c : List Int, El.cv (S.sq c) (S.sq (s.take n)) k = El.cv (S.sq c) (S.sq s) k := fun c => El.cv_congr k (fun i _ => rfl) fun i hi => S.sq_take s n i (by omega)
    unfold BM.step
    rw [e]
theorem FS.bm_take (S : FS) (s : List Int) (n : Nat) (h : n ≤ s.length) : S.bm (s.take n) = BM.run S s n := by
  unfold FS.bm
  rw [List.length_take, Nat.min_eq_left h, BM.run_take S s n n (Nat.le_refl _)]

set_option maxHeartbeats 2000000 in
theorem lawProfile (P M : Int) (A : Option Addr) (c : Nat) (mod : List Int) (L : Option Addr) (lc : Nat) (l : List Int) (w : World) (hr : Rd w A mod) (hnil : A = none → c = 0) (hrl : Rd w L l) (hcap : l.length ≤ lc) :
    Calls Try.prog 7 #[.agg #[.int .i64 P, .int .i64 M, .slice A mod.length c], .slice L l.length lc] w fun e w' => e = .returned (.bool true) ∧ Below w.heap.size w w' := by
  have hu := Try.underlying24
  have HR := Lib.hid hr
  have HNIL := Lib.hid hnil
  have HRL := Lib.hid hrl
  have hln := hrl.1
  have HCAP := Lib.hid hcap
  clear hr hnil hrl hcap
  obtain ⟨nl, HNL⟩ : ∃ n, Hid (n = l.length) := ⟨_, rfl⟩
  rw [← HNL.out] at hln HCAP ⊢
  obtain ⟨n, HN⟩ : ∃ n, Hid (n = mod.length) := ⟨_, rfl⟩
  rw [← HN.out]
  have HMADE : Hid (∀ W1 : World, Rd W1 A mod → Calls Try.prog 14 #[.agg #[.int .i64 P, .int .i64 M, .slice A n c]] W1 fun e w' => MadeSRet P M mod W1 e w') := by
    intro W1 h1; rw [HN.out]; exact madeS_calls P M A c mod W1 h1 HNIL.out
  go_enter Try.func7, Try.ntmps7
  go_wp2_with fail
  go_at_call 13
  refine (aliveS_calls _).mono ?_
  rintro e w1 ⟨rfl, hb1⟩
  obtain ⟨k0, k1, k2, _⟩ := box3 hb1
  have kb := below_box hb1
  have HR1 := Lib.hid ((HR.out.alloc _).below hb1 (Nat.le_refl _))
  clear hb1
  go_wp2_with fail
  go_at_call 14
  refine (HMADE.out _ HR1.out).mono ?_
  rintro e w2 ⟨hret, hb2⟩
  have HR3 := Lib.hid (HR1.out.below hb2 (Nat.le_refl _))
  (have hk := keepS k0 k1 k2 hb2; replace kb := below_step kb hb2 kb.size; clear k0 k1 k2 hb2; obtain ⟨k0, k1, k2, _⟩ := hk)
  have HB := Lib.hid kb
  have HL2 := Lib.hid (HRL.out.below kb (Nat.le_refl _))
  clear kb
  rcases hret with ⟨rfl, hno⟩ | ⟨g, S, rfl, rfl, rfl, rfl, hf⟩
  · clear hno
    go_wp2
    go_ret
    exact ⟨rfl, HB.out⟩
  · have HF := Lib.hid hf
    clear hf
    have HK := Lib.hid (fun (W : World) (h : Below w2.heap.size w2 W) => keepS k0 k1 k2 h)
    by_cases hlong : nl ≤ 16
    rotate_left
    · have hl1 : (16 : Int) < (nl : Int) := by omega
      go_wp2
      go_ret
      exact ⟨by first | rfl | (simp; done) | (simp; omega), HB.out⟩
    · obtain ⟨q, HQ⟩ : ∃ q : Nat → Nat, Hid (∀ i, q i = (BM.run S l i).l) := ⟨_, fun _ => rfl⟩
      have HAT : Hid (∀ i, i ≤ nl → (S.prof l).getD i 0 = (q i : Int)) := fun i hi => by rw [HQ.out]; exact S.profile_at l i (by rw [← HNL.out]; exact hi)
      have HPL : Hid ((S.prof l).length = nl + 1) := by unfold Hid; rw [S.profile_len, HNL.out]
      have CP : Hid (∀ W, Below w2.heap.size w2 W → Calls Try.prog 24 #[.pointer (some ⟨g, 0, none⟩), .slice L nl lc] W fun e w' => ∃ A c, e = .returned (.slice A (nl + 1) c) ∧ Rd w' A (S.prof l) ∧ Below W.heap.size W w') := by
        intro W h
        have := profile_calls g S L lc l W (HF.out.below h) (HL2.out.below h (Nat.le_refl _)) (by rw [← HNL.out]; omega)
        rw [← HNL.out] at this
        refine this.mono ?_
        rintro e w' ⟨A7, c7, h1, h2, _, _, _, h3⟩
        rw [HPL.out] at h1
        exact ⟨A7, c7, h1, h2, h3⟩
      have CX : Hid (∀ W (i : Nat), Below w2.heap.size w2 W → i ≤ nl → Calls Try.prog 22 #[.agg #[.int .i64 S.P, .int .i64 S.M, .slice A n c], .slice L i lc] W fun e w' => e = .returned (.int .i64 (q i)) ∧ Below W.heap.size W w') := by
        intro W i h hi
        have e1 : (l.take i).length = i := by rw [List.length_take, ← HNL.out]; omega
        have := complexity_calls S HF.out.inv A c n L lc (l.take i) W (HR3.out.below h (Nat.le_refl _)) HN.out ((HL2.out.below h (Nat.le_refl _)).take i (by rw [← HNL.out]; exact hi)) (by rw [e1]; omega)
        rw [e1, S.bm_take l i (by rw [← HNL.out]; exact hi), ← HQ.out] at this
        exact this
      obtain ⟨pl, HPF⟩ : ∃ pl, Hid (pl = S.prof l) := ⟨_, rfl⟩
      rw [← HPF.out] at CP HAT HPL
      obtain ⟨P, HPP⟩ : ∃ P, Hid (P = S.P) := ⟨_, rfl⟩
      obtain ⟨M, HMM⟩ : ∃ M, Hid (M = S.M) := ⟨_, rfl⟩
      rw [← HPP.out, ← HMM.out] at CX HK
      rw [← HPP.out] at k0
      rw [← HMM.out] at k1
      rw [← HPP.out, ← HMM.out]
      clear HQ HF HPF
      have hnw : IntKind.i64.wrap ((nl : Int) + 1) = ((nl + 1 : Nat) : Int) := by rw [IntWalk.i64_in _ (by omega)]; omega
      obtain ⟨np, HNP⟩ : ∃ np, Hid (np = nl + 1) := ⟨_, rfl⟩
      rw [← HNP.out] at CP HPL hnw
      have hnp : (nl : Int) + 1 = (np : Int) := by rw [HNP.out]; omega
      have hnp17 : np ≤ 17 := by rw [HNP.out]; omega
      go_wp2_with fail
      go_at_call 24
      refine (CP.out _ (Below.refl _ _)).mono ?_
      rintro e w5 ⟨A5, c5, rfl, hr5, hb5⟩
      have HB5 := Lib.hid hb5
      have HR5 := Lib.hid hr5
      clear hb5 hr5 k0 k1 k2
      obtain ⟨k0, k1, k2, _⟩ := HK.out _ HB5.out
      go_wp2
      go_loopg [30] np (fun g2 t wr => ∃ j : Nat, j ≤ np ∧ g2 = np - j ∧ t = .int .i64 j ∧ Below w5.heap.size w5 wr)
      case atStart => exact ⟨0, Nat.zero_le _, rfl, rfl, Below.refl _ _⟩
      case round =>
        obtain ⟨j, hj, HGQ, rfl, hb⟩ := hrel
        replace HGQ := Lib.hid HGQ
        have HBL := Lib.hid hb
        clear hb hnp hnw
        by_cases hlt : j < np
        · have hjn : j ≤ nl := by have := HNP.out; omega
          obtain ⟨ad, rfl, hc⟩ := HR5.out.get j (by rw [HPL.out]; exact hlt)
          rw [HAT.out j hjn] at hc
          obtain ⟨z, HZ⟩ : ∃ z, Hid (z = q j) := ⟨_, rfl⟩
          rw [← HZ.out] at hc
          have CXJ : Hid (∀ W, Below w5.heap.size w5 W → Calls Try.prog 22 #[.agg #[.int .i64 P, .int .i64 M, .slice A n c], .slice L j lc] W fun e w' => e = .returned (.int .i64 z) ∧ Below W.heap.size W w') := fun W h => by
            rw [HZ.out]; exact CX.out W j (below_step HB5.out h HB5.out.size) hjn
          have i1 : (0 : Int) ≤ (j : Int) := by omega
          have i2 : (j : Int) < (np : Int) := by omega
          have i3 : j ≤ lc := by have := HCAP.out; omega
          have i4 : (j : Int) ≤ (lc : Int) := by omega
          go_wp2
          go_region_held3 (fun wz => wz.cell? (ad.add j) = some (.int .i64 z) ∧ wz.cell? ⟨w.heap.size, 0, none⟩ = some (.int .i64 P) ∧ wz.cell? ⟨w.heap.size, 1, none⟩ = some (.int .i64 M) ∧ wz.cell? ⟨w.heap.size, 2, none⟩ = some (.slice A n c) ∧ Below w5.heap.size w5 wz) (first | (exact keepQS hc k0 k1 k2 (by assumption) (by assumption)) | (exact keepQ hc k0 k1 k2 HBL.out.drew)) ((go_at_call 22; refine (CXJ.out _ (belowQ (by assumption))).mono ?_; rintro e w6 ⟨rfl, hb6⟩))
          rename_i hS
          have HB6 := Lib.hid (belowQ hS)
          clear hS hc hb6
          go_wp2
          go_roundg (np - (j + 1))
          case measure => have := HGQ.out; omega
          case rel => exact ⟨j + 1, by omega, rfl, by go_num, HB6.out⟩
        · have i2 : ¬ (j : Int) < (np : Int) := by omega
          go_wp2
          go_ret
          exact ⟨rfl, below_step HB.out (below_step HB5.out HBL.out HB5.out.size) HB.out.size⟩

end Go.Proofs.Ytdbhhfhfjlpepaa
