/- An element has its coefficients, and comes back from them: the walk of the law. -/
import Derived.Test.YtjbfccconjjofaaDig
import Derived.Test.YtjbfccconjjofaaRefPow
namespace Go.Proofs.Ytjbfccconjjofaa
open Go.RowKit
attribute [local go_sem ↓] Go.wp_at_zero Go.wp_at_succ

set_option maxHeartbeats 2000000 in
theorem lawDigits (P M : Int) (A : Option Addr) (c : Nat) (mod : List Int) (x : Int) (B : Option Addr) (bc : Nat) (d : List Int) (w : World) (hr : Rd w A mod) (hnil : A = none → c = 0) (hrd : Rd w B d) (_hnd : B = none → bc = 0) :
    Calls Try.prog 9 #[.agg #[.int .i64 P, .int .i64 M, .slice A mod.length c], .int .i64 x, .slice B d.length bc] w fun e w' => e = .returned (.bool true) ∧ Below w.heap.size w w' := by
  have hu := Try.underlying24
  have HR := Lib.hid hr
  have HNIL := Lib.hid hnil
  have HRD := Lib.hid hrd
  have hln := hrd.1
  clear hr hnil hrd
  obtain ⟨nd, HND⟩ : ∃ n, Hid (n = d.length) := ⟨_, rfl⟩
  rw [← HND.out] at hln ⊢
  obtain ⟨n, HN⟩ : ∃ n, Hid (n = mod.length) := ⟨_, rfl⟩
  rw [← HN.out]
  have HMADE : Hid (∀ W1 : World, Rd W1 A mod → Calls Try.prog 18 #[.agg #[.int .i64 P, .int .i64 M, .slice A n c]] W1 fun e w' => MadeRet P M mod W1 e w') := by
    intro W1 h1; rw [HN.out]; exact made_calls P M A c mod W1 h1 HNIL.out
  have HNONE : Hid (∀ W1 : World, Rd W1 A mod → ¬ RefGood P M mod → Calls Try.prog 19 #[.agg #[.int .i64 P, .int .i64 M, .slice A n c]] W1 fun e w' => e = .returned (.bool true) ∧ Below W1.heap.size W1 w') := by
    intro W1 h1 h2; rw [HN.out]; exact none_calls P M A c mod W1 h1 HNIL.out h2
  go_enter Try.func9, Try.ntmps9
  go_wp2_with fail
  go_at_call 17
  refine (alive_calls _).mono ?_
  rintro e w1 ⟨rfl, hb1⟩
  obtain ⟨x0, x1, x2, hs1⟩ := box3 hb1
  go_wp2_with fail
  go_at_call 18
  refine (HMADE.out _ ((HR.out.alloc _).below hb1 (Nat.le_refl _))).mono ?_
  rintro e w2 ⟨hret, hb2⟩
  have hb3 := below_step hb1 hb2 hb1.size
  clear x0 x1 x2 hs1
  obtain ⟨x0, x1, x2, hs1⟩ := box3 hb3
  have HR3 := Lib.hid ((HR.out.alloc _).below hb3 (Nat.le_refl _))
  have HB := Lib.hid (below_box hb3)
  clear hb1 hb2 hb3
  rcases hret with ⟨v, rfl, hno⟩ | ⟨g, m, q, p, ex, lg, rfl, rfl, hg1, hg2, hg3⟩
  · have HNO := Lib.hid hno
    clear hno
    go_wp2_with fail
    go_at_call 19
    refine (HNONE.out _ HR3.out HNO.out).mono ?_
    rintro e w3 ⟨rfl, hb4⟩
    go_wp2
    go_ret
    exact ⟨rfl, below_step HB.out hb4 HB.out.size⟩
  · have HG2 := Lib.hid hg2
    have HG3 := Lib.hid hg3
    clear hg1 hg2 hg3
    have HRD2 := Lib.hid (HRD.out.below HB.out (Nat.le_refl _))
    have hp := HG3.out.shp.p2
    have hp2 := HG3.out.shp.p256
    have hm8 := HG3.out.shp.m8
    have hm1 := HG3.out.shp.m1
    have HQP := Lib.hid HG3.out.shp.q
    have HQE := Lib.hid HG3.out.hq
    have HBD := Lib.hid (inn_bd (q := (q : Int)) (x := x) (by have := HG3.out.q256; omega))
    obtain ⟨X, HX⟩ : ∃ z, Hid (z = inn q x) := ⟨_, rfl⟩
    obtain ⟨dl, HDL⟩ : ∃ l, Hid (l = digs m (inn q x) P) := ⟨_, rfl⟩
    have HDN : Hid (dl.length = m) := by unfold Hid; rw [HDL.out, digs_length]
    have HDD : Hid (Dig P dl) := by unfold Hid; rw [HDL.out]; exact digs_dig _ _ _ hp
    have HDV : Hid (valL P dl = X) := by unfold Hid; rw [HDL.out, HX.out, val_digs P hp m _ HBD.out.1 (by rw [← HQE.out]; exact HBD.out.2)]
    have CD : Hid (∀ W1 : World, Below w2.heap.size w2 W1 → Calls Try.prog 35 #[.pointer (some ⟨g, 0, none⟩), .int .i64 x] W1 fun e w' => ∃ gd, e = .returned (.slice (some ⟨gd, 0, none⟩) m m) ∧ W1.heap.size ≤ gd ∧ Own w' gd m dl ∧ Below W1.heap.size W1 w') := by
      intro W1 h; rw [HDL.out]; exact gfDigits_calls g P m mod q ex lg p x W1 (HG2.out.below h) HG3.out
    have CF : Hid (∀ (W1 : World) (gd : Nat), Below w2.heap.size w2 W1 → Own W1 gd m dl → Calls Try.prog 36 #[.pointer (some ⟨g, 0, none⟩), .slice (some ⟨gd, 0, none⟩) m m] W1 fun e w' => e = .returned (.tuple #[.int .i64 X, .int .i64 0]) ∧ Below W1.heap.size W1 w') := by
      intro W1 gd h1 h2
      have h := gfFrom_calls g P m mod q ex lg p (some ⟨gd, 0, none⟩) m dl W1 (HG2.out.below h1) HG3.out (h2.rd (by rw [HDN.out]; omega))
      rw [HDN.out] at h
      refine h.mono fun e w' hh => ⟨?_, hh.2⟩
      rcases hh.1 with ⟨h3, _⟩ | ⟨_, h3, _⟩ | ⟨_, _, h3⟩
      · exact absurd HDN.out h3
      · exact absurd HDD.out h3
      · rw [h3, HDV.out]
    have CR : Hid (∀ W1 : World, Calls Try.prog 38 #[.agg #[.int .i64 P, .int .i64 m, .slice A n c], .int .i64 x] W1 fun e w' => ∃ gd, e = .returned (.slice (some ⟨gd, 0, none⟩) m m) ∧ W1.heap.size ≤ gd ∧ Own w' gd m dl ∧ Below W1.heap.size W1 w') := by
      intro W1; rw [HDL.out, HQE.out]; exact refDigits_calls P m A n c x W1 hp hp2 hm8 HQP.out hm1
    have CI : Hid (∀ W1 : World, Calls Try.prog 23 #[.agg #[.int .i64 P, .int .i64 m, .slice A n c], .int .i64 x] W1 fun e w' => e = .returned (.int .i64 X) ∧ Below W1.heap.size W1 w') := by
      intro W1; rw [HX.out, ← HG3.out.ordq]; exact refIn_calls P m A n c x W1
    have CS : Hid (∀ (W1 : World) (ga gb : Nat), Own W1 ga m dl → Own W1 gb m dl → Calls Try.prog 37 #[.slice (some ⟨ga, 0, none⟩) m m, .slice (some ⟨gb, 0, none⟩) m m] W1 fun e w' => e = .returned (.bool true) ∧ Below W1.heap.size W1 w') := by
      intro W1 ga gb h1 h2
      have h := lawsame_calls (some ⟨ga, 0, none⟩) m dl (some ⟨gb, 0, none⟩) m dl W1 (h1.rd (by rw [HDN.out]; omega)) (h2.rd (by rw [HDN.out]; omega)) rfl (by rw [HDN.out]; omega)
      rwa [HDN.out] at h
    have CG : Hid (∀ W1 : World, Below w2.heap.size w2 W1 → Calls Try.prog 36 #[.pointer (some ⟨g, 0, none⟩), .slice B nd bc] W1 fun e w' => FromRet P m d e ∧ Below W1.heap.size W1 w') := by
      intro W1 h1; rw [HND.out]; exact gfFrom_calls g P m mod q ex lg p B bc d W1 (HG2.out.below h1) HG3.out (HRD2.out.below h1 (Nat.le_refl _))
    have CV : Hid (∀ W1 : World, Below w2.heap.size w2 W1 → d.length = m → Dig P d → Calls Try.prog 39 #[.agg #[.int .i64 P, .int .i64 m, .slice A n c], .slice B nd bc] W1 fun e w' => e = .returned (.int .i64 (valL P d)) ∧ Below W1.heap.size W1 w') := by
      intro W1 h1 h2 h3; rw [HND.out]; exact refValue_calls P m A n c B bc d W1 (HRD2.out.below h1 (Nat.le_refl _)) hp hp2 h3 (by rw [h2]; exact HQP.out) (by omega)
    clear HDL HDV HDD HX
    go_wp2_with fail
    go_at_call 35
    refine (CD.out _ (Below.refl _ _)).mono ?_
    rintro e w3 ⟨ga, rfl, hga, ho3, hb3⟩
    have HO3 := Lib.hid ho3
    have hla := ho3.lt
    obtain ⟨k0, k1, k2, kb⟩ := keepS x0 x1 x2 hb3
    clear x0 x1 x2 hb3 ho3
    go_wp2_with fail
    go_at_call 36
    refine (CF.out _ ga kb HO3.out).mono ?_
    rintro e w4 ⟨rfl, hb4⟩
    have HO4 := Lib.hid (HO3.out.below hb4 hla)
    (have hk := keepS k0 k1 k2 hb4; replace kb := below_step kb hb4 kb.size; clear k0 k1 k2 hb4; obtain ⟨k0, k1, k2, _⟩ := hk)
    go_wp2_with fail
    go_at_call 38
    refine (CR.out _).mono ?_
    rintro e w5 ⟨gb, rfl, hgb, ho5, hb5⟩
    have HO5 := Lib.hid (HO4.out.below hb5 HO4.out.lt)
    have HO5' := Lib.hid ho5
    clear ho5
    (have hk := keepS k0 k1 k2 hb5; replace kb := below_step kb hb5 kb.size; clear k0 k1 k2 hb5; obtain ⟨k0, k1, k2, _⟩ := hk)
    go_wp2_with fail
    go_at_call 37
    refine (CS.out _ ga gb HO5.out HO5'.out).mono ?_
    rintro e w6 ⟨rfl, hb6⟩
    (have hk := keepS k0 k1 k2 hb6; replace kb := below_step kb hb6 kb.size; clear k0 k1 k2 hb6; obtain ⟨k0, k1, k2, _⟩ := hk)
    go_wp2_with fail
    go_at_call 23
    refine (CI.out _).mono ?_
    rintro e w7 ⟨rfl, hb7⟩
    (have hk := keepS k0 k1 k2 hb7; replace kb := below_step kb hb7 kb.size; clear k0 k1 k2 hb7; obtain ⟨k0, k1, k2, _⟩ := hk)
    go_wp2_with fail
    go_at_call 36
    refine (CG.out _ kb).mono ?_
    rintro e w8 ⟨hfr, hb8⟩
    (have hk := keepS k0 k1 k2 hb8; replace kb := below_step kb hb8 kb.size; clear k0 k1 k2 hb8; obtain ⟨k0, k1, k2, _⟩ := hk)
    clear hla hga hgb hs1
    have HKB := Lib.hid kb
    clear kb
    rcases hfr with ⟨h1, rfl⟩ | ⟨h1, h2, rfl⟩ | ⟨h1, h2, rfl⟩
    · have hd : ((nd : Int) == (m : Int)) = false := by rw [HND.out]; simp; omega
      clear h1
      go_wp2
      go_ret
      exact ⟨by first | rfl | simp, below_step HB.out HKB.out HB.out.size⟩
    · have HH2 := Lib.hid h2
      obtain rfl : nd = m := HND.out.trans h1
      clear h1 h2
      go_wp2
      go_loopg [72] nd (fun g2 i wr => ∃ k : Nat, k ≤ nd ∧ g2 = nd - k ∧ i = .int .i64 k ∧ Hid (∀ j, j < k → 0 ≤ d.getD j 0 ∧ d.getD j 0 < P) ∧ Below w8.heap.size w8 wr)
      case atStart => exact ⟨0, Nat.zero_le _, rfl, rfl, fun j h => by omega, Below.refl _ _⟩
      case round =>
        obtain ⟨k, hk, HGQ, rfl, HK, hb⟩ := hrel
        replace HGQ := Lib.hid HGQ
        obtain ⟨y0, y1, y2, _⟩ := keepS k0 k1 k2 hb
        have HBL := Lib.hid hb
        by_cases hlt : k < nd
        · obtain ⟨ad, rfl, hc⟩ := ((HRD2.out.below HKB.out (Nat.le_refl _)).below hb (Nat.le_refl _)).get k (by rw [← HND.out]; exact hlt)
          obtain ⟨u, HU⟩ : ∃ z, Hid (z = d.getD k 0) := ⟨_, rfl⟩
          rw [← HU.out] at hc
          clear hb k0 k1 k2
          by_cases h1 : u < 0
          · go_wp2
            go_ret
            exact ⟨by first | rfl | simp, below_step HB.out (below_step HKB.out HBL.out HKB.out.size) HB.out.size⟩
          · by_cases h2 : P ≤ u
            · go_wp2
              go_ret
              exact ⟨by first | rfl | simp, below_step HB.out (below_step HKB.out HBL.out HKB.out.size) HB.out.size⟩
            · have HB2 : Hid (0 ≤ d.getD k 0 ∧ d.getD k 0 < P) := by unfold Hid; rw [← HU.out]; omega
              go_wp2
              go_roundg (nd - (k + 1))
              case measure => have := HGQ.out; omega
              case rel =>
                refine ⟨k + 1, by omega, rfl, by go_num, fun j hj => ?_, HBL.out⟩
                by_cases hjk : j = k
                · rw [hjk]; exact HB2.out
                · exact HK.out j (by omega)
        · exact absurd (fun j hj => HK.out j (by have := HND.out; omega)) HH2.out
    · have HH2 := Lib.hid h2
      have HH1 := Lib.hid h1
      obtain rfl : nd = m := HND.out.trans h1
      clear h1 h2
      go_wp2
      go_loopg [72] nd (fun g2 i wr => ∃ k : Nat, k ≤ nd ∧ g2 = nd - k ∧ i = .int .i64 k ∧ Below w8.heap.size w8 wr)
      case atStart => exact ⟨0, Nat.zero_le _, rfl, rfl, Below.refl _ _⟩
      case round =>
        obtain ⟨k, hk, HGQ, rfl, hb⟩ := hrel
        replace HGQ := Lib.hid HGQ
        obtain ⟨y0, y1, y2, _⟩ := keepS k0 k1 k2 hb
        have HBL := Lib.hid hb
        by_cases hlt : k < nd
        · obtain ⟨ad, rfl, hc⟩ := ((HRD2.out.below HKB.out (Nat.le_refl _)).below hb (Nat.le_refl _)).get k (by rw [← HND.out]; exact hlt)
          have hdg := HH2.out k (by rw [← HND.out]; exact hlt)
          obtain ⟨u, HU⟩ : ∃ z, Hid (z = d.getD k 0) := ⟨_, rfl⟩
          rw [← HU.out] at hc hdg
          clear hb k0 k1 k2
          obtain ⟨h1, h2⟩ := hdg
          go_wp2
          go_roundg (nd - (k + 1))
          case measure => have := HGQ.out; omega
          case rel => exact ⟨k + 1, by omega, rfl, by go_num, HBL.out⟩
        · obtain rfl : k = nd := by omega
          have HBX := Lib.hid (below_step HKB.out hb HKB.out.size)
          clear hb k0 k1 k2
          go_wp2_with fail
          go_at_call 39
          refine (CV.out _ HBX.out HH1.out HH2.out).mono ?_
          rintro e w9 ⟨rfl, hb9⟩
          go_wp2
          go_ret
          exact ⟨by first | rfl | simp, below_step HB.out (below_step HBX.out hb9 HBX.out.size) HB.out.size⟩

end Go.Proofs.Ytjbfccconjjofaa
