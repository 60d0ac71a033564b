/- The algorithm's walk, with one of the two functions that are called after each entry (printed by gen_run.py). -/
import Derived.Test.YtdbhhfhfjlpepaaPoly
namespace Go.Proofs.Ytdbhhfhfjlpepaa
open Go.RowKit
attribute [local go_sem ↓] Go.wp_at_zero Go.wp_at_succ

set_option maxHeartbeats 4000000 in
theorem runP_calls (g : Nat) (S : FS) (B : Option Addr) (d : Nat) (s : List Int) (w00 w : World) (hf : FldAt w00 g S) (hs : Rd w00 B s) (h0 : Below w00.heap.size w00 w) (hI : S.Inverts) (hlen : s.length ≤ 100)
    (ob : Nat) (J : List Int → Nat → World → Prop) (hJb : ∀ pre b W W', J pre b W → Below W.heap.size W W' → J pre b W') (hJl : ∀ pre b W, J pre b W → b < W.heap.size ∧ ob < W.heap.size)
    (hC : ∀ (W : World) (pre : List Int) (b l : Nat), J pre b W → pre.length ≤ 200 → l ≤ 200 → Calls Try.prog 45 #[.int .i64 l, .pointer (some ⟨ob, 0, none⟩)] W fun e W' => AfterRet w00.heap.size ob J W pre b l e W')
    (b0 : Nat) (hJ0 : J [] b0 w) :
    Calls Try.prog 41 #[.pointer (some ⟨g, 0, none⟩), .slice B s.length d, .func (.func 45) #[] #[.pointer (some ⟨ob, 0, none⟩)]] w fun e w' => RunRet w00.heap.size S s J w e w' := by
  have HF := Lib.hid hf
  have HS := Lib.hid hs
  have H0 := Lib.hid h0
  have HJB := Lib.hid hJb
  have HJL := Lib.hid hJl
  have HC := Lib.hid hC
  have HJ0 := Lib.hid hJ0
  obtain ⟨st, HST⟩ : ∃ st : Nat → BM, Hid (∀ k, st k = BM.run S s k) := ⟨_, fun _ => rfl⟩
  have HOK : Hid (∀ k, ∃ K ol, BM.Ok S (S.sq s) k (st k) K ol) := by intro k; rw [HST.out]; exact BM.run_ok hI s k
  have HSTEP : Hid (∀ k, st (k + 1) = BM.step S s (st k) k) := by intro k; rw [HST.out, HST.out]; rfl
  have HZ : Hid (st 0 = ⟨[1], 0, [1], 1, 1⟩) := HST.out 0
  obtain ⟨ls, HLS⟩ : ∃ ls : Nat → List Int, Hid (∀ k, ls k = (List.range k).map fun i => ((st (i + 1)).l : Int)) := ⟨_, fun _ => rfl⟩
  have HLS0 : Hid (ls 0 = []) := HLS.out 0
  have HLSS : Hid (∀ k, ls (k + 1) = ls k ++ [((st (k + 1)).l : Int)]) := by intro k; rw [HLS.out, HLS.out, List.range_succ, List.map_append]; rfl
  have HLSL : Hid (∀ k, (ls k).length = k) := by intro k; rw [HLS.out]; simp
  have HFIN : Hid (∀ W e, (∃ A c b, e = .returned (.tuple #[.slice A (st s.length).c.length c, .int .i64 (st s.length).l]) ∧ Rd W A (st s.length).c ∧ J (ls s.length) b W ∧ Below w00.heap.size w W) → RunRet w00.heap.size S s J w e W) := by
    intro W e h; unfold RunRet; rw [← HST.out, show (List.range s.length).map (fun i => ((BM.run S s (i + 1)).l : Int)) = ls s.length by rw [HLS.out]; congr 1; funext i; rw [HST.out]]; exact h
  clear hf hs h0 hJb hJl hC hJ0 HST HLS hI
  obtain ⟨n, HN⟩ : ∃ n, Hid (n = s.length) := ⟨_, rfl⟩
  rw [← HN.out] at hlen HFIN ⊢
  go_enter Try.func41, Try.ntmps41
  go_wp2
  obtain ⟨w2, hw2⟩ : ∃ w2, w2 = (w.alloc (.cells #[.int .i64 1] 3)).alloc (.cells #[.int .i64 1] 3) := ⟨_, rfl⟩
  have HB2 : Hid (Below w.heap.size w w2) := by rw [hw2]; exact ((Below.refl _ w).alloc (Nat.le_refl _) _).alloc (by simp) _
  have HR1 : Hid (Rd w2 (some ⟨w.heap.size, 0, none⟩) [1]) := by rw [hw2]; exact (rd_one w 1).alloc _
  have HR2 : Hid (Rd w2 (some ⟨w.heap.size + 1, 0, none⟩) [1]) := by
    rw [hw2]; have := rd_one (w.alloc (.cells #[.int .i64 1] 3)) 1; rwa [World.size_alloc] at this
  have HL0 := Lib.hid (HJL.out _ _ _ HJ0.out)
  have HSZ := Lib.hid H0.out.size
  rw [← hw2]
  clear hw2
  go_loopg [6, 7, 8, 9, 10, 21] n (fun g2 t6 t7 t8 t9 t10 t21 wr => ∃ (k : Nat) (A1 : Option Addr) (c1 : Nat) (A2 : Option Addr) (c2 b : Nat), k ≤ n ∧ g2 = n - k ∧ t6 = .slice A1 (st k).c.length c1 ∧ t7 = .int .i64 (st k).l ∧ t8 = .slice A2 (st k).old.length c2 ∧
    t9 = .int .i64 (st k).og ∧ t10 = .int .i64 (st k).since ∧ t21 = .int .i64 k ∧ Bun w00.heap.size w ob J (ls k) (st k).c (st k).old A1 A2 b wr)
  case atStart =>
    refine ⟨0, some ⟨w.heap.size, 0, none⟩, 1, some ⟨w.heap.size + 1, 0, none⟩, 1, b0, Nat.zero_le _, rfl, by rw [HZ.out]; rfl, by rw [HZ.out]; rfl, by rw [HZ.out]; rfl, by rw [HZ.out], by rw [HZ.out]; rfl, rfl, ?_⟩
    rw [HZ.out, HLS0.out]
    exact ⟨HR1.out, HR2.out, fun _ ad e => (by cases e; have := HL0.out; show w.heap.size ≠ ob ∧ w.heap.size ≠ b0; omega), fun _ ad e => (by cases e; have := HL0.out; show w.heap.size + 1 ≠ ob ∧ w.heap.size + 1 ≠ b0; omega), HJB.out _ _ _ _ HJ0.out HB2.out, HB2.out.mono HSZ.out⟩
  case round =>
    obtain ⟨k, A1, c1, A2, c2, b, hk, HGQ, rfl, rfl, rfl, rfl, rfl, rfl, hbun⟩ := hrel
    replace HGQ := Lib.hid HGQ
    have HBN := Lib.hid hbun
    clear hbun HR1 HR2 HB2
    by_cases hlt : k < n
    · have hst := HSTEP.out k
      have hls := HLSS.out k
      obtain ⟨K, ol, hok⟩ := HOK.out k
      obtain ⟨⟨cl, l, old, og, since⟩, HQ⟩ : ∃ q0, st k = q0 := ⟨_, rfl⟩
      rw [HQ] at hst hok HBN ⊢
      have hl1 : cl.length ≤ l + 1 := hok.clen
      have hl2 : l ≤ k := hok.ln
      have hl3 : old.length ≤ k + 1 := hok.oldlen
      have hl4 : since ≤ k + 1 := by have := hok.hK; simp at this; omega
      have HOG : Hid (S.el og ≠ 0) := hok.og
      have hcn : 0 < cl.length := by
        rcases Nat.eq_zero_or_pos cl.length with h | h
        · have h1 := hok.gen.1.1
          rw [show (⟨cl, l, old, og, since⟩ : BM).c = cl from rfl, S.sq_far cl 0 (by omega)] at h1
          exact absurd h1.symm El.one_ne_zero
        · exact h
      have HST := Lib.hid hst
      have HLK := Lib.hid hls
      clear hst hls hok HQ
      unfold BM.step at HST
      dsimp only at HST HBN ⊢
      obtain ⟨r1, r2, s1, s2, hj, hbw⟩ := HBN.out
      have HR1 := Lib.hid r1
      have HR2 := Lib.hid r2
      have HS1 := Lib.hid s1
      have HS2 := Lib.hid s2
      have HJ := Lib.hid hj
      have HBW := Lib.hid hbw
      have HB0 := Lib.hid (H0.out.trans hbw)
      clear r1 r2 s1 s2 hj hbw HBN
      have HLEN : Hid ((ls k).length ≤ 200) := by unfold Hid; rw [HLSL.out]; omega
      obtain ⟨x, HX⟩ : ∃ x, Hid (x = El.cv (S.sq cl) (S.sq s) k) := ⟨_, rfl⟩
      rw [← HX.out] at HST
      obtain ⟨dv, HDV⟩ : ∃ z, Hid (z = x.1) := ⟨_, rfl⟩
      have CG : Hid (Calls Try.prog 38 #[.pointer (some ⟨g, 0, none⟩), .slice A1 cl.length c1, .slice B n d, .int .i64 k] wr fun e w' => e = .returned (.int .i64 dv) ∧ Below wr.heap.size wr w') := by
        rw [HDV.out, HX.out, HN.out]
        exact gap_calls g S A1 c1 cl B d s k wr (HF.out.below HB0.out) HR1.out (HS.out.below HB0.out (Nat.le_refl _)) (by omega) (by rw [← HN.out]; exact hlt) (by rw [← HN.out]; omega)
      clear HX
      obtain ⟨n1, HN1⟩ : ∃ n1, Hid (n1 = cl.length) := ⟨_, rfl⟩
      obtain ⟨n2, HN2⟩ : ∃ n2, Hid (n2 = old.length) := ⟨_, rfl⟩
      rw [← HN1.out] at CG hl1 hcn ⊢
      rw [← HN2.out] at hl3 ⊢
      go_wp2_with fail
      go_at_call 38
      refine CG.out.mono ?_
      rintro e w3 ⟨rfl, hb3⟩
      have HB3 := Lib.hid hb3
      clear hb3 CG
      by_cases hd : dv = 0
      · have hx0 : x = 0 := El.eq (by rw [← HDV.out, hd]; rfl)
        have HNX : Hid (st (k + 1) = ⟨cl, l, old, og, since + 1⟩) := by unfold Hid; rw [HST.out, if_pos hx0]
        subst hd
        clear hx0 HDV HST
        go_wp2_with fail
        go_at_call 45
        have hjw := HJB.out _ _ _ _ HJ.out HB3.out
        refine (HC.out _ (ls k) b (l) hjw HLEN.out (by omega)).mono ?_
        rintro e w6 ⟨⟨v6, rfl⟩, b6, hj6, hb6, hn6, hs6, hk6⟩
        have HBUN : Hid (Bun w00.heap.size w ob J (ls (k + 1)) (st (k + 1)).c (st (k + 1)).old A1 A2 b6 w6) := by
          unfold Hid; rw [HLK.out, HNX.out]
          exact ⟨(HR1.out.below HB3.out (Nat.le_refl _)).past (HS1.out) hk6 hs6, (HR2.out.below HB3.out (Nat.le_refl _)).past (HS2.out) hk6 hs6, (HS1.out).past (HR1.out.below HB3.out (Nat.le_refl _)) hb6, (HS2.out).past (HR2.out.below HB3.out (Nat.le_refl _)) hb6, hj6, (HBW.out.trans (Below.mono HB3.out HB0.out.size)).trans hn6⟩
        clear hj6 hb6 hn6 hs6 hk6 hjw
        skip
        go_wp2
        go_roundg (n - (k + 1))
        case measure => have := HGQ.out; omega
        case rel => exact ⟨k + 1, A1, c1, A2, c2, b6, by omega, rfl, by rw [HNX.out, HN1.out], by rw [HNX.out]; first | done | go_num, by rw [HNX.out, HN2.out], by rw [HNX.out], by rw [HNX.out]; first | done | go_num, by go_num, HBUN.out⟩
      · have hx0 : ¬ x = 0 := fun h => hd (by rw [HDV.out, h]; rfl)
        have hd0 : (dv == 0) = false := by simp [hd]
        obtain ⟨a, HA⟩ : ∃ a, Hid (a = x * S.inv (S.el og)) := ⟨_, rfl⟩
        have hst2 := HST.out
        rw [if_neg hx0, ← HA.out, ← HDV.out] at hst2
        have HST2 := Lib.hid hst2
        obtain ⟨qv, HQV⟩ : ∃ z, Hid (z = a.1) := ⟨_, rfl⟩
        have CD : Hid (∀ W, Below wr.heap.size wr W → Calls Try.prog 60 #[.pointer (some ⟨g, 0, none⟩), .int .i64 dv, .int .i64 og] W fun e w' => e = .returned (.tuple #[.int .i64 qv, .int .i64 0]) ∧ Below W.heap.size W w') := by
          intro W hW
          have := eDiv g S dv og W (HF.out.below (HB0.out.trans (hW.mono HB0.out.size))) HOG.out
          have e1 : S.el dv = x := by rw [HDV.out]; exact S.el_of x
          rw [e1, ← HA.out, ← HQV.out] at this
          exact this
        obtain ⟨sc, HSC⟩ : ∃ z, Hid (z = (List.range old.length).map fun i => (a * S.sq old i).1) := ⟨_, rfl⟩
        have HSCL : Hid (sc.length = n2) := by unfold Hid; rw [HSC.out, HN2.out]; simp
        have CS : Hid (∀ W, Below wr.heap.size wr W → Calls Try.prog 61 #[.pointer (some ⟨g, 0, none⟩), .int .i64 qv, .slice A2 n2 c2] W fun e w' => ∃ gs, e = .returned (.slice (some ⟨gs, 0, none⟩) n2 n2) ∧ W.heap.size ≤ gs ∧ Own w' gs n2 sc ∧ Below W.heap.size W w') := by
          intro W hW
          have := eScale g S qv A2 c2 old W (HF.out.below (HB0.out.trans (hW.mono HB0.out.size))) (HR2.out.below hW (Nat.le_refl _)) (by rw [← HN2.out]; omega)
          have e1 : S.el qv = a := by rw [HQV.out]; exact S.el_of a
          rw [e1, ← HSC.out, ← HN2.out] at this
          exact this
        have HSH : Hid (S.shL a since old = List.replicate since 0 ++ sc) := by unfold Hid FS.shL; rw [HSC.out]
        have hscl : sc.length ≤ 140737488351232 := by rw [HSCL.out]; omega
        have hsn : since ≤ 140737488351232 := by omega
        clear hst2 hx0 HST HA HDV HQV HSC HOG
        go_wp2_with fail
        go_at_call 60
        refine (CD.out _ HB3.out).mono ?_
        rintro e w4 ⟨rfl, hb4⟩
        have HB4 := Lib.hid (below_step HB3.out hb4 HB3.out.size)
        have hmk := makeInts since (by omega)
        clear hb4 CD
        go_wp2
        go_region_held3 (fun wx => Below wr.heap.size wr wx ∧ True)
          (first | (exact ⟨HB4.out.drew, trivial⟩) | (exact ⟨Below.alloc (And.left (by assumption)) (Below.size (And.left (by assumption))) _, trivial⟩) | (exact ⟨below_step (And.left (by assumption)) hb5 (Below.size (And.left (by assumption))), trivial⟩) | (exact ⟨Below.grown (And.left (by assumption)) hg7 (Below.size (And.left (by assumption))) (fun j e => by cases e; first | exact HB4.out.size | exact Nat.le_trans HB4.out.size (by first | exact Nat.le_refl _ | exact hb5.size | omega) | (have := hb5.size; simp at this ⊢; have := HB4.out.size; omega)), trivial⟩))
          (first | (go_at_call 61; refine (CS.out _ (And.left (by assumption))).mono ?_; rintro e w5 ⟨gs, rfl, hgs, hgo, hb5⟩) | (refine step_joined rfl (.tmp 41) (.tmp 45) rfl _ since since rfl (List.replicate since 0) (by simp) (by first | exact Own.made w5 since hsn | exact (Own.made w4 since hsn).drew.below hb5 (by simp only [World.size_drew, World.size_alloc]; omega)) ⟨gs, 0, none⟩ n2 n2 sc HSCL.out rfl (by first | exact hgo.rdAll hscl | exact (hgo.rdAll hscl).alloc _) (by omega) ?_; intro b7 c7 w7 ho7 hg7 hb7))
        all_goals
          have HB7 : Hid (Below wr.heap.size wr w7) := And.left (b := True) (by assumption)
          have HSUB : Hid (Calls Try.prog 62 #[.pointer (some ⟨g, 0, none⟩), .slice A1 n1 c1, .slice (some ⟨b7, 0, none⟩) (since + n2) c7] w7 fun e w' => NewL w7 e w' (S.combL cl (-1) (S.shL a since old))) := by
            have hsl : (S.shL a since old).length = since + n2 := by rw [HSH.out, List.length_append, List.length_replicate, HSCL.out]
            have := polySub_calls g S A1 c1 cl (some ⟨b7, 0, none⟩) c7 (S.shL a since old) w7 (HF.out.below (HB0.out.trans (HB7.out.mono HB0.out.size))) (HR1.out.below HB7.out (Nat.le_refl _)) (by rw [HSH.out]; exact ho7.rdAll (by rw [← HSH.out, hsl]; omega)) (by rw [← HN1.out]; omega) (by rw [hsl]; omega)
            rw [hsl, ← HN1.out] at this
            exact this
          obtain ⟨nx, HNXL⟩ : ∃ z, Hid (z = S.combL cl (-1) (S.shL a since old)) := ⟨_, rfl⟩
          rw [← HNXL.out] at HSUB
          have hst3 := HST2.out
          rw [← HNXL.out] at hst3
          have HST3 := Lib.hid hst3
          clear hst3 HST2 HNXL ho7 hg7 hb7 hgs hgo hb5 hmk HSH
          go_wp2_with fail
          go_at_call 62
          refine HSUB.out.mono ?_
          rintro e w8 ⟨A3, c3, rfl, hr8, _, _, hfr8, hb8⟩
          have HB8 := Lib.hid (below_step HB7.out hb8 HB7.out.size)
          have HR8 := Lib.hid hr8
          have HLT : Hid (b < wr.heap.size ∧ ob < wr.heap.size) := HJL.out _ _ _ HJ.out
          have HS8 : Hid (Sep A3 nx ob b) := Sep.new hfr8 (Nat.lt_of_lt_of_le HLT.out.2 HB7.out.size) (Nat.lt_of_lt_of_le HLT.out.1 HB7.out.size)
          obtain ⟨n3, HN3⟩ : ∃ z, Hid (z = nx.length) := ⟨_, rfl⟩
          rw [← HN3.out]
          clear hb8 hr8 hfr8 HSUB HB7
          by_cases h2 : 2 * l ≤ k
          · have HNX : Hid (st (k + 1) = ⟨nx, k + 1 - l, cl, dv, 1⟩) := by unfold Hid; rw [HST3.out, if_pos h2]
            have hkl : ((k : Int) + 1 - (l : Int)) = ((k + 1 - l : Nat) : Int) := by omega
            have hkl2 : IntKind.i64.wrap ((k : Int) + 1 - (l : Int)) = ((k + 1 - l : Nat) : Int) := by rw [IntWalk.i64_in _ (by omega)]; omega
            have h2i : 2 * (l : Int) ≤ (k : Int) := by omega
            go_wp2_with fail
            go_at_call 45
            have hjw := HJB.out _ _ _ _ HJ.out HB8.out
            refine (HC.out _ (ls k) b (k + 1 - l) hjw HLEN.out (by omega)).mono ?_
            rintro e w6 ⟨⟨v6, rfl⟩, b6, hj6, hb6, hn6, hs6, hk6⟩
            have HBUN : Hid (Bun w00.heap.size w ob J (ls (k + 1)) (st (k + 1)).c (st (k + 1)).old A3 A1 b6 w6) := by
              unfold Hid; rw [HLK.out, HNX.out]
              exact ⟨(HR8.out).past (HS8.out) hk6 hs6, (HR1.out.below HB8.out (Nat.le_refl _)).past (HS1.out) hk6 hs6, (HS8.out).past (HR8.out) hb6, (HS1.out).past (HR1.out.below HB8.out (Nat.le_refl _)) hb6, hj6, (HBW.out.trans (Below.mono HB8.out HB0.out.size)).trans hn6⟩
            clear hj6 hb6 hn6 hs6 hk6 hjw
            skip
            go_wp2
            go_roundg (n - (k + 1))
            case measure => have := HGQ.out; omega
            case rel => exact ⟨k + 1, A3, c3, A1, c1, b6, by omega, rfl, by rw [HNX.out, HN3.out], by rw [HNX.out]; first | done | go_num, by rw [HNX.out, HN1.out], by rw [HNX.out], by rw [HNX.out]; first | done | go_num, by go_num, HBUN.out⟩
          · have HNX : Hid (st (k + 1) = ⟨nx, l, old, og, since + 1⟩) := by unfold Hid; rw [HST3.out, if_neg h2]
            have h2i : ¬ 2 * (l : Int) ≤ (k : Int) := by omega
            go_wp2_with fail
            go_at_call 45
            have hjw := HJB.out _ _ _ _ HJ.out HB8.out
            refine (HC.out _ (ls k) b (l) hjw HLEN.out (by omega)).mono ?_
            rintro e w6 ⟨⟨v6, rfl⟩, b6, hj6, hb6, hn6, hs6, hk6⟩
            have HBUN : Hid (Bun w00.heap.size w ob J (ls (k + 1)) (st (k + 1)).c (st (k + 1)).old A3 A2 b6 w6) := by
              unfold Hid; rw [HLK.out, HNX.out]
              exact ⟨(HR8.out).past (HS8.out) hk6 hs6, (HR2.out.below HB8.out (Nat.le_refl _)).past (HS2.out) hk6 hs6, (HS8.out).past (HR8.out) hb6, (HS2.out).past (HR2.out.below HB8.out (Nat.le_refl _)) hb6, hj6, (HBW.out.trans (Below.mono HB8.out HB0.out.size)).trans hn6⟩
            clear hj6 hb6 hn6 hs6 hk6 hjw
            skip
            go_wp2
            go_roundg (n - (k + 1))
            case measure => have := HGQ.out; omega
            case rel => exact ⟨k + 1, A3, c3, A2, c2, b6, by omega, rfl, by rw [HNX.out, HN3.out], by rw [HNX.out]; first | done | go_num, by rw [HNX.out, HN2.out], by rw [HNX.out], by rw [HNX.out]; first | done | go_num, by go_num, HBUN.out⟩
    · obtain rfl : k = n := by omega
      have HFN := Lib.hid (HFIN.out wr _ ⟨A1, c1, b, rfl, HBN.out.1, HBN.out.2.2.2.2.1, HBN.out.2.2.2.2.2⟩)
      go_wp2
      go_ret2
      exact HFN.out

end Go.Proofs.Ytdbhhfhfjlpepaa
