/- The complexity of a sum is at most the sum of the complexities; that of a multiple is the same: the walk of the law. -/
import Derived.Test.YtdbhhfhfjlpepaaBmK
namespace Go.Proofs.Ytdbhhfhfjlpepaa
open Go.RowKit
attribute [local go_sem ↓] Go.wp_at_zero Go.wp_at_succ

set_option maxHeartbeats 2000000 in
theorem lawSums (P M : Int) (A : Option Addr) (c : Nat) (mod : List Int) (L : Option Addr) (lc : Nat) (l : List Int) (O : Option Addr) (oc : Nat) (o : List Int) (N : Int) (w : World) (hr : Rd w A mod) (hnil : A = none → c = 0) (hrl : Rd w L l) (hro : Rd w O o) :
    Calls Try.prog 10 #[.agg #[.int .i64 P, .int .i64 M, .slice A mod.length c], .agg #[.slice L l.length lc, .slice O o.length oc], .int .i64 N] w fun e w' => e = .returned (.bool true) ∧ Below w.heap.size w w' := by
  have hu := Try.underlying24
  have HR := Lib.hid hr
  have HNIL := Lib.hid hnil
  have HRL := Lib.hid hrl
  have hln := hrl.1
  have HRO := Lib.hid hro
  have hon := hro.1
  clear hr hnil hrl hro
  obtain ⟨nl, HNL⟩ : ∃ n, Hid (n = l.length) := ⟨_, rfl⟩
  rw [← HNL.out] at hln ⊢
  obtain ⟨no, HNO⟩ : ∃ n, Hid (n = o.length) := ⟨_, rfl⟩
  rw [← HNO.out] at hon ⊢
  obtain ⟨n, HN⟩ : ∃ n, Hid (n = mod.length) := ⟨_, rfl⟩
  rw [← HN.out]
  have HMADE : Hid (∀ W1 : World, Rd W1 A mod → Calls Try.prog 14 #[.agg #[.int .i64 P, .int .i64 M, .slice A n c]] W1 fun e w' => MadeSRet P M mod W1 e w') := by
    intro W1 h1; rw [HN.out]; exact madeS_calls P M A c mod W1 h1 HNIL.out
  go_enter Try.func10, Try.ntmps10
  go_wp2_with fail
  go_at_call 13
  refine (aliveS_calls _).mono ?_
  rintro e w1 ⟨rfl, hb1⟩
  have hb0 := below_box hb1
  obtain ⟨k0, k1, k2, _⟩ := box3 hb0
  have hy := box2 hb1
  rw [World.size_alloc] at hy
  obtain ⟨y0, y1⟩ := hy
  have kb := below_box hb0
  have HR1 := Lib.hid ((HR.out.alloc _).below hb0 (Nat.le_refl _))
  clear hb1 hb0
  go_wp2_with fail
  go_at_call 14
  refine (HMADE.out _ HR1.out).mono ?_
  rintro e w2 ⟨hret, hb2⟩
  have HR3 := Lib.hid (HR1.out.below hb2 (Nat.le_refl _))
  replace y0 := (hb2.cell (World.block_lt_of_cell? w1 _ y0)).trans y0
  replace y1 := (hb2.cell (World.block_lt_of_cell? w1 _ y1)).trans y1
  (have hk := keepS k0 k1 k2 hb2; replace kb := below_step kb hb2 kb.size; clear k0 k1 k2 hb2; obtain ⟨k0, k1, k2, _⟩ := hk)
  have HB := Lib.hid kb
  have HL2 := Lib.hid (HRL.out.below kb (Nat.le_refl _))
  have HO2 := Lib.hid (HRO.out.below kb (Nat.le_refl _))
  clear kb
  rcases hret with ⟨rfl, hno⟩ | ⟨g, S, rfl, rfl, rfl, rfl, hf⟩
  · clear hno
    go_wp2
    go_ret
    exact ⟨rfl, HB.out⟩
  · have HF := Lib.hid hf
    clear hf
    have HK := Lib.hid (fun (W : World) (h : Below w2.heap.size w2 W) => keepS k0 k1 k2 h)
    have HY := Lib.hid (fun (W : World) (h : Below w2.heap.size w2 W) => And.intro ((h.cell (World.block_lt_of_cell? w2 _ y0)).trans y0) ((h.cell (World.block_lt_of_cell? w2 _ y1)).trans y1))
    go_wp2_with fail
    obtain ⟨w3, hw3⟩ : ∃ w3, w3 = w2.alloc (.cells #[.slice L nl lc, .slice O no oc] 22) := ⟨_, rfl⟩
    have z0 : w3.cell? ⟨w2.heap.size, 0, none⟩ = some (.slice L nl lc) := by rw [hw3]; exact (World.cell?_alloc_new (w := w2) #[.slice L nl lc, .slice O no oc] 22 0).trans rfl
    have z1 : w3.cell? ⟨w2.heap.size, 1, none⟩ = some (.slice O no oc) := by rw [hw3]; exact (World.cell?_alloc_new (w := w2) #[.slice L nl lc, .slice O no oc] 22 1).trans rfl
    have HB3 : Hid (Below w2.heap.size w2 w3) := by rw [hw3]; exact (Below.refl _ _).alloc (Nat.le_refl _) _
    rw [← hw3]
    clear hw3 k0 k1 k2 y0 y1
    go_at_call 15
    refine (shortTwo_calls w2.heap.size L O nl lc no oc w3 z0 z1).mono ?_
    rintro e w4 ⟨b, rfl, hbi, hb4⟩
    replace hb4 := below_step HB3.out hb4 HB3.out.size
    clear z0 z1
    obtain ⟨k0, k1, k2, _⟩ := HK.out _ hb4
    obtain ⟨y0, y1⟩ := HY.out _ hb4
    have HB4 := Lib.hid hb4
    clear hb4
    cases b
    · go_wp2
      go_ret
      exact ⟨by first | rfl | (simp; done) | (simp; omega), below_step HB.out HB4.out HB.out.size⟩
    · have hsh := hbi.1 rfl
      clear hbi
      obtain ⟨hl24, ho24⟩ := hsh
      -- the three lists, as sequences
      obtain ⟨f1, HF1⟩ : ∃ f : Nat → El S, Hid (∀ i, f i = S.sq o i) := ⟨_, fun _ => rfl⟩
      obtain ⟨f2, HF2⟩ : ∃ f : Nat → El S, Hid (∀ i, f i = S.sq l i + S.sq o i) := ⟨_, fun _ => rfl⟩
      obtain ⟨f3, HF3⟩ : ∃ f : Nat → El S, Hid (∀ i, f i = S.el N * S.sq l i) := ⟨_, fun _ => rfl⟩
      obtain ⟨⟨bx, by0⟩, HXY⟩ : ∃ b : Nat × Nat, Hid (b = ((S.bm l).l, (S.bm (S.pf f1 nl)).l)) := ⟨_, rfl⟩
      obtain ⟨⟨bz, bw⟩, HZW⟩ : ∃ b : Nat × Nat, Hid (b = ((S.bm (S.pf f2 nl)).l, (S.bm (S.pf f3 nl)).l)) := ⟨_, rfl⟩
      have ex : (S.bm l).l = bx := (congrArg Prod.fst HXY.out).symm
      have ey : (S.bm (S.pf f1 nl)).l = by0 := (congrArg Prod.snd HXY.out).symm
      have ez : (S.bm (S.pf f2 nl)).l = bz := (congrArg Prod.fst HZW.out).symm
      have ew : (S.bm (S.pf f3 nl)).l = bw := (congrArg Prod.snd HZW.out).symm
      have hsum : bz ≤ bx + by0 := by
        rw [← ex, ← ey, ← ez]
        refine S.bm_sum HF.out.inv l _ _ (by rw [S.pf_length, HNL.out]) (by rw [S.pf_length, HNL.out]) fun i hi => ?_
        rw [S.sq_pf _ _ _ (by rw [HNL.out]; exact hi), S.sq_pf _ _ _ (by rw [HNL.out]; exact hi), HF2.out, HF1.out]
      obtain ⟨av, HAV⟩ : ∃ v, Hid (v = (S.el N).1) := ⟨_, rfl⟩
      have HSC : Hid (bw = bx ∨ (av = 0 ∧ bw = 0)) := by
        by_cases ha : S.el N = 0
        · refine .inr ⟨by rw [HAV.out, ha]; rfl, ?_⟩
          rw [← ew]
          refine S.bm_none HF.out.inv _ fun i hi => ?_
          rw [S.pf_length] at hi
          rw [S.sq_pf _ _ _ hi, HF3.out, ha, El.zero_mul]
        · refine .inl ?_
          rw [← ew, ← ex]
          refine S.bm_scale HF.out.inv _ ha l _ (by rw [S.pf_length, HNL.out]) fun i hi => ?_
          rw [S.sq_pf _ _ _ (by rw [HNL.out]; exact hi), HF3.out]
      have hb1 := S.bm_len HF.out.inv l
      have hb2 := S.bm_len HF.out.inv (S.pf f1 nl)
      have hb3 := S.bm_len HF.out.inv (S.pf f2 nl)
      have hb4 := S.bm_len HF.out.inv (S.pf f3 nl)
      rw [ex, ← HNL.out] at hb1
      rw [ey, S.pf_length] at hb2
      rw [ez, S.pf_length] at hb3
      rw [ew, S.pf_length] at hb4
      have CSH : Hid (∀ W (B : Option Addr) (d : Nat) (u : List Int) (x : Nat), Below w2.heap.size w2 W → Rd W B u → u.length = nl → (S.bm u).l = x → Calls Try.prog 21 #[.pointer (some ⟨g, 0, none⟩), .slice B nl d] W fun e w' => ∃ V, e = .returned (.tuple #[V, .int .i64 x]) ∧ Below W.heap.size W w') := by
        intro W B d u x h h1 h2 h3
        have := shortest_calls g S B d u W (HF.out.below h) h1 (by omega)
        rw [h2, h3] at this
        refine this.mono ?_
        rintro e w' ⟨A5, c5, rfl, _, hb⟩
        exact ⟨_, rfl, hb⟩
      have CA : Hid (∀ W (i : Nat), Below w2.heap.size w2 W → Calls Try.prog 25 #[.agg #[.int .i64 S.P, .int .i64 S.M, .slice A n c], .slice O no oc, .int .i64 i] W fun e w' => e = .returned (.int .i64 (f1 i).1) ∧ Below W.heap.size W w') := by
        intro W i h; rw [HF1.out, HNO.out]; exact rAt S A n c O oc o i W (HO2.out.below h (Nat.le_refl _))
      have CD : Hid (∀ W (i : Nat) (u : Int), u = l.getD i 0 → Calls Try.prog 26 #[.agg #[.int .i64 S.P, .int .i64 S.M, .slice A n c], .int .i64 u, .int .i64 (f1 i).1] W fun e w' => e = .returned (.int .i64 (f2 i).1) ∧ Below W.heap.size W w') := by
        intro W i u hu2
        have := rAdd S A n c u (f1 i).1 W
        have e : S.el u + S.el (f1 i).1 = f2 i := by rw [S.el_of, HF1.out, hu2, HF2.out]; rfl
        rw [e] at this
        exact this
      have CM : Hid (∀ W (i : Nat) (u : Int), Below w2.heap.size w2 W → u = l.getD i 0 → Calls Try.prog 27 #[.agg #[.int .i64 S.P, .int .i64 S.M, .slice A n c], .int .i64 N, .int .i64 u] W fun e w' => e = .returned (.int .i64 (f3 i).1) ∧ Below W.heap.size W w') := by
        intro W i u h hu2
        have := rMul S A c N u W (HR3.out.below h (Nat.le_refl _)) n HN.out
        have e : S.el N * S.el u = f3 i := by rw [hu2, HF3.out]; rfl
        rw [e] at this
        exact this
      have CI : Hid (∀ W, Calls Try.prog 28 #[.agg #[.int .i64 S.P, .int .i64 S.M, .slice A n c], .int .i64 N] W fun e w' => e = .returned (.int .i64 av) ∧ Below W.heap.size W w') := by
        intro W; rw [HAV.out]; exact rIn S A n c N W
      obtain ⟨P, HPP⟩ : ∃ P, Hid (P = S.P) := ⟨_, rfl⟩
      obtain ⟨M, HMM⟩ : ∃ M, Hid (M = S.M) := ⟨_, rfl⟩
      rw [← HPP.out, ← HMM.out] at CA CD CM CI HK
      rw [← HPP.out] at k0
      rw [← HMM.out] at k1
      rw [← HPP.out, ← HMM.out]
      clear HF1 HF2 HF3 HF hln hon HAV
      have hmk := makeInts nl (by omega)
      have hm1 := Own.made w4 nl (by omega)
      obtain ⟨w5, hw5⟩ : ∃ w5, w5 = w4.alloc (.cells (madeCells #[.int .i64 0] nl) 3) := ⟨_, rfl⟩
      have hm2 := Own.made w5 nl (by omega)
      obtain ⟨w6, hw6⟩ : ∃ w6, w6 = w5.alloc (.cells (madeCells #[.int .i64 0] nl) 3) := ⟨_, rfl⟩
      have hm3 := Own.made w6 nl (by omega)
      obtain ⟨w7, hw7⟩ : ∃ w7, w7 = w6.alloc (.cells (madeCells #[.int .i64 0] nl) 3) := ⟨_, rfl⟩
      have hs5 : w5.heap.size = w4.heap.size + 1 := by rw [hw5]; simp
      have hs6 : w6.heap.size = w4.heap.size + 1 + 1 := by rw [hw6]; simp [hs5]
      have hb7 : Below w2.heap.size w2 w7 := by
        rw [hw7, hw6, hw5]
        have h4 := HB4.out.size
        exact ((HB4.out.alloc h4 _).alloc (by simp; omega) _).alloc (by simp; omega) _
      rw [← hw5, ] at hm1
      rw [← hw6] at hm2
      rw [← hw7] at hm3
      replace hm1 := (hm1.alloc (.cells (madeCells #[.int .i64 0] nl) 3)).alloc (.cells (madeCells #[.int .i64 0] nl) 3)
      replace hm2 := hm2.alloc (.cells (madeCells #[.int .i64 0] nl) 3)
      rw [← hw6, ← hw7] at hm1
      rw [← hw7] at hm2
      rw [hs5] at hm2
      rw [hs6] at hm3
      have HM1 := Lib.hid hm1
      have HM2 := Lib.hid hm2
      have HM3 := Lib.hid hm3
      have HB7 := Lib.hid hb7
      have HW7 : Hid (w7 = ((w4.alloc (.cells (madeCells #[.int .i64 0] nl) 3)).alloc (.cells (madeCells #[.int .i64 0] nl) 3)).alloc (.cells (madeCells #[.int .i64 0] nl) 3)) := by unfold Hid; rw [hw7, hw6, hw5]
      have HS4 := Lib.hid HB4.out.size
      obtain ⟨q, HQ⟩ : ∃ q, Hid (q = w4.heap.size) := ⟨_, rfl⟩
      rw [← HQ.out] at HM1 HM2 HM3 HS4
      have hsl : ∀ f : Nat → El S, ∀ k, k ≤ nl → (S.pf f k ++ List.replicate (nl - k) (0 : Int)).length = nl := fun f k hk => by rw [List.length_append, S.pf_length, List.length_replicate]; omega
      have HSL := Lib.hid hsl
      clear hsl hmk hm1 hm2 hm3 hs5 hs6 hw5 hw6 hw7 hb7
      have hmk := makeInts nl (by omega)
      go_wp2
      rw [← HW7.out]
      rw [← HQ.out]
      clear hmk k0 k1 k2 y0 y1
      go_loopg [48] nl (fun g2 i wr => ∃ k : Nat, k ≤ nl ∧ g2 = nl - k ∧ i = .int .i64 k ∧ Own wr q nl (S.pf f1 k ++ List.replicate (nl - k) 0) ∧ Own wr (q + 1) nl (S.pf f2 k ++ List.replicate (nl - k) 0) ∧ Own wr (q + 1 + 1) nl (S.pf f3 k ++ List.replicate (nl - k) 0) ∧ Below w2.heap.size w2 wr)
      case atStart => exact ⟨0, Nat.zero_le _, rfl, rfl, by simpa [FS.pf] using HM1.out, by simpa [FS.pf] using HM2.out, by simpa [FS.pf] using HM3.out, HB7.out⟩
      case round =>
        obtain ⟨k, hk, HGQ, rfl, ho1, ho2, ho3, hb⟩ := hrel
        replace HGQ := Lib.hid HGQ
        obtain ⟨k0, k1, k2, _⟩ := HK.out _ hb
        obtain ⟨y0, y1⟩ := HY.out _ hb
        have HBL := Lib.hid hb
        have HO1 := Lib.hid ho1
        have HO2' := Lib.hid ho2
        have HO3 := Lib.hid ho3
        clear hb
        by_cases hlt : k < nl
        · obtain ⟨x1, HX1⟩ : ∃ x, Hid (x = (f1 k).1) := ⟨_, rfl⟩
          obtain ⟨x2, HX2⟩ : ∃ x, Hid (x = (f2 k).1) := ⟨_, rfl⟩
          obtain ⟨x3, HX3⟩ : ∃ x, Hid (x = (f3 k).1) := ⟨_, rfl⟩
          have hl1 := HSL.out f1 k hk
          have hl2 := HSL.out f2 k hk
          have hl3 := HSL.out f3 k hk
          obtain ⟨z1, hc1⟩ : ∃ z : Int, wr.cell? ⟨q, k, none⟩ = some (.int .i64 z) := ⟨_, ho1.cell k (by rw [hl1]; exact hlt)⟩
          have hf1 := ho1.free k
          have i1 : (0 : Int) ≤ (k : Int) := by omega
          have i2 : (k : Int) < (nl : Int) := by omega
          obtain ⟨u, HU⟩ : ∃ u, Hid (u = l.getD k 0) := ⟨_, rfl⟩
          clear ho1 ho2 ho3
          go_wp2_with fail
          go_at_call 25
          refine (CA.out _ k HBL.out).mono ?_
          rw [← HX1.out]
          rintro e wa ⟨rfl, hba⟩
          obtain ⟨hca, hfa, _⟩ := keepCF0 hc1 hf1 hba
          obtain ⟨wb, hwb⟩ : ∃ wb, wb = wa.setCell ⟨q, k, none⟩ (.int .i64 x1) := ⟨_, rfl⟩
          have hbw : Below w2.heap.size w2 wb := by rw [hwb]; exact (below_step HBL.out hba HBL.out.size).setCell HS4.out _
          have ho1 : Own wb q nl (S.pf f1 (k + 1) ++ List.replicate (nl - (k + 1)) 0) := by
            rw [hwb]
            have := (HO1.out.below hba HO1.out.lt).set k x1
            rw [set_fill _ k nl _ (S.pf_length _ _) hlt, HX1.out, ← S.pf_snoc] at this
            rw [HX1.out]; exact this
          have ho2 : Own wb (q + 1) nl (S.pf f2 k ++ List.replicate (nl - k) 0) := by rw [hwb]; exact (HO2'.out.below hba HO2'.out.lt).setOther _ (by simp) _
          have ho3 : Own wb (q + 1 + 1) nl (S.pf f3 k ++ List.replicate (nl - k) 0) := by rw [hwb]; exact (HO3.out.below hba HO3.out.lt).setOther _ (by simp; omega) _
          have hx1 : wb.cell? ⟨q, k, none⟩ = some (.int .i64 x1) := by rw [hwb]; exact World.cell?_setCell_same' _ _ _ (by rw [hca]; rfl)
          clear k0 k1 k2 y0 y1
          obtain ⟨k0, k1, k2, _⟩ := HK.out _ hbw
          obtain ⟨y0, y1⟩ := HY.out _ hbw
          obtain ⟨ad, rfl, hcs⟩ := (HL2.out.below hbw (Nat.le_refl _)).get k (by rw [← HNL.out]; exact hlt)
          rw [← HU.out] at hcs
          obtain ⟨z2, hc2⟩ : ∃ z : Int, wb.cell? ⟨q + 1, k, none⟩ = some (.int .i64 z) := ⟨_, ho2.cell k (by rw [hl2]; exact hlt)⟩
          have hf2 := ho2.free k
          have HBW := Lib.hid hbw
          have HOW1 := Lib.hid ho1
          have HOW2 := Lib.hid ho2
          have HOW3 := Lib.hid ho3
          clear ho1 ho2 ho3 hbw hc1 hf1 hba
          have CDk : Hid (∀ W, Calls Try.prog 26 #[.agg #[.int .i64 P, .int .i64 M, .slice A n c], .int .i64 u, .int .i64 x1] W fun e w' => e = .returned (.int .i64 x2) ∧ Below W.heap.size W w') := fun W => by
            rw [HX1.out, HX2.out]; exact CD.out W k u HU.out
          go_wp2
          rw [← hwb]
          clear hwb hca hfa
          go_region_with (go_at_call 26; refine (CDk.out _).mono ?_; rintro e wc ⟨rfl, hbc⟩; replace hbc : Below wb.heap.size wb wc := below_in hbc; obtain ⟨hcc, hfc, hbc⟩ := keepCF0 hc2 hf2 hbc)
          all_goals
            obtain ⟨wd, hwd⟩ : ∃ wd, wd = wc.setCell ⟨q + 1, k, none⟩ (.int .i64 x2) := ⟨_, rfl⟩
            have hbw : Below w2.heap.size w2 wd := by rw [hwd]; exact (below_step HBW.out hbc HBW.out.size).setCell (by have := HS4.out; simp; omega) _
            have ho1 : Own wd q nl (S.pf f1 (k + 1) ++ List.replicate (nl - (k + 1)) 0) := by rw [hwd]; exact (HOW1.out.below hbc HOW1.out.lt).setOther _ (by simp) _
            have ho2 : Own wd (q + 1) nl (S.pf f2 (k + 1) ++ List.replicate (nl - (k + 1)) 0) := by
              rw [hwd]
              have := (HOW2.out.below hbc HOW2.out.lt).set k x2
              rw [set_fill _ k nl _ (S.pf_length _ _) hlt, HX2.out, ← S.pf_snoc] at this
              rw [HX2.out]; exact this
            have ho3 : Own wd (q + 1 + 1) nl (S.pf f3 k ++ List.replicate (nl - k) 0) := by rw [hwd]; exact (HOW3.out.below hbc HOW3.out.lt).setOther _ (by simp) _
            clear k0 k1 k2 y0 y1 hcs hx1
            obtain ⟨k0, k1, k2, _⟩ := HK.out _ hbw
            obtain ⟨y0, y1⟩ := HY.out _ hbw
            obtain ⟨ad', e', hcs⟩ := (HL2.out.below hbw (Nat.le_refl _)).get k (by rw [← HNL.out]; exact hlt)
            obtain rfl : ad = ad' := Option.some.inj e'
            rw [← HU.out] at hcs
            obtain ⟨z3, hc3⟩ : ∃ z : Int, wd.cell? ⟨q + 1 + 1, k, none⟩ = some (.int .i64 z) := ⟨_, ho3.cell k (by rw [hl3]; exact hlt)⟩
            have hf3 := ho3.free k
            have HBD := Lib.hid hbw
            have HOD1 := Lib.hid ho1
            have HOD2 := Lib.hid ho2
            have HOD3 := Lib.hid ho3
            have CMk : Hid (∀ W, Below wd.heap.size wd W → Calls Try.prog 27 #[.agg #[.int .i64 P, .int .i64 M, .slice A n c], .int .i64 N, .int .i64 u] W fun e w' => e = .returned (.int .i64 x3) ∧ Below W.heap.size W w') := fun W hW => by
              rw [HX3.out]; exact CM.out W k u (below_step HBD.out hW HBD.out.size) HU.out
            clear ho1 ho2 ho3 hbw hcc hfc hbc hc2 hf2 e'
            go_wp2
            rw [← hwd]
            clear hwd
            go_region_with (go_at_call 27; refine (CMk.out _ (by first | exact Below.refl _ _ | exact (Below.refl _ _).drew | exact (Below.refl _ _).drew.drew)).mono ?_; rintro e we ⟨rfl, hbe⟩; replace hbe : Below wd.heap.size wd we := below_in hbe; obtain ⟨hce, hfe, hbe⟩ := keepCF0 hc3 hf3 hbe)
            all_goals
              have HB9 := Lib.hid ((below_step HBD.out hbe HBD.out.size).setCell (p := ⟨q + 1 + 1, k, none⟩) (by have := HS4.out; simp; omega) (.int .i64 x3))
              have HO91 := Lib.hid ((HOD1.out.below hbe HOD1.out.lt).setOther ⟨q + 1 + 1, k, none⟩ (by simp; omega) (.int .i64 x3))
              have HO92 := Lib.hid ((HOD2.out.below hbe HOD2.out.lt).setOther ⟨q + 1 + 1, k, none⟩ (by simp) (.int .i64 x3))
              have HO93 := Lib.hid ((HOD3.out.below hbe HOD3.out.lt).set k x3)
              clear hbe hcs hc3 hf3 k0 k1 k2 y0 y1 i1 i2
              go_wp2
              go_roundg (nl - (k + 1))
              case measure => have := HGQ.out; omega
              case rel =>
                refine ⟨k + 1, by omega, rfl, by go_num, HO91.out, HO92.out, ?_, HB9.out⟩
                have := HO93.out
                rw [set_fill _ k nl _ (S.pf_length _ _) hlt, HX3.out, ← S.pf_snoc] at this
                rw [HX3.out]; exact this
        · obtain rfl : k = nl := by omega
          have HR1 : Hid (Rd wr (some ⟨q, 0, none⟩) (S.pf f1 k)) := by
            have := HO1.out; rw [Nat.sub_self, List.replicate_zero, List.append_nil] at this; exact this.rdAll (by rw [S.pf_length]; omega)
          have HR2 : Hid (Rd wr (some ⟨q + 1, 0, none⟩) (S.pf f2 k)) := by
            have := HO2'.out; rw [Nat.sub_self, List.replicate_zero, List.append_nil] at this; exact this.rdAll (by rw [S.pf_length]; omega)
          have HR3' : Hid (Rd wr (some ⟨q + 1 + 1, 0, none⟩) (S.pf f3 k)) := by
            have := HO3.out; rw [Nat.sub_self, List.replicate_zero, List.append_nil] at this; exact this.rdAll (by rw [S.pf_length]; omega)
          clear ho1 ho2 ho3 y0 y1
          go_wp2_with fail
          go_at_call 21
          refine (CSH.out _ _ _ l bx HBL.out (HL2.out.below HBL.out (Nat.le_refl _)) HNL.out.symm ex).mono ?_
          rintro e wa ⟨V1, rfl, hba⟩
          have HBA := Lib.hid hba
          clear hba
          go_wp2_with fail
          go_at_call 21
          refine (CSH.out _ _ _ (S.pf f1 k) by0 (below_step HBL.out HBA.out HBL.out.size) (HR1.out.below HBA.out (Nat.le_refl _)) (S.pf_length _ _) ey).mono ?_
          rintro e wb ⟨V2, rfl, hbb⟩
          have HBB := Lib.hid (below_step HBA.out hbb HBA.out.size)
          clear hbb
          go_wp2_with fail
          go_at_call 21
          refine (CSH.out _ _ _ (S.pf f2 k) bz (below_step HBL.out HBB.out HBL.out.size) (HR2.out.below HBB.out (Nat.le_refl _)) (S.pf_length _ _) ez).mono ?_
          rintro e wc ⟨V3, rfl, hbc⟩
          have HBC := Lib.hid (below_step HBB.out hbc HBB.out.size)
          clear hbc
          go_wp2_with fail
          go_at_call 21
          refine (CSH.out _ _ _ (S.pf f3 k) bw (below_step HBL.out HBC.out HBL.out.size) (HR3'.out.below HBC.out (Nat.le_refl _)) (S.pf_length _ _) ew).mono ?_
          rintro e wd ⟨V4, rfl, hbd⟩
          have HBD := Lib.hid (below_step HBL.out (below_step HBC.out hbd HBC.out.size) HBL.out.size)
          clear hbd k0 k1 k2
          obtain ⟨k0, k1, k2, _⟩ := HK.out _ HBD.out
          have hsi : (bz : Int) ≤ (bx : Int) + (by0 : Int) := by omega
          have b1 : bx ≤ 24 := by omega
          have b2 : by0 ≤ 24 := by omega
          have b3 : bz ≤ 24 := by omega
          have hsw : IntKind.i64.wrap ((bx : Int) + (by0 : Int)) = (bx : Int) + (by0 : Int) := IntWalk.i64_in _ (by omega)
          clear hsum hb1 hb2 hb3 hb4 ex ey ez ew
          rcases HSC.out with h | ⟨ha, h⟩
          · subst h
            go_wp2
            go_ret
            exact ⟨by first | rfl | (simp; done) | (simp; omega), below_step HB.out HBD.out HB.out.size⟩
          · by_cases hwx : bw = bx
            · subst hwx
              go_wp2
              go_ret
              exact ⟨by first | rfl | (simp; done) | (simp; omega), below_step HB.out HBD.out HB.out.size⟩
            · have hwx' : ((bw : Int) == (bx : Int)) = false := by simp; omega
              subst h
              subst ha
              go_wp2_with fail
              go_at_call 28
              refine (CI.out _).mono ?_
              rintro e we ⟨rfl, hbe⟩
              have HBE := Lib.hid (below_step HBD.out hbe HBD.out.size)
              clear hbe
              go_wp2
              go_ret
              exact ⟨by first | rfl | (simp; done) | (simp; omega), below_step HB.out HBE.out HB.out.size⟩

end Go.Proofs.Ytdbhhfhfjlpepaa
