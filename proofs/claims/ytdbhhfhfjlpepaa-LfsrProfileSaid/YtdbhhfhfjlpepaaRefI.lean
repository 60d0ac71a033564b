/- The reference's Generate. -/
import Derived.Test.YtdbhhfhfjlpepaaRefK
namespace Go.Proofs.Ytdbhhfhfjlpepaa
open Go.RowKit
attribute [local go_sem ↓] Go.wp_at_zero Go.wp_at_succ

theorem set_midl (a : List Int) (x z : Int) (r : List Int) (n : Nat) (h : a.length = n) : (a ++ x :: r).set n z = a ++ z :: r := by subst h; simp
set_option maxHeartbeats 4000000 in
theorem rGen (S : FS) (A : Option Addr) (c : Nat) (B : Option Addr) (d : Nat) (l : List Int) (C : Option Addr) (d2 : Nat) (s : List Int) (N : Nat) (w : World) (hm : Rd w A S.mod) (hr : Rd w B l) (hs : Rd w C s) (_hl : l.length ≤ 5000) (hsl : s.length ≤ 5000) (hN : N ≤ 5000) (n : Nat) (hn : n = S.mod.length) :
    Calls Try.prog 19 #[.agg #[.int .i64 S.P, .int .i64 S.M, .slice A n c], .slice B l.length d, .slice C s.length d2, .int .i64 N] w fun e w' => ∃ bo, e = .returned (.slice (some ⟨bo, 0, none⟩) N N) ∧ Rd w' (some ⟨bo, 0, none⟩) (S.recu l s N) ∧ Below w.heap.size w w' := by
  have hu := Try.underlying24
  have HR := Lib.hid hr
  have HS := Lib.hid hs
  have HMD := Lib.hid hm
  have CI : Hid (∀ W, ∀ x : Int, Calls Try.prog 28 #[.agg #[.int .i64 S.P, .int .i64 S.M, .slice A n c], .int .i64 x] W fun e w' => e = .returned (.int .i64 (S.el x).1) ∧ Below W.heap.size W w') := fun W x => rIn S A n c x W
  have CA : Hid (∀ W, Below w.heap.size w W → ∀ i : Nat, Calls Try.prog 25 #[.agg #[.int .i64 S.P, .int .i64 S.M, .slice A n c], .slice B l.length d, .int .i64 i] W fun e w' => e = .returned (.int .i64 (S.sq l i).1) ∧ Below W.heap.size W w') := fun W h i => rAt S A n c B d l i W (HR.out.below h (Nat.le_refl _))
  have CM : Hid (∀ W, Below w.heap.size w W → ∀ x y : Int, Calls Try.prog 27 #[.agg #[.int .i64 S.P, .int .i64 S.M, .slice A n c], .int .i64 x, .int .i64 y] W fun e w' => e = .returned (.int .i64 (S.el x * S.el y).1) ∧ Below W.heap.size W w') := fun W h x y => rMul S A c x y W (HMD.out.below h (Nat.le_refl _)) n hn
  have CD : Hid (∀ W, ∀ x y : Int, Calls Try.prog 40 #[.agg #[.int .i64 S.P, .int .i64 S.M, .slice A n c], .int .i64 x, .int .i64 y] W fun e w' => e = .returned (.int .i64 (S.el x + -S.el y).1) ∧ Below W.heap.size W w') := fun W x y => rSub S A n c x y W
  obtain ⟨m, HM⟩ : ∃ m, Hid (m = l.length) := ⟨_, rfl⟩
  obtain ⟨f, HFL⟩ : ∃ m, Hid (m = s.length) := ⟨_, rfl⟩
  obtain ⟨P, HP⟩ : ∃ P, Hid (P = S.P) := ⟨_, rfl⟩
  obtain ⟨M, HMM⟩ : ∃ M, Hid (M = S.M) := ⟨_, rfl⟩
  rw [← HP.out, ← HMM.out] at CI CA CM CD ⊢
  rw [← HM.out] at CA ⊢
  rw [← HFL.out] at hsl ⊢
  clear hr hs hm HP HMM hn
  have hmk := makeInts N (by omega)
  obtain ⟨w1, hw1⟩ : ∃ w1, w1 = w.alloc (.cells #[.int .i64 P, .int .i64 M, .slice A n c] 24) := ⟨_, rfl⟩
  obtain ⟨bo, hbo⟩ : ∃ bo, bo = w.heap.size + 1 := ⟨_, rfl⟩
  have HBO : Hid (bo = w.heap.size + 1) := hbo
  have HMADE : Hid (Own (w1.alloc (.cells (madeCells #[.int .i64 0] N) 3)) bo N (List.replicate N 0)) := by
    have := Own.made w1 N (by omega); rw [hw1] at this ⊢; rw [World.size_alloc, ← hbo] at this; exact this
  have HW1 : Hid (Below w1.heap.size w1 (w1.alloc (.cells (madeCells #[.int .i64 0] N) 3))) := (Below.refl _ _).alloc (Nat.le_refl _) _
  go_enter Try.func19, Try.ntmps19
  go_wp2
  rw [← hw1, ← hbo]
  rw [hw1] at HW1
  clear hbo hmk
  go_loopg [10, 11] N (fun g2 t i0 wr => ∃ j : Nat, j ≤ N ∧ g2 = N - j ∧ t = .int .i64 j ∧ Own wr bo N (S.recu l s j ++ List.replicate (N - j) 0) ∧ Below (w.alloc (.cells #[.int .i64 P, .int .i64 M, .slice A n c] 24)).heap.size (w.alloc (.cells #[.int .i64 P, .int .i64 M, .slice A n c] 24)) wr)
  case atStart => exact ⟨0, Nat.zero_le _, rfl, rfl, by simpa [FS.recu] using HMADE.out, by rw [hw1]; exact HW1.out⟩
  case round =>
    clear hw1 HMADE HW1
    obtain ⟨j, hj, HGQ, rfl, hown, hb⟩ := hrel
    replace HGQ := Lib.hid HGQ
    obtain ⟨x0, x1, x2, _⟩ := box3 hb
    have HBX := Lib.hid (below_box hb)
    have HBB := Lib.hid hb
    have HOW := Lib.hid hown
    have hlr : (S.recu l s j).length = j := S.recu_length l s j
    have HLR := Lib.hid hlr
    clear hb hlr
    by_cases hlt : j < N
    · have j0 : (0 : Int) ≤ (j : Int) := by omega
      have j1 : (j : Int) < (N : Int) := by omega
      by_cases hf : j < f
      · obtain ⟨ad, rfl, hc⟩ := (HS.out.below HBX.out (Nat.le_refl _)).get j (by rw [← HFL.out]; exact hf)
        obtain ⟨u, HU⟩ : ∃ z, Hid (z = s.getD j 0) := ⟨_, rfl⟩
        rw [← HU.out] at hc
        obtain ⟨v, HV⟩ : ∃ v, Hid (v = (S.sq s j).1) := ⟨_, rfl⟩
        have CK : Hid (∀ W, Calls Try.prog 28 #[.agg #[.int .i64 P, .int .i64 M, .slice A n c], .int .i64 u] W fun e w' => e = .returned (.int .i64 v) ∧ Below W.heap.size W w') := by intro W; rw [HV.out]; have := CI.out W u; rw [HU.out] at this; rw [HU.out]; exact this
        have HNX : Hid (S.recu l s (j + 1) = S.recu l s j ++ [v]) := by unfold Hid; rw [FS.recu, if_pos (by rw [← HFL.out]; exact hf), HV.out]
        have j2 : (j : Int) < (f : Int) := by omega
        have hcu := hown.cell j (by rw [List.length_append, HLR.out, List.length_replicate]; omega)
        have hfz := hown.free j
        obtain ⟨zz, hcu⟩ : ∃ zz : Int, wr.cell? ⟨bo, j, none⟩ = some (.int .i64 zz) := ⟨_, hcu⟩
        clear hown
        go_wp2
        go_region_with (go_at_call 28; refine (CK.out _).mono ?_; rintro e w3 ⟨rfl, hb3⟩; replace hb3 : Below wr.heap.size wr w3 := below_in hb3; obtain ⟨hc3, hf3, hb3⟩ := keepCF0 hcu hfz hb3)
        all_goals
          have HS2 := Lib.hid ((HOW.out.below hb3 HOW.out.lt).set j v)
          have HB3 := Lib.hid (below_step HBB.out hb3 HBB.out.size)
          clear hb3 x0 x1 x2 hc hcu hfz hc3 hf3
          go_wp2
          go_roundg (N - (j + 1))
          case measure => have := HGQ.out; omega
          case rel =>
            refine ⟨j + 1, by omega, rfl, by go_num, ?_, HB3.out.setCell (by have := HBO.out; simp; omega) _⟩
            have := HS2.out
            rw [set_fill _ j N _ HLR.out hlt] at this
            rw [HNX.out]; exact this
      · obtain ⟨U, HUU⟩ : ∃ U : Nat → El S, Hid (∀ k, U k = -(El.sm (fun i => S.sq l (i + 1) * S.sq (S.recu l s j) (j - 1 - i)) k)) := ⟨_, fun _ => rfl⟩
        have HU0 : Hid (U 0 = 0) := by unfold Hid; rw [HUU.out, El.sm, El.neg_zero]
        have HUS : Hid (∀ k, U (k + 1) = U k + -(S.sq l (k + 1) * S.sq (S.recu l s j) (j - 1 - k))) := by intro k; rw [HUU.out, HUU.out, El.sm, El.neg_add_rev]
        have HNX : Hid (S.recu l s (j + 1) = S.recu l s j ++ [(U f).1]) := by unfold Hid; rw [FS.recu, if_neg (by rw [← HFL.out]; exact hf), HUU.out, HFL.out]
        have HST : Hid (Own wr bo N (S.recu l s j ++ ((U 0).1 :: List.replicate (N - j - 1) 0))) := by
          unfold Hid
          rw [HU0.out, show ((0 : El S).1 :: List.replicate (N - j - 1) 0) = List.replicate (N - j) 0 by rw [show N - j = N - j - 1 + 1 by omega, List.replicate_succ]; rfl]
          exact HOW.out
        have hfj : f ≤ j := by omega
        clear hown HUU
        go_wp2
        clear x0 x1 x2
        go_loopg [11] f (fun g3 i wx => ∃ k : Nat, k ≤ f ∧ g3 = f - k ∧ i = .int .i64 (k + 1 : Nat) ∧ Own wx bo N (S.recu l s j ++ ((U k).1 :: List.replicate (N - j - 1) 0)) ∧ Below (w.alloc (.cells #[.int .i64 P, .int .i64 M, .slice A n c] 24)).heap.size (w.alloc (.cells #[.int .i64 P, .int .i64 M, .slice A n c] 24)) wx)
        case atStart => exact ⟨0, Nat.zero_le _, rfl, rfl, HST.out, HBB.out⟩
        case round =>
          obtain ⟨k, hk, HGQ2, rfl, hown, hb⟩ := hrel
          replace HGQ2 := Lib.hid HGQ2
          obtain ⟨x0, x1, x2, _⟩ := box3 hb
          have HBX2 := Lib.hid (below_box hb)
          have HBB2 := Lib.hid hb
          have HOW2 := Lib.hid hown
          clear hb
          obtain ⟨i, HI⟩ : ∃ i : Nat, Hid (i = k + 1) := ⟨_, rfl⟩
          rw [← HI.out]
          have hik := HI.out
          by_cases hlt2 : k < f
          · have i1 : (i : Int) ≤ (f : Int) := by omega
            obtain ⟨jk, HJK⟩ : ∃ jk, Hid (jk = j - i) := ⟨_, rfl⟩
            have hjk : ((j : Int) - (i : Int)) = (jk : Int) := by rw [HJK.out]; omega
            have hjm : jk < j := by rw [HJK.out]; omega
            have hjw : IntKind.i64.wrap (jk : Int) = (jk : Int) := IntWalk.i64_in _ (by omega)
            have i3 : (0 : Int) ≤ (jk : Int) := by omega
            have i4 : (jk : Int) < (N : Int) := by omega
            have hlen : (S.recu l s j ++ ((U k).1 :: List.replicate (N - j - 1) 0)).length = N := by rw [List.length_append, HLR.out, List.length_cons, List.length_replicate]; omega
            obtain ⟨x, HX⟩ : ∃ x, Hid (x = (U k).1) := ⟨_, rfl⟩
            have hcx : wr.cell? ⟨bo, j, none⟩ = some (.int .i64 x) := by
              have := hown.cell j (by rw [hlen]; exact hlt)
              rw [this, HX.out]
              simp [List.getD_eq_getElem?_getD, HLR.out]
            obtain ⟨u, HU⟩ : ∃ u, Hid (u = (S.recu l s j).getD jk 0) := ⟨_, rfl⟩
            have hcu : wr.cell? ⟨bo, jk, none⟩ = some (.int .i64 u) := by
              have := hown.cell jk (by rw [hlen]; omega)
              rw [this, HU.out]
              simp [List.getD_eq_getElem?_getD, List.getElem?_append_left (show jk < (S.recu l s j).length by rw [HLR.out]; exact hjm)]
            have hfz := hown.free j
            obtain ⟨av, HAV⟩ : ∃ z, Hid (z = (S.sq l i).1) := ⟨_, rfl⟩
            obtain ⟨mv, HMV⟩ : ∃ z, Hid (z = (S.el av * S.el u).1) := ⟨_, rfl⟩
            obtain ⟨z, HZ⟩ : ∃ z, Hid (z = (U (k + 1)).1) := ⟨_, rfl⟩
            have CA2 : Hid (∀ W, Below w.heap.size w W → Calls Try.prog 25 #[.agg #[.int .i64 P, .int .i64 M, .slice A n c], .slice B m d, .int .i64 i] W fun e w' => e = .returned (.int .i64 av) ∧ Below W.heap.size W w') := fun W h => by
              rw [HAV.out]; exact CA.out W h i
            have CM2 : Hid (∀ W, Below w.heap.size w W → Calls Try.prog 27 #[.agg #[.int .i64 P, .int .i64 M, .slice A n c], .int .i64 av, .int .i64 u] W fun e w' => e = .returned (.int .i64 mv) ∧ Below W.heap.size W w') := fun W h => by
              rw [HMV.out]; exact CM.out W h av u
            have CD2 : Hid (∀ W, Calls Try.prog 40 #[.agg #[.int .i64 P, .int .i64 M, .slice A n c], .int .i64 x, .int .i64 mv] W fun e w' => e = .returned (.int .i64 z) ∧ Below W.heap.size W w') := fun W => by
              have := CD.out W x mv
              have e1 : S.el x + -S.el mv = U (k + 1) := by rw [HX.out, S.el_of, HMV.out, S.el_of, HAV.out, S.el_of, HU.out, HUS.out, HI.out, HJK.out, HI.out, Nat.sub_sub, Nat.add_comm 1 k]; rfl
              rw [e1, ← HZ.out] at this; exact this
            have hnj : jk ≠ j := by omega
            have HBOW : Hid (w.heap.size + 1 ≤ bo) := by have := HBO.out; unfold Hid; omega
            have HK0 : Hid (∀ W, Below wr.heap.size wr W → W.cell? ⟨bo, jk, none⟩ = some (.int .i64 u) ∧ W.cell? ⟨w.heap.size, 0, none⟩ = some (.int .i64 P) ∧ W.cell? ⟨w.heap.size, 1, none⟩ = some (.int .i64 M) ∧ W.cell? ⟨w.heap.size, 2, none⟩ = some (.slice A n c) ∧ W.frozen? ⟨bo, j, none⟩ = false ∧ (W.cell? ⟨bo, j, none⟩ = some (.int .i64 x) ∨ W.cell? ⟨bo, j, none⟩ = some (.int .i64 z)) ∧ Below w.heap.size w W) := fun W h => by
              obtain ⟨k1, k2, k3, k4, k5⟩ := keepQ hcu x0 x1 x2 h
              exact ⟨k1, k2, k3, k4, (keepCF0 hcx hfz h).2.1, .inl (keepCF0 hcx hfz h).1, HBX2.out.trans (h.mono HBX2.out.size)⟩
            have HKS : Hid (∀ W, Below wr.heap.size wr W → (W.setCell ⟨bo, j, none⟩ (.int .i64 z)).cell? ⟨bo, jk, none⟩ = some (.int .i64 u) ∧ (W.setCell ⟨bo, j, none⟩ (.int .i64 z)).cell? ⟨w.heap.size, 0, none⟩ = some (.int .i64 P) ∧ (W.setCell ⟨bo, j, none⟩ (.int .i64 z)).cell? ⟨w.heap.size, 1, none⟩ = some (.int .i64 M) ∧ (W.setCell ⟨bo, j, none⟩ (.int .i64 z)).cell? ⟨w.heap.size, 2, none⟩ = some (.slice A n c) ∧ (W.setCell ⟨bo, j, none⟩ (.int .i64 z)).frozen? ⟨bo, j, none⟩ = false ∧ ((W.setCell ⟨bo, j, none⟩ (.int .i64 z)).cell? ⟨bo, j, none⟩ = some (.int .i64 x) ∨ (W.setCell ⟨bo, j, none⟩ (.int .i64 z)).cell? ⟨bo, j, none⟩ = some (.int .i64 z)) ∧ Below w.heap.size w (W.setCell ⟨bo, j, none⟩ (.int .i64 z))) := fun W h => by
              obtain ⟨k1, k2, k3, k4, k5⟩ := keepQ hcu x0 x1 x2 h
              have hne : ∀ o : Nat, (⟨w.heap.size, o, none⟩ : Addr) ≠ ⟨bo, j, none⟩ := fun o e => by have := congrArg Addr.block e; simp at this; have := HBOW.out; omega
              refine ⟨?_, ?_, ?_, ?_, by rw [World.frozen?_setCell]; exact (keepCF0 hcx hfz h).2.1, .inr (World.cell?_setCell_same' _ _ _ (by rw [(keepCF0 hcx hfz h).1]; rfl)), (HBX2.out.trans (h.mono HBX2.out.size)).setCell (by have := HBOW.out; show w.heap.size ≤ bo; omega) _⟩
              · rw [World.cell?_setCell_other]
                · exact k1
                · intro e; simp at e; first | done | omega
              · rw [World.cell?_setCell_other]
                · exact k2
                · first | exact hne 0 | exact (hne 0).symm
              · rw [World.cell?_setCell_other]
                · exact k3
                · first | exact hne 1 | exact (hne 1).symm
              · rw [World.cell?_setCell_other]
                · exact k4
                · first | exact hne 2 | exact (hne 2).symm
            clear hown hlen hik
            go_wp2
            refine wp_region_noPanic ?_
            refine wp_region_held_drew (S := (fun wx => wx.cell? ⟨bo, jk, none⟩ = some (.int .i64 u) ∧ wx.cell? ⟨w.heap.size, 0, none⟩ = some (.int .i64 P) ∧ wx.cell? ⟨w.heap.size, 1, none⟩ = some (.int .i64 M) ∧ wx.cell? ⟨w.heap.size, 2, none⟩ = some (.slice A n c) ∧ wx.frozen? ⟨bo, j, none⟩ = false ∧ (wx.cell? ⟨bo, j, none⟩ = some (.int .i64 x) ∨ wx.cell? ⟨bo, j, none⟩ = some (.int .i64 z)) ∧ Below w.heap.size w wx)) (by kernel_rfl) ?_ (fun hHeld => ?_)
            · exact HK0.out _ (Below.refl _ _).drew
            (refine wpAnyH_take (i := 0) (oi := _) (v := ?_) rfl (by kernel_rfl) (by kernel_rfl) (by kernel_rfl) (fun _ _ _ h => h) (Or.inl ⟨by rfl, ?_⟩) (by assumption) ?_; rotate_left; focus (intro w9 hSw; (try dsimp only at hSw); go_simp; (try with_reducible rfl); done); try simp only [Act.put, List.setIfInBounds_toArray, List.set_cons_zero, List.set_cons_succ])
            (refine wpAnyH_take (i := 1) (oi := _) (v := ?_) rfl (by kernel_rfl) (by kernel_rfl) (by kernel_rfl) (fun _ _ _ h => h) (Or.inl ⟨by rfl, ?_⟩) (by assumption) ?_; rotate_left; focus (intro w9 hSw; (try dsimp only at hSw); go_simp; (try with_reducible rfl); done); try simp only [Act.put, List.setIfInBounds_toArray, List.set_cons_zero, List.set_cons_succ])
            (refine wpAnyH_take (i := 2) (oi := _) (v := ?_) rfl (by kernel_rfl) (by kernel_rfl) (by kernel_rfl) (fun _ _ _ h => h) (Or.inl ⟨by rfl, ?_⟩) (by assumption) ?_; rotate_left; focus (intro w9 hSw; (try dsimp only at hSw); go_simp; (try with_reducible rfl); done); try simp only [Act.put, List.setIfInBounds_toArray, List.set_cons_zero, List.set_cons_succ])
            (refine wpAnyH_take (i := 3) (oi := _) (v := ?_) rfl (by kernel_rfl) (by kernel_rfl) (by kernel_rfl) (fun _ _ _ h => h) (Or.inl ⟨by rfl, ?_⟩) (by assumption) ?_; rotate_left; focus (intro w9 hSw; (try dsimp only at hSw); go_simp; (try with_reducible rfl); done); try simp only [Act.put, List.setIfInBounds_toArray, List.set_cons_zero, List.set_cons_succ])
            (refine wpAnyH_take (i := 4) (oi := _) (v := ?_) rfl (by kernel_rfl) (by kernel_rfl) (by kernel_rfl) (fun _ _ _ h => h) (Or.inl ⟨by rfl, ?_⟩) (by assumption) ?_; rotate_left; focus (intro w9 hSw; (try dsimp only at hSw); go_simp; (try with_reducible rfl); done); try simp only [Act.put, List.setIfInBounds_toArray, List.set_cons_zero, List.set_cons_succ])
            (refine wpAnyH_take (i := 5) (oi := _) (v := ?_) rfl (by kernel_rfl) (by kernel_rfl) (by kernel_rfl) (fun _ _ _ h => h) (Or.inl ⟨by rfl, ?_⟩) (by assumption) ?_; rotate_left; focus (intro w9 hSw; (try dsimp only at hSw); go_simp; (try with_reducible rfl); done); try simp only [Act.put, List.setIfInBounds_toArray, List.set_cons_zero, List.set_cons_succ])
            (refine wpAnyH_take (i := 7) (oi := _) (v := ?_) rfl (by kernel_rfl) (by kernel_rfl) (by kernel_rfl) (fun _ _ _ h => h) (Or.inl ⟨by rfl, ?_⟩) (by assumption) ?_; rotate_left; focus (intro w9 hSw; (try dsimp only at hSw); go_simp; (try with_reducible rfl); done); try simp only [Act.put, List.setIfInBounds_toArray, List.set_cons_zero, List.set_cons_succ])
            (refine wpAnyH_take (i := 8) (oi := _) (v := ?_) rfl (by kernel_rfl) (by kernel_rfl) (by kernel_rfl) (fun _ _ _ h => h) (Or.inl ⟨by rfl, ?_⟩) (by assumption) ?_; rotate_left; focus (intro w9 hSw; (try dsimp only at hSw); go_simp; (try with_reducible rfl); done); try simp only [Act.put, List.setIfInBounds_toArray, List.set_cons_zero, List.set_cons_succ])
            (refine wpAnyH_take (i := 9) (oi := _) (v := ?_) rfl (by kernel_rfl) (by kernel_rfl) (by kernel_rfl) (fun _ _ _ h => h) (Or.inl ⟨by rfl, ?_⟩) (by assumption) ?_; rotate_left; focus (intro w9 hSw; (try dsimp only at hSw); go_simp; (try with_reducible rfl); done); try simp only [Act.put, List.setIfInBounds_toArray, List.set_cons_zero, List.set_cons_succ])
            (refine wpAnyH_take (i := 10) (oi := _) (v := ?_) rfl (by kernel_rfl) (by kernel_rfl) (by kernel_rfl) (fun _ _ _ h => h) (Or.inl ⟨by rfl, ?_⟩) (by assumption) ?_; rotate_left; focus (intro w9 hSw; (try dsimp only at hSw); go_simp; (try with_reducible rfl); done); try simp only [Act.put, List.setIfInBounds_toArray, List.set_cons_zero, List.set_cons_succ])
            (refine wpAnyH_take (i := 12) (oi := _) (v := ?_) rfl (by kernel_rfl) (by kernel_rfl) (by kernel_rfl) (fun _ _ _ h => h) (Or.inl ⟨by rfl, ?_⟩) (by assumption) ?_; rotate_left; focus (intro w9 hSw; (try dsimp only at hSw); go_simp; (try with_reducible rfl); done); try simp only [Act.put, List.setIfInBounds_toArray, List.set_cons_zero, List.set_cons_succ])
            (refine wpAnyH_take (i := 13) (oi := _) (v := ?_) rfl (by kernel_rfl) (by kernel_rfl) (by kernel_rfl) (fun _ _ _ h => h) (Or.inl ⟨by rfl, ?_⟩) (by assumption) ?_; rotate_left; focus (intro w9 hSw; (try dsimp only at hSw); go_simp; (try with_reducible rfl); done); try simp only [Act.put, List.setIfInBounds_toArray, List.set_cons_zero, List.set_cons_succ])
            (refine wpAnyH_take (i := 14) (oi := _) (v := ?_) rfl (by kernel_rfl) (by kernel_rfl) (by kernel_rfl) (fun _ _ _ h => h) (Or.inl ⟨by rfl, ?_⟩) (by assumption) ?_; rotate_left; focus (intro w9 hSw; (try dsimp only at hSw); go_simp; (try with_reducible rfl); done); try simp only [Act.put, List.setIfInBounds_toArray, List.set_cons_zero, List.set_cons_succ])
            (refine wpAnyH_take (i := 15) (oi := _) (v := ?_) rfl (by kernel_rfl) (by kernel_rfl) (by kernel_rfl) (fun _ _ _ h => h) (Or.inl ⟨by rfl, ?_⟩) (by assumption) ?_; rotate_left; focus (intro w9 hSw; (try dsimp only at hSw); go_simp; (try with_reducible rfl); done); try simp only [Act.put, List.setIfInBounds_toArray, List.set_cons_zero, List.set_cons_succ])
            (refine wpAnyH_take (i := 16) (oi := _) (v := ?_) rfl (by kernel_rfl) (by kernel_rfl) (by kernel_rfl) (fun _ _ _ h => h) (Or.inl ⟨by rfl, ?_⟩) (by assumption) ?_; rotate_left; focus (intro w9 hSw; (try dsimp only at hSw); go_simp; (try with_reducible rfl); done); try simp only [Act.put, List.setIfInBounds_toArray, List.set_cons_zero, List.set_cons_succ])
            (refine wpAnyH_take (i := 17) (oi := _) (v := ?_) rfl (by kernel_rfl) (by kernel_rfl) (by kernel_rfl) (fun _ _ _ h => h) (Or.inl ⟨by rfl, ?_⟩) (by assumption) ?_; rotate_left; focus (intro w9 hSw; (try dsimp only at hSw); go_simp; (try with_reducible rfl); done); try simp only [Act.put, List.setIfInBounds_toArray, List.set_cons_zero, List.set_cons_succ])
            refine wpAnyH_ready (rs := [6, 11]) (by kernel_rfl) (by simp) ?_
            refine AllReadyH.cons (o := _) rfl (fun K hK => ?_) ?_
            · go_simp
              refine hK.out _ _ ?_ (fun hHeld => ?_)
              · assumption
              clear hK K
              try simp only [Act.put, List.setIfInBounds_toArray, List.set_cons_zero, List.set_cons_succ]
              refine wpAnyH_ready (rs := [11]) (by kernel_rfl) (by simp) ?_
              refine AllReadyH.cons (o := _) rfl (fun K hK => ?_) ?_
              · go_simp
                go_at_call 25
                refine (CA2.out _ (And.right (And.right (And.right (And.right (And.right (And.right (by assumption)))))))).mono ?_
                rintro e w3 ⟨rfl, hb3⟩
                replace hb3 : Below wr.heap.size wr w3 := below_in hb3
                have hc3 := (keepCF0 hcx hfz hb3).1
                go_wp2_with fail
                refine hK.out _ _ ?_ (fun hHeld => ?_)
                · exact HK0.out _ hb3
                clear hK K
                try simp only [Act.put, List.setIfInBounds_toArray, List.set_cons_zero, List.set_cons_succ]
                refine wpAnyH_ready (rs := [18]) (by kernel_rfl) (by simp) ?_
                refine AllReadyH.cons (o := _) rfl (fun K hK => ?_) ?_
                · go_simp
                  go_at_call 27
                  refine (CM2.out _ (And.right (And.right (And.right (And.right (And.right (And.right (by assumption)))))))).mono ?_
                  rintro e w4 ⟨rfl, hb4⟩
                  replace hb4 : Below wr.heap.size wr w4 := below_on hb3 hb4
                  have hc4 := (keepCF0 hcx hfz hb4).1
                  go_wp2_with fail
                  refine hK.out _ _ ?_ (fun hHeld => ?_)
                  · exact HK0.out _ hb4
                  clear hK K
                  try simp only [Act.put, List.setIfInBounds_toArray, List.set_cons_zero, List.set_cons_succ]
                  refine wpAnyH_ready (rs := [19]) (by kernel_rfl) (by simp) ?_
                  refine AllReadyH.cons (o := _) rfl (fun K hK => ?_) ?_
                  · go_simp
                    go_at_call 40
                    refine (CD2.out _).mono ?_
                    rintro e w5 ⟨rfl, hb5⟩
                    replace hb5 : Below wr.heap.size wr w5 := below_on hb4 hb5
                    have hc5 := (keepCF0 hcx hfz hb5).1
                    have hf5 := (keepCF0 hcx hfz hb5).2.1
                    go_wp2_with fail
                    refine hK.out _ _ ?_ (fun hHeld => ?_)
                    · exact HK0.out _ hb5
                    clear hK K
                    try simp only [Act.put, List.setIfInBounds_toArray, List.set_cons_zero, List.set_cons_succ]
                    (refine wpAnyH_take (i := 20) (oi := _) (v := ?_) rfl (by kernel_rfl) (by kernel_rfl) (by kernel_rfl) (fun _ _ _ h => h) (Or.inl ⟨by rfl, ?_⟩) (by assumption) ?_; rotate_left; focus (intro w9 hSw; (try dsimp only at hSw); go_simp; (try with_reducible rfl); done); try simp only [Act.put, List.setIfInBounds_toArray, List.set_cons_zero, List.set_cons_succ])
                    refine wpAnyH_ready (rs := [21]) (by kernel_rfl) (by simp) ?_
                    refine AllReadyH.cons (o := _) rfl (fun K hK => ?_) ?_
                    · go_simp
                      refine hK.out _ _ ?_ (fun hHeld => ?_)
                      · exact HKS.out _ hb5
                      clear hK K
                      try simp only [Act.put, List.setIfInBounds_toArray, List.set_cons_zero, List.set_cons_succ]
                      refine wpAnyH_done (by kernel_rfl) ?_ _
                      refine NoPanic.normal ?_
                      have HS5 := Lib.hid ((HOW2.out.below hb5 HOW2.out.lt).set j z)
                      have HB5 := Lib.hid (below_step HBB2.out hb5 HBB2.out.size)
                      clear hb3 hb4 hb5 hc3 hc4 hc5 hf5 hcx hcu hfz x0 x1 x2
                      go_wp2
                      go_roundg (f - (k + 1))
                      case measure => have := HGQ2.out; omega
                      case rel =>
                        refine ⟨k + 1, by omega, rfl, by rw [HI.out]; go_num, ?_, HB5.out.setCell (by have := HBO.out; simp; omega) _⟩
                        have := HS5.out
                        rw [set_midl _ _ _ _ _ HLR.out, HZ.out] at this
                        rw [HZ.out]; exact this
                    exact AllReadyH.nil
                  exact AllReadyH.nil
                exact AllReadyH.nil
              exact AllReadyH.nil
            refine AllReadyH.cons (o := _) rfl (fun K hK => ?_) ?_
            · go_simp
              go_at_call 25
              refine (CA2.out _ (And.right (And.right (And.right (And.right (And.right (And.right (by assumption)))))))).mono ?_
              rintro e w3 ⟨rfl, hb3⟩
              replace hb3 : Below wr.heap.size wr w3 := below_in hb3
              have hc3 := (keepCF0 hcx hfz hb3).1
              go_wp2_with fail
              refine hK.out _ _ ?_ (fun hHeld => ?_)
              · exact HK0.out _ hb3
              clear hK K
              try simp only [Act.put, List.setIfInBounds_toArray, List.set_cons_zero, List.set_cons_succ]
              refine wpAnyH_ready (rs := [6, 18]) (by kernel_rfl) (by simp) ?_
              refine AllReadyH.cons (o := _) rfl (fun K hK => ?_) ?_
              · go_simp
                refine hK.out _ _ ?_ (fun hHeld => ?_)
                · assumption
                clear hK K
                try simp only [Act.put, List.setIfInBounds_toArray, List.set_cons_zero, List.set_cons_succ]
                refine wpAnyH_ready (rs := [18]) (by kernel_rfl) (by simp) ?_
                refine AllReadyH.cons (o := _) rfl (fun K hK => ?_) ?_
                · go_simp
                  go_at_call 27
                  refine (CM2.out _ (And.right (And.right (And.right (And.right (And.right (And.right (by assumption)))))))).mono ?_
                  rintro e w4 ⟨rfl, hb4⟩
                  replace hb4 : Below wr.heap.size wr w4 := below_on hb3 hb4
                  have hc4 := (keepCF0 hcx hfz hb4).1
                  go_wp2_with fail
                  refine hK.out _ _ ?_ (fun hHeld => ?_)
                  · exact HK0.out _ hb4
                  clear hK K
                  try simp only [Act.put, List.setIfInBounds_toArray, List.set_cons_zero, List.set_cons_succ]
                  refine wpAnyH_ready (rs := [19]) (by kernel_rfl) (by simp) ?_
                  refine AllReadyH.cons (o := _) rfl (fun K hK => ?_) ?_
                  · go_simp
                    go_at_call 40
                    refine (CD2.out _).mono ?_
                    rintro e w5 ⟨rfl, hb5⟩
                    replace hb5 : Below wr.heap.size wr w5 := below_on hb4 hb5
                    have hc5 := (keepCF0 hcx hfz hb5).1
                    have hf5 := (keepCF0 hcx hfz hb5).2.1
                    go_wp2_with fail
                    refine hK.out _ _ ?_ (fun hHeld => ?_)
                    · exact HK0.out _ hb5
                    clear hK K
                    try simp only [Act.put, List.setIfInBounds_toArray, List.set_cons_zero, List.set_cons_succ]
                    (refine wpAnyH_take (i := 20) (oi := _) (v := ?_) rfl (by kernel_rfl) (by kernel_rfl) (by kernel_rfl) (fun _ _ _ h => h) (Or.inl ⟨by rfl, ?_⟩) (by assumption) ?_; rotate_left; focus (intro w9 hSw; (try dsimp only at hSw); go_simp; (try with_reducible rfl); done); try simp only [Act.put, List.setIfInBounds_toArray, List.set_cons_zero, List.set_cons_succ])
                    refine wpAnyH_ready (rs := [21]) (by kernel_rfl) (by simp) ?_
                    refine AllReadyH.cons (o := _) rfl (fun K hK => ?_) ?_
                    · go_simp
                      refine hK.out _ _ ?_ (fun hHeld => ?_)
                      · exact HKS.out _ hb5
                      clear hK K
                      try simp only [Act.put, List.setIfInBounds_toArray, List.set_cons_zero, List.set_cons_succ]
                      refine wpAnyH_done (by kernel_rfl) ?_ _
                      refine NoPanic.normal ?_
                      have HS5 := Lib.hid ((HOW2.out.below hb5 HOW2.out.lt).set j z)
                      have HB5 := Lib.hid (below_step HBB2.out hb5 HBB2.out.size)
                      clear hb3 hb4 hb5 hc3 hc4 hc5 hf5 hcx hcu hfz x0 x1 x2
                      go_wp2
                      go_roundg (f - (k + 1))
                      case measure => have := HGQ2.out; omega
                      case rel =>
                        refine ⟨k + 1, by omega, rfl, by rw [HI.out]; go_num, ?_, HB5.out.setCell (by have := HBO.out; simp; omega) _⟩
                        have := HS5.out
                        rw [set_midl _ _ _ _ _ HLR.out, HZ.out] at this
                        rw [HZ.out]; exact this
                    exact AllReadyH.nil
                  exact AllReadyH.nil
                exact AllReadyH.nil
              refine AllReadyH.cons (o := _) rfl (fun K hK => ?_) ?_
              · go_simp
                go_at_call 27
                refine (CM2.out _ (And.right (And.right (And.right (And.right (And.right (And.right (by assumption)))))))).mono ?_
                rintro e w4 ⟨rfl, hb4⟩
                replace hb4 : Below wr.heap.size wr w4 := below_on hb3 hb4
                have hc4 := (keepCF0 hcx hfz hb4).1
                go_wp2_with fail
                refine hK.out _ _ ?_ (fun hHeld => ?_)
                · exact HK0.out _ hb4
                clear hK K
                try simp only [Act.put, List.setIfInBounds_toArray, List.set_cons_zero, List.set_cons_succ]
                refine wpAnyH_ready (rs := [6]) (by kernel_rfl) (by simp) ?_
                refine AllReadyH.cons (o := _) rfl (fun K hK => ?_) ?_
                · go_simp
                  refine hK.out _ _ ?_ (fun hHeld => ?_)
                  · assumption
                  clear hK K
                  try simp only [Act.put, List.setIfInBounds_toArray, List.set_cons_zero, List.set_cons_succ]
                  refine wpAnyH_ready (rs := [19]) (by kernel_rfl) (by simp) ?_
                  refine AllReadyH.cons (o := _) rfl (fun K hK => ?_) ?_
                  · go_simp
                    go_at_call 40
                    refine (CD2.out _).mono ?_
                    rintro e w5 ⟨rfl, hb5⟩
                    replace hb5 : Below wr.heap.size wr w5 := below_on hb4 hb5
                    have hc5 := (keepCF0 hcx hfz hb5).1
                    have hf5 := (keepCF0 hcx hfz hb5).2.1
                    go_wp2_with fail
                    refine hK.out _ _ ?_ (fun hHeld => ?_)
                    · exact HK0.out _ hb5
                    clear hK K
                    try simp only [Act.put, List.setIfInBounds_toArray, List.set_cons_zero, List.set_cons_succ]
                    (refine wpAnyH_take (i := 20) (oi := _) (v := ?_) rfl (by kernel_rfl) (by kernel_rfl) (by kernel_rfl) (fun _ _ _ h => h) (Or.inl ⟨by rfl, ?_⟩) (by assumption) ?_; rotate_left; focus (intro w9 hSw; (try dsimp only at hSw); go_simp; (try with_reducible rfl); done); try simp only [Act.put, List.setIfInBounds_toArray, List.set_cons_zero, List.set_cons_succ])
                    refine wpAnyH_ready (rs := [21]) (by kernel_rfl) (by simp) ?_
                    refine AllReadyH.cons (o := _) rfl (fun K hK => ?_) ?_
                    · go_simp
                      refine hK.out _ _ ?_ (fun hHeld => ?_)
                      · exact HKS.out _ hb5
                      clear hK K
                      try simp only [Act.put, List.setIfInBounds_toArray, List.set_cons_zero, List.set_cons_succ]
                      refine wpAnyH_done (by kernel_rfl) ?_ _
                      refine NoPanic.normal ?_
                      have HS5 := Lib.hid ((HOW2.out.below hb5 HOW2.out.lt).set j z)
                      have HB5 := Lib.hid (below_step HBB2.out hb5 HBB2.out.size)
                      clear hb3 hb4 hb5 hc3 hc4 hc5 hf5 hcx hcu hfz x0 x1 x2
                      go_wp2
                      go_roundg (f - (k + 1))
                      case measure => have := HGQ2.out; omega
                      case rel =>
                        refine ⟨k + 1, by omega, rfl, by rw [HI.out]; go_num, ?_, HB5.out.setCell (by have := HBO.out; simp; omega) _⟩
                        have := HS5.out
                        rw [set_midl _ _ _ _ _ HLR.out, HZ.out] at this
                        rw [HZ.out]; exact this
                    exact AllReadyH.nil
                  exact AllReadyH.nil
                exact AllReadyH.nil
              exact AllReadyH.nil
            exact AllReadyH.nil
          · obtain rfl : k = f := by omega
            have i1 : ¬ (i : Int) ≤ (k : Int) := by omega
            clear hown hik
            go_wp2
            go_roundg (N - (j + 1))
            case measure => have := HGQ.out; omega
            case rel =>
              refine ⟨j + 1, by omega, rfl, by go_num, ?_, HBB2.out⟩
              have := HOW2.out
              rw [HNX.out, List.append_assoc, show N - (j + 1) = N - j - 1 by omega]
              exact this
    · obtain rfl : j = N := by omega
      have HRD : Hid (Rd wr (some ⟨bo, 0, none⟩) (S.recu l s j)) := by
        have := HOW.out
        rw [Nat.sub_self, List.replicate_zero, List.append_nil] at this
        exact this.rdAll (by rw [HLR.out]; omega)
      clear hown
      go_wp2
      go_ret
      exact ⟨bo, rfl, HRD.out, HBX.out⟩

end Go.Proofs.Ytdbhhfhfjlpepaa
