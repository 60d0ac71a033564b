/- lfsr.Generate. -/
import Derived.Test.YtdbhhfhfjlpepaaRefI
namespace Go.Proofs.Ytdbhhfhfjlpepaa
theorem box2 {w w1 : World} {a b : Value} {t : TypeId} (h : Go.RowKit.Below (w.alloc (.cells #[a, b] t)).heap.size (w.alloc (.cells #[a, b] t)) w1) :
    w1.cell? ⟨w.heap.size, 0, none⟩ = some a ∧ w1.cell? ⟨w.heap.size, 1, none⟩ = some b :=
  ⟨(h.cell (by simp)).trans (by simp), (h.cell (by simp)).trans (by simp)⟩
open Go.RowKit in
theorem keepS {W w' : World} {g : Nat} {a b c : Value} (h0 : W.cell? ⟨g, 0, none⟩ = some a) (h1 : W.cell? ⟨g, 1, none⟩ = some b) (h2 : W.cell? ⟨g, 2, none⟩ = some c) (hb : Below W.heap.size W w') :
    w'.cell? ⟨g, 0, none⟩ = some a ∧ w'.cell? ⟨g, 1, none⟩ = some b ∧ w'.cell? ⟨g, 2, none⟩ = some c ∧ Below W.heap.size W w' :=
  ⟨(hb.cell (World.block_lt_of_cell? W _ h0)).trans h0, (hb.cell (World.block_lt_of_cell? W _ h1)).trans h1, (hb.cell (World.block_lt_of_cell? W _ h2)).trans h2, hb⟩
end Go.Proofs.Ytdbhhfhfjlpepaa
namespace Go.Proofs.Ytdbhhfhfjlpepaa
open Go.RowKit
attribute [local go_sem ↓] Go.wp_at_zero Go.wp_at_succ

theorem FS.recu_can (S : FS) (c first : List Int) (n : Nat) : S.recu (S.canL c) first n = S.recu c first n := by
  induction n with
  | zero => rfl
  | succ n ih => rw [FS.recu, FS.recu, ih, S.sq_can]
/-- What lies ahead of the entry j, by the gap. -/
theorem FS.recu_gap (S : FS) (c first : List Int) (hr : El.Reg (S.sq c) first.length) (j N : Nat) (hf : ¬ j < first.length) :
    S.recu c first (j + 1) = S.recu c first j ++ [(-(El.cv (S.sq c) (S.sq (S.recu c first j ++ List.replicate (N - j) 0)) j)).1] := by
  rw [FS.recu, if_neg hf, S.cv_split c _ hr _ j (by omega)]
  have h0 : S.sq (S.recu c first j ++ List.replicate (N - j) 0) j = 0 := by
    unfold FS.sq
    rw [List.getD_eq_getElem?_getD, List.getElem?_append_right (by rw [S.recu_length]; exact Nat.le_refl _), S.recu_length, Nat.sub_self]
    cases N - j with
    | zero => exact S.el_0
    | succ k => rw [List.getElem?_replicate]; exact S.el_0
  rw [h0, El.zero_add]
  congr 2
  refine congrArg _ (congrArg _ (El.sm_congr _ fun i hi => ?_))
  congr 1
  unfold FS.sq
  rw [List.getD_eq_getElem?_getD, List.getD_eq_getElem?_getD, List.getElem?_append_left (by rw [S.recu_length]; omega)]

/-- What Generate hands back. -/
def LfGenRet (S : FS) (c first : List Int) (N : Int) (w : World) (e : Ending) (w' : World) : Prop :=
  ((e = .returned (.tuple #[.slice none 0 0, .int .i64 5]) ∧ ¬ S.IsReg c first.length) ∨
   (e = .returned (.tuple #[.slice none 0 0, .int .i64 6]) ∧ S.IsReg c first.length ∧ (N < 0 ∨ 4096 < N)) ∨
   ∃ (k : Nat) (A : Option Addr) (c' : Nat), N = k ∧ k ≤ 4096 ∧ S.IsReg c first.length ∧ e = .returned (.tuple #[.slice A k c', .int .i64 0]) ∧ Rd w' A (S.recu c first k)) ∧ Below w.heap.size w w'

set_option maxHeartbeats 2000000 in
theorem lfGen_calls (g : Nat) (S : FS) (A : Option Addr) (c : Nat) (l : List Int) (B : Option Addr) (d : Nat) (s : List Int) (N : Int) (w : World) (hf : FldAt w g S) (hr : Rd w A l) (hs : Rd w B s) (hl : l.length ≤ 1000) (hsl : s.length ≤ 1000) :
    Calls Try.prog 16 #[.pointer (some ⟨g, 0, none⟩), .slice A l.length c, .slice B s.length d, .int .i64 N] w fun e w' => LfGenRet S l s N w e w' := by
  have HF := Lib.hid hf
  have HR := Lib.hid hr
  have HS := Lib.hid hs
  clear hf hr hs
  obtain ⟨n, HN⟩ : ∃ n, Hid (n = l.length) := ⟨_, rfl⟩
  obtain ⟨f, HFL⟩ : ∃ f, Hid (f = s.length) := ⟨_, rfl⟩
  have CC : Hid (Calls Try.prog 34 #[.pointer (some ⟨g, 0, none⟩), .slice A n c] w fun e w' => NewL w e w' (S.canL l)) := by
    rw [HN.out]; exact canon_calls g S A c l w HF.out HR.out (by omega)
  have HG5 : Hid (∀ e w', e = .returned (.tuple #[.slice none 0 0, .int .i64 5]) → ¬ S.IsReg l s.length → Below w.heap.size w w' → LfGenRet S l s N w e w') := fun e w' h1 h2 h3 => ⟨.inl ⟨h1, h2⟩, h3⟩
  have HG6 : Hid (∀ e w', e = .returned (.tuple #[.slice none 0 0, .int .i64 6]) → S.IsReg l s.length → (N < 0 ∨ 4096 < N) → Below w.heap.size w w' → LfGenRet S l s N w e w') := fun e w' h1 h2 h3 h4 => ⟨.inr (.inl ⟨h1, h2, h3⟩), h4⟩
  have HG0 : Hid (∀ e w' (k : Nat) (A : Option Addr) (c' : Nat), N = k → k ≤ 4096 → S.IsReg l s.length → e = .returned (.tuple #[.slice A k c', .int .i64 0]) → Rd w' A (S.recu l s k) → Below w.heap.size w w' → LfGenRet S l s N w e w') := fun e w' k A c' h1 h2 h3 h4 h5 h6 => ⟨.inr (.inr ⟨k, A, c', h1, h2, h3, h4, h5⟩), h6⟩
  have CR : Hid (∀ (W : World) (A1 : Option Addr) (c1 : Nat), Rd W A1 (S.canL l) → Calls Try.prog 35 #[.slice A1 (S.canL l).length c1, .int .i64 f] W fun e w' => BoolIs (S.IsReg l f) W e w') := fun W A1 c1 h => by
    rw [propext (S.isReg_own l f)]; exact isReg_calls A1 c1 (S.canL l) f W h
  have CG : Hid (∀ (W : World) (A1 : Option Addr) (c1 : Nat) (bo k : Nat) (o : List Int) (j : Nat), Below w.heap.size w W → Rd W A1 (S.canL l) → Rd W (some ⟨bo, 0, none⟩) o → o.length = k → j < k → k ≤ 4096 → Calls Try.prog 38 #[.pointer (some ⟨g, 0, none⟩), .slice A1 (S.canL l).length c1, .slice (some ⟨bo, 0, none⟩) k k, .int .i64 j] W fun e w' => e = .returned (.int .i64 (El.cv (S.sq l) (S.sq o) j).1) ∧ Below W.heap.size W w') := by
    intro W A1 c1 bo k o j hW h1 h2 h3 h4 h5
    have hcl : (S.canL l).length ≤ l.length := by have := trimL_len (S.nums l l.length); rwa [S.nums_length] at this
    have := gap_calls g S A1 c1 (S.canL l) (some ⟨bo, 0, none⟩) k o j W (HF.out.below hW) h1 h2 (by omega) (by omega) (by omega)
    rw [h3, S.sq_can] at this
    exact this
  have HRG : Hid (S.IsReg l f → ∀ j N : Nat, ¬ j < f → S.recu l s (j + 1) = S.recu l s j ++ [(-(El.cv (S.sq l) (S.sq (S.recu l s j ++ List.replicate (N - j) 0)) j)).1]) := by
    rintro ⟨L, e, hr⟩ j N hj
    obtain rfl : f = L := by omega
    exact S.recu_gap l s (by rw [← HFL.out]; exact hr) j N (by rw [← HFL.out]; exact hj)
  rw [← HFL.out] at HG5 HG6 HG0 hsl ⊢
  rw [← HN.out] at hl ⊢
  obtain ⟨nc, HNC⟩ : ∃ nc, Hid (nc = (S.canL l).length) := ⟨_, rfl⟩
  rw [← HNC.out] at CR CG
  obtain ⟨p, HP⟩ : ∃ p : Prop, Hid (p ↔ S.IsReg l f) := ⟨_, Iff.rfl⟩
  rw [← propext HP.out] at CR HG5 HG6 HG0 HRG
  clear HP
  go_enter Try.func16, Try.ntmps16
  go_wp2_with fail
  go_at_call 34
  refine CC.out.mono ?_
  rintro e w1 ⟨A1, c1, rfl, hr1, _, _, _, hb1⟩
  rw [← HNC.out]
  have HR1 := Lib.hid hr1
  have HB1 := Lib.hid hb1
  clear hr1 hb1
  go_wp2_with fail
  go_at_call 35
  refine (CR.out _ A1 c1 HR1.out).mono ?_
  rintro e w2 ⟨b, rfl, hbi, hb2⟩
  have HB2 := Lib.hid (below_step HB1.out hb2 HB1.out.size)
  have HR2 := Lib.hid (HR1.out.below hb2 (Nat.le_refl _))
  have HBI := Lib.hid hbi
  clear hbi hb2
  cases b
  · have HFN := Lib.hid (HG5.out _ w2 rfl (fun h => by have := HBI.out.2 h; cases this) HB2.out)
    go_wp2
    go_ret2
    exact HFN.out
  · have HPP : Hid p := HBI.out.1 rfl
    clear HBI
    by_cases h1 : N < 0
    · have HFN := Lib.hid (HG6.out _ w2 rfl HPP.out (.inl h1) HB2.out)
      go_wp2
      go_ret2
      exact HFN.out
    by_cases h2 : 4096 < N
    · have HFN := Lib.hid (HG6.out _ w2 rfl HPP.out (.inr h2) HB2.out)
      go_wp2
      go_ret2
      exact HFN.out
    obtain ⟨k, rfl⟩ := Int.eq_ofNat_of_zero_le (show 0 ≤ N by omega)
    have hk : k ≤ 4096 := by omega
    have h2' : ¬ (4096 : Int) < (k : Int) := h2
    have hmk := makeInts k (by omega)
    have hmade := Own.made w2 k (by omega)
    have HA := Lib.hid (HB2.out.alloc HB2.out.size (.cells (madeCells #[.int .i64 0] k) 3))
    have HSZ := Lib.hid HB2.out.size
    have HA2 := Lib.hid ((Below.refl w2.heap.size w2).alloc (Nat.le_refl _) (.cells (madeCells #[.int .i64 0] k) 3))
    have HR0 := Lib.hid HR2.out
    obtain ⟨w3, hw3⟩ : ∃ w3, w3 = w2.alloc (.cells (madeCells #[.int .i64 0] k) 3) := ⟨_, rfl⟩
    have hs3 : w3.heap.size = w2.heap.size + 1 := by rw [hw3]; simp
    obtain ⟨bo, hbo⟩ : ∃ bo, bo = w2.heap.size := ⟨_, rfl⟩
    have HBO : Hid (bo = w2.heap.size) := hbo
    go_wp2
    rw [← hw3] at hmade HA HA2 ⊢
    rw [← hbo] at hmade ⊢
    clear hw3 hbo hmk
    go_loopg [30] k (fun g2 i wr => ∃ j : Nat, j ≤ k ∧ g2 = k - j ∧ i = .int .i64 j ∧ Own wr bo k (S.recu l s j ++ List.replicate (k - j) 0) ∧ Below w.heap.size w wr ∧ Below w2.heap.size w2 wr)
    case atStart => exact ⟨0, Nat.zero_le _, rfl, rfl, by simpa [FS.recu] using hmade, HA.out, HA2.out⟩
    case round =>
      obtain ⟨j, hj, HGQ, rfl, hown, hb, hb2⟩ := hrel
      replace HGQ := Lib.hid HGQ
      have HBL := Lib.hid hb
      have HBL2 := Lib.hid hb2
      have HOW := Lib.hid hown
      have HLR : Hid ((S.recu l s j).length = j) := S.recu_length l s j
      clear hb hb2 hmade
      by_cases hlt : j < k
      · have hlen : (S.recu l s j ++ List.replicate (k - j) 0).length = k := by rw [List.length_append, HLR.out, List.length_replicate]; omega
        have HLEN := Lib.hid hlen
        obtain ⟨zz, hcu⟩ : ∃ zz : Int, wr.cell? ⟨bo, j, none⟩ = some (.int .i64 zz) := ⟨_, hown.cell j (by rw [hlen]; exact hlt)⟩
        have hfz := hown.free j
        clear hown hlen
        by_cases hf : j < f
        · obtain ⟨ad, rfl, hc⟩ := (HS.out.below HBL.out (Nat.le_refl _)).get j (by rw [← HFL.out]; exact hf)
          obtain ⟨u, HU⟩ : ∃ z, Hid (z = s.getD j 0) := ⟨_, rfl⟩
          rw [← HU.out] at hc
          obtain ⟨v, HV⟩ : ∃ v, Hid (v = (S.el u + S.el 0).1) := ⟨_, rfl⟩
          have HNX : Hid (S.recu l s (j + 1) = S.recu l s j ++ [v]) := by unfold Hid; rw [FS.recu, if_pos (by rw [← HFL.out]; exact hf), HV.out, S.el_0, El.add_zero, HU.out]; rfl
          go_wp2_with fail
          go_at_call 36
          refine (eAdd g S u 0 _ (HF.out.below HBL.out)).mono ?_
          rw [← HV.out]
          rintro e w4 ⟨rfl, hb4⟩
          obtain ⟨hc4, hf4, _⟩ := keepCF0 hcu hfz hb4
          have HS2 := Lib.hid ((HOW.out.below hb4 HOW.out.lt).set j v)
          have HB4 := Lib.hid (below_step HBL.out hb4 HBL.out.size)
          have HB5 := Lib.hid (below_step HBL2.out hb4 HBL2.out.size)
          clear hb4 hc hcu hfz
          go_wp2
          go_roundg (k - (j + 1))
          case measure => have := HGQ.out; omega
          case rel =>
            refine ⟨j + 1, by omega, rfl, by go_num, ?_, HB4.out.setCell (by have := HBO.out; have := HSZ.out; simp; omega) _, HB5.out.setCell (by have := HBO.out; simp; omega) _⟩
            have := HS2.out
            rw [set_fill _ j k _ HLR.out hlt] at this
            rw [HNX.out]; exact this
        · have HNX := Lib.hid (HRG.out HPP.out j k hf)
          obtain ⟨x, HX⟩ : ∃ x : El S, Hid (x = El.cv (S.sq l) (S.sq (S.recu l s j ++ List.replicate (k - j) (0 : Int))) j) := ⟨_, rfl⟩
          rw [← HX.out] at HNX
          have CG2 : Hid (Calls Try.prog 38 #[.pointer (some ⟨g, 0, none⟩), .slice A1 nc c1, .slice (some ⟨bo, 0, none⟩) k k, .int .i64 j] wr fun e w' => e = .returned (.int .i64 x.1) ∧ Below wr.heap.size wr w') := by
            rw [HX.out]; exact CG.out wr A1 c1 bo k _ j HBL.out (HR0.out.below HBL2.out (Nat.le_refl _)) (HOW.out.rdAll (by rw [HLEN.out]; omega)) HLEN.out hlt hk
          go_wp2_with fail
          go_at_call 38
          refine CG2.out.mono ?_
          rintro e w4 ⟨rfl, hb4⟩
          obtain ⟨hc4, hf4, hb4⟩ := keepCF0 hcu hfz hb4
          have HB4 := Lib.hid hb4
          clear hb4
          go_wp2_with fail
          go_at_call 37
          refine (eNeg g S x.1 _ (HF.out.below (below_step HBL.out HB4.out HBL.out.size))).mono ?_
          rw [S.el_of]
          rintro e w5 ⟨rfl, hb5⟩
          obtain ⟨hc5, hf5, hb5⟩ := keepCF0 hcu hfz (below_step HB4.out hb5 HB4.out.size)
          have HS2 := Lib.hid ((HOW.out.below hb5 HOW.out.lt).set j (-x).1)
          have HB6 := Lib.hid (below_step HBL.out hb5 HBL.out.size)
          have HB7 := Lib.hid (below_step HBL2.out hb5 HBL2.out.size)
          clear hb5 hcu hfz hc4 hf4
          go_wp2
          go_roundg (k - (j + 1))
          case measure => have := HGQ.out; omega
          case rel =>
            refine ⟨j + 1, by omega, rfl, by go_num, ?_, HB6.out.setCell (by have := HBO.out; have := HSZ.out; simp; omega) _, HB7.out.setCell (by have := HBO.out; simp; omega) _⟩
            have := HS2.out
            rw [set_fill _ j k _ HLR.out hlt] at this
            rw [HNX.out]; exact this
      · obtain rfl : j = k := by omega
        have HRD : Hid (Rd wr (some ⟨bo, 0, none⟩) (S.recu l s j)) := by
          have := HOW.out
          rw [Nat.sub_self, List.replicate_zero, List.append_nil] at this
          exact this.rdAll (by rw [HLR.out]; omega)
        have HFN := Lib.hid (HG0.out _ wr j _ j rfl hk HPP.out rfl HRD.out HBL.out)
        clear hown
        go_wp2
        go_ret2
        exact HFN.out

end Go.Proofs.Ytdbhhfhfjlpepaa
