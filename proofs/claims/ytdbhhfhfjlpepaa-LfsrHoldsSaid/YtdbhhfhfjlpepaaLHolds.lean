/- Holds accepts just the registers that generate the sequence: the walk of the law. -/
import Derived.Test.YtdbhhfhfjlpepaaBmK
namespace Go.Proofs.Ytdbhhfhfjlpepaa
open Go.RowKit
attribute [local go_sem ↓] Go.wp_at_zero Go.wp_at_succ

theorem belowH {W w1 : World} {p q r s u : Prop} (h : p ∧ q ∧ r ∧ s ∧ u ∧ Below W.heap.size W w1) : Below W.heap.size W w1 := h.2.2.2.2.2
theorem keepH {w2 W : World} {c0 c1 c2 c3 c4 : World → Prop} (hk : ∀ W, Below w2.heap.size w2 W → c0 W ∧ c1 W ∧ c2 W ∧ Below w2.heap.size w2 W) (hy : ∀ W, Below w2.heap.size w2 W → c3 W ∧ c4 W) (h : Below w2.heap.size w2 W) :
    c0 W ∧ c1 W ∧ c2 W ∧ c3 W ∧ c4 W ∧ Below w2.heap.size w2 W := ⟨(hk W h).1, (hk W h).2.1, (hk W h).2.2.1, (hy W h).1, (hy W h).2, h⟩
set_option maxHeartbeats 2000000 in
theorem lawHolds (P M : Int) (A : Option Addr) (c : Nat) (mod : List Int) (L : Option Addr) (lc : Nat) (l : List Int) (O : Option Addr) (oc : Nat) (o : List Int) (N : Int) (w : World) (hr : Rd w A mod) (hnil : A = none → c = 0) (hrl : Rd w L l) (hro : Rd w O o) :
    Calls Try.prog 12 #[.agg #[.int .i64 P, .int .i64 M, .slice A mod.length c], .agg #[.slice L l.length lc, .slice O o.length oc], .int .i64 N] w fun e w' => e = .returned (.bool true) ∧ Below w.heap.size w w' := by
  have hu := Try.underlying24
  have HR := Lib.hid hr
  have HNIL := Lib.hid hnil
  have HRL := Lib.hid hrl
  have hln := hrl.1
  have HRO := Lib.hid hro
  have hon := hro.1
  clear hr hnil hrl hro
  obtain ⟨nl, HNL⟩ : ∃ n, Hid (n = l.length) := ⟨_, rfl⟩
  rw [← HNL.out] at hln ⊢
  obtain ⟨no, HNO⟩ : ∃ n, Hid (n = o.length) := ⟨_, rfl⟩
  rw [← HNO.out] at hon ⊢
  obtain ⟨n, HN⟩ : ∃ n, Hid (n = mod.length) := ⟨_, rfl⟩
  rw [← HN.out]
  have HMADE : Hid (∀ W1 : World, Rd W1 A mod → Calls Try.prog 14 #[.agg #[.int .i64 P, .int .i64 M, .slice A n c]] W1 fun e w' => MadeSRet P M mod W1 e w') := by
    intro W1 h1; rw [HN.out]; exact madeS_calls P M A c mod W1 h1 HNIL.out
  go_enter Try.func12, Try.ntmps12
  go_wp2_with fail
  go_at_call 13
  refine (aliveS_calls _).mono ?_
  rintro e w1 ⟨rfl, hb1⟩
  have hb0 := below_box hb1
  obtain ⟨k0, k1, k2, _⟩ := box3 hb0
  have hy := box2 hb1
  rw [World.size_alloc] at hy
  obtain ⟨y0, y1⟩ := hy
  have kb := below_box hb0
  have HR1 := Lib.hid ((HR.out.alloc _).below hb0 (Nat.le_refl _))
  clear hb1 hb0
  go_wp2_with fail
  go_at_call 14
  refine (HMADE.out _ HR1.out).mono ?_
  rintro e w2 ⟨hret, hb2⟩
  have HR3 := Lib.hid (HR1.out.below hb2 (Nat.le_refl _))
  replace y0 := (hb2.cell (World.block_lt_of_cell? w1 _ y0)).trans y0
  replace y1 := (hb2.cell (World.block_lt_of_cell? w1 _ y1)).trans y1
  (have hk := keepS k0 k1 k2 hb2; replace kb := below_step kb hb2 kb.size; clear k0 k1 k2 hb2; obtain ⟨k0, k1, k2, _⟩ := hk)
  have HB := Lib.hid kb
  have HL2 := Lib.hid (HRL.out.below kb (Nat.le_refl _))
  have HO2 := Lib.hid (HRO.out.below kb (Nat.le_refl _))
  clear kb
  rcases hret with ⟨rfl, hno⟩ | ⟨g, S, rfl, rfl, rfl, rfl, hf⟩
  · clear hno
    go_wp2
    go_ret
    exact ⟨rfl, HB.out⟩
  · have HF := Lib.hid hf
    clear hf
    have HK := Lib.hid (fun (W : World) (h : Below w2.heap.size w2 W) => keepS k0 k1 k2 h)
    have HY := Lib.hid (fun (W : World) (h : Below w2.heap.size w2 W) => And.intro ((h.cell (World.block_lt_of_cell? w2 _ y0)).trans y0) ((h.cell (World.block_lt_of_cell? w2 _ y1)).trans y1))
    go_wp2_with fail
    obtain ⟨w3, hw3⟩ : ∃ w3, w3 = w2.alloc (.cells #[.slice L nl lc, .slice O no oc] 22) := ⟨_, rfl⟩
    have z0 : w3.cell? ⟨w2.heap.size, 0, none⟩ = some (.slice L nl lc) := by rw [hw3]; exact (World.cell?_alloc_new (w := w2) #[.slice L nl lc, .slice O no oc] 22 0).trans rfl
    have z1 : w3.cell? ⟨w2.heap.size, 1, none⟩ = some (.slice O no oc) := by rw [hw3]; exact (World.cell?_alloc_new (w := w2) #[.slice L nl lc, .slice O no oc] 22 1).trans rfl
    have HB3 : Hid (Below w2.heap.size w2 w3) := by rw [hw3]; exact (Below.refl _ _).alloc (Nat.le_refl _) _
    rw [← hw3]
    clear hw3 k0 k1 k2 y0 y1
    go_at_call 15
    refine (shortTwo_calls w2.heap.size L O nl lc no oc w3 z0 z1).mono ?_
    rintro e w4 ⟨b, rfl, hbi, hb4⟩
    replace hb4 := below_step HB3.out hb4 HB3.out.size
    clear z0 z1
    obtain ⟨k0, k1, k2, _⟩ := HK.out _ hb4
    obtain ⟨y0, y1⟩ := HY.out _ hb4
    have HB4 := Lib.hid hb4
    clear hb4
    cases b
    · go_wp2
      go_ret
      exact ⟨by first | rfl | (simp; done) | (simp; omega), below_step HB.out HB4.out HB.out.size⟩
    · have hsh := hbi.1 rfl
      clear hbi
      obtain ⟨v, HV⟩ : ∃ v : Bool, Hid (v = true ↔ S.IsGen l N o) := by
        by_cases h : S.IsGen l N o
        · exact ⟨true, ⟨fun _ => h, fun _ => rfl⟩⟩
        · exact ⟨false, ⟨fun h => (by cases h), fun h2 => absurd h2 h⟩⟩
      have HV2 : Hid (∀ b : Bool, (b = true ↔ S.IsGen l N o) → b = v) := fun b h => by
        have := h.trans HV.out.symm
        cases b <;> cases v <;> simp_all
      have CH1 : Hid (∀ W, Below w2.heap.size w2 W → Calls Try.prog 31 #[.pointer (some ⟨g, 0, none⟩), .slice L nl lc, .int .i64 N, .slice O no oc] W fun e w' => e = .returned (.bool v) ∧ Below W.heap.size W w') := by
        intro W h
        have := lfHolds g S L lc l N O oc o W (HF.out.below h) (HL2.out.below h (Nat.le_refl _)) (HO2.out.below h (Nat.le_refl _)) (by rw [← HNL.out]; omega) (by rw [← HNO.out]; omega)
        rw [← HNL.out, ← HNO.out] at this
        refine this.mono ?_
        rintro e w' ⟨b, rfl, hb, hbl⟩
        rw [HV2.out b hb]
        exact ⟨rfl, hbl⟩
      have CH2 : Hid (∀ W, Below w2.heap.size w2 W → Calls Try.prog 20 #[.agg #[.int .i64 S.P, .int .i64 S.M, .slice A n c], .slice L nl lc, .int .i64 N, .slice O no oc] W fun e w' => e = .returned (.bool v) ∧ Below W.heap.size W w') := by
        intro W h
        have := rHolds S A c L lc l N O oc o W (HR3.out.below h (Nat.le_refl _)) (HL2.out.below h (Nat.le_refl _)) (HO2.out.below h (Nat.le_refl _)) (by rw [← HNL.out]; omega) (by rw [← HNO.out]; omega) n HN.out
        rw [← HNL.out, ← HNO.out] at this
        refine this.mono ?_
        rintro e w' ⟨b, rfl, hb, hbl⟩
        rw [HV2.out b hb]
        exact ⟨rfl, hbl⟩
      obtain ⟨P, HPP⟩ : ∃ P, Hid (P = S.P) := ⟨_, rfl⟩
      obtain ⟨M, HMM⟩ : ∃ M, Hid (M = S.M) := ⟨_, rfl⟩
      rw [← HPP.out, ← HMM.out] at CH2 HK
      rw [← HPP.out] at k0
      rw [← HMM.out] at k1
      rw [← HPP.out, ← HMM.out]
      clear HV HV2 HF hln hon
      have hsz4 := HB4.out.size
      go_wp2
      go_region_held3 (fun wx => wx.cell? ⟨w.heap.size, 0, none⟩ = some (.int .i64 P) ∧ wx.cell? ⟨w.heap.size, 1, none⟩ = some (.int .i64 M) ∧ wx.cell? ⟨w.heap.size, 2, none⟩ = some (.slice A n c) ∧ wx.cell? ⟨w.heap.size + 1, 0, none⟩ = some (.slice L nl lc) ∧ wx.cell? ⟨w.heap.size + 1, 1, none⟩ = some (.slice O no oc) ∧ Below w2.heap.size w2 wx)
        (first | (exact keepH HK.out HY.out HB4.out.drew) | (exact keepH HK.out HY.out (below_step (belowH (by assumption)) (by assumption) (belowH (by assumption)).size)))
        (first | (go_at_call 31; refine (CH1.out _ (belowH (by assumption))).mono ?_; rintro e w5 ⟨rfl, hb5⟩) | (go_at_call 20; refine (CH2.out _ (belowH (by assumption))).mono ?_; rintro e w6 ⟨rfl, hb6⟩))
      all_goals
        rename_i hS
        have HBZ := Lib.hid (belowH hS)
        clear hS
        go_wp2
        go_ret
        exact ⟨by first | rfl | (simp; done), below_step HB.out HBZ.out HB.out.size⟩

end Go.Proofs.Ytdbhhfhfjlpepaa
