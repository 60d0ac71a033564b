/- The reference's Complexity and Unique. -/
import Derived.Test.YtdbhhfhfjlpepaaSys
import Derived.Test.YtdbhhfhfjlpepaaLfF
namespace Go.Proofs.Ytdbhhfhfjlpepaa
open Go.RowKit
attribute [local go_sem ↓] Go.wp_at_zero Go.wp_at_succ

/-- Rows of the system, without or with the right side. -/
def Sy (S : FS) (wB : World) (m l : Nat) (f : Nat → Nat → El S) (b : Bool) (W : World) (A : Option Addr) : Prop := RowsAt S wB W A m (if b then l + 1 else l) f
theorem keepB4 {W w1 w' : World} {g : Nat} {a b c : Value} {p q r : Prop} (h0 : W.cell? ⟨g, 0, none⟩ = some a) (h1 : W.cell? ⟨g, 1, none⟩ = some b) (h2 : W.cell? ⟨g, 2, none⟩ = some c) (hb : Below w1.heap.size w1 w') (h : p ∧ q ∧ r ∧ Below W.heap.size W w1) :
    w'.cell? ⟨g, 0, none⟩ = some a ∧ w'.cell? ⟨g, 1, none⟩ = some b ∧ w'.cell? ⟨g, 2, none⟩ = some c ∧ Below W.heap.size W w' := by
  have hb2 := below_step h.2.2.2 hb h.2.2.2.size
  exact ⟨(hb2.cell (World.block_lt_of_cell? W _ h0)).trans h0, (hb2.cell (World.block_lt_of_cell? W _ h1)).trans h1, (hb2.cell (World.block_lt_of_cell? W _ h2)).trans h2, hb2⟩
theorem keepB0 {W w' : World} {g : Nat} {a b c : Value} (h0 : W.cell? ⟨g, 0, none⟩ = some a) (h1 : W.cell? ⟨g, 1, none⟩ = some b) (h2 : W.cell? ⟨g, 2, none⟩ = some c) (hb : Below W.heap.size W w') :
    w'.cell? ⟨g, 0, none⟩ = some a ∧ w'.cell? ⟨g, 1, none⟩ = some b ∧ w'.cell? ⟨g, 2, none⟩ = some c ∧ Below W.heap.size W w' :=
  ⟨(hb.cell (World.block_lt_of_cell? W _ h0)).trans h0, (hb.cell (World.block_lt_of_cell? W _ h1)).trans h1, (hb.cell (World.block_lt_of_cell? W _ h2)).trans h2, hb⟩
theorem belowB4 {W w1 : World} {p q r : Prop} (h : p ∧ q ∧ r ∧ Below W.heap.size W w1) : Below W.heap.size W w1 := h.2.2.2

set_option maxHeartbeats 4000000 in
theorem complexity_calls (S : FS) (hI : S.Inverts) (A : Option Addr) (c0 n : Nat) (C : Option Addr) (d : Nat) (s : List Int) (w : World) (hm : Rd w A S.mod) (hn : n = S.mod.length) (hs : Rd w C s) (hs99 : s.length ≤ 99) :
    Calls Try.prog 22 #[.agg #[.int .i64 S.P, .int .i64 S.M, .slice A n c0], .slice C s.length d] w fun e w' => e = .returned (.int .i64 (S.bm s).l) ∧ Below w.heap.size w w' := by
  have hu := Try.underlying24
  have HS := Lib.hid hs
  have HMD := Lib.hid hm
  obtain ⟨L, HL⟩ : ∃ L, Hid (L = (S.bm s).l) := ⟨_, rfl⟩
  have hL : L ≤ s.length := by rw [HL.out]; obtain ⟨K, ol, hok⟩ := BM.run_ok hI s s.length; exact hok.ln
  have HAG : Hid (∀ l, (RK.run (s.length - l) (El.eqs (S.sq s) l) (l + 1)).r = (RK.run (s.length - l) (El.eqs (S.sq s) l) l).r ↔ L ≤ l) := fun l => by rw [HL.out]; exact ranks_agree hI s l
  have CS : Hid (∀ W (l : Nat) (b : Bool), Below w.heap.size w W → l ≤ s.length → Calls Try.prog 44 #[.agg #[.int .i64 S.P, .int .i64 S.M, .slice A n c0], .slice C s.length d, .int .i64 l, .bool b] W fun e w' => SysRet S W (s.length - l) (if b then l + 1 else l) (El.eqs (S.sq s) l) e w') := fun W l b h hl => system_calls S A n c0 C d s l b W (HS.out.below h (Nat.le_refl _)) (by omega) hl
  have CR : Hid (∀ (w0 W : World) (B : Option Addr) (m d cols : Nat) (M : Nat → Nat → El S), Below w.heap.size w w0 → Below w0.heap.size w0 W → RowsAt S w0 W B m cols M → m ≤ 100 → cols ≤ 100 → Calls Try.prog 43 #[.agg #[.int .i64 S.P, .int .i64 S.M, .slice A n c0], .slice B m d, .int .i64 cols] W fun e w' => e = .returned (.int .i64 (RK.run m M cols).r) ∧ Below w0.heap.size w0 w') := fun w0 W B m d cols M h h1 h2 h3 h4 => rank_calls S hI A c0 n w0 W (HMD.out.below h (Nat.le_refl _)) hn h1 B m d cols M h2 h3 h4
  obtain ⟨nl, HNL⟩ : ∃ n, Hid (n = s.length) := ⟨_, rfl⟩
  obtain ⟨sq, HSQ⟩ : ∃ f, Hid (f = S.sq s) := ⟨_, rfl⟩
  obtain ⟨P, HP⟩ : ∃ P, Hid (P = S.P) := ⟨_, rfl⟩
  obtain ⟨M, HMM⟩ : ∃ M, Hid (M = S.M) := ⟨_, rfl⟩
  rw [← HNL.out, ← HSQ.out] at HAG CS
  rw [← HP.out, ← HMM.out] at CS CR
  rw [← HNL.out] at hL hs99
  rw [← HP.out, ← HMM.out, ← HNL.out, ← HL.out]
  clear hs hm hn HP HMM HL HNL HSQ
  obtain ⟨wB, HWB⟩ : ∃ wB, Hid (wB = w.alloc (.cells #[.int .i64 P, .int .i64 M, .slice A n c0] 24)) := ⟨_, rfl⟩
  have HX : Hid (Box wB w.heap.size (.int .i64 P) (.int .i64 M) (.slice A n c0)) := by rw [HWB.out]; exact ⟨by simp, by simp, by simp⟩
  have HBW : Hid (Below w.heap.size w wB) := by rw [HWB.out]; exact (Below.refl _ _).alloc (Nat.le_refl _) _
  obtain ⟨x0, x1, x2⟩ := HX.out
  go_enter Try.func22, Try.ntmps22
  go_wp2
  rw [← HWB.out]
  clear HWB
  go_loopg [5] (L + 1) (fun g2 t wr => ∃ l : Nat, l ≤ L ∧ g2 = L + 1 - l ∧ t = .int .i64 l ∧ Below wB.heap.size wB wr)
  case atStart => exact ⟨0, Nat.zero_le _, rfl, rfl, Below.refl _ _⟩
  case round =>
    obtain ⟨l, hl, HGQ, rfl, hb⟩ := hrel
    replace HGQ := Lib.hid HGQ
    have HBB := Lib.hid hb
    clear hb
    have hln : l ≤ nl := by omega
    obtain ⟨m, HM⟩ : ∃ m, Hid (m = nl - l) := ⟨_, rfl⟩
    obtain ⟨f, HF⟩ : ∃ f, Hid (f = El.eqs sq l) := ⟨_, rfl⟩
    obtain ⟨rk, HRK⟩ : ∃ rk : Bool → Int, Hid (∀ b, rk b = ((RK.run m f (if b then l + 1 else l)).r : Int)) := ⟨_, fun _ => rfl⟩
    have CSY : Hid (∀ W (b : Bool), Below wB.heap.size wB W → Calls Try.prog 44 #[.agg #[.int .i64 P, .int .i64 M, .slice A n c0], .slice C nl d, .int .i64 l, .bool b] W fun e w' => ∃ A c, e = .returned (.slice A m c) ∧ Sy S wB m l f b w' A ∧ Below W.heap.size W w') := by
      intro W b h
      rw [HM.out, HF.out]
      refine (CS.out W l b (below_step HBW.out h HBW.out.size) hln).mono ?_
      rintro e w' ⟨A5, c5, h1, h2, h3⟩
      exact ⟨A5, c5, h1, h2.old h.size, h3⟩
    have CRK : Hid (∀ (W : World) (B : Option Addr) (d : Nat) (x : Int) (b : Bool), Below wB.heap.size wB W → Sy S wB m l f b W B → x = ((if b then l + 1 else l : Nat) : Int) → Calls Try.prog 43 #[.agg #[.int .i64 P, .int .i64 M, .slice A n c0], .slice B m d, .int .i64 x] W fun e w' => e = .returned (.int .i64 (rk b)) ∧ Below wB.heap.size wB w') := by
      intro W B d x b h1 h2 h3
      subst h3
      rw [HRK.out]
      exact CR.out wB W B m d _ f HBW.out h1 h2 (by rw [HM.out]; omega) (by split <;> omega)
    have HEQ : Hid (rk true = rk false ↔ L ≤ l) := by
      unfold Hid
      rw [← HAG.out, HRK.out, HRK.out, HM.out, HF.out]
      simp only [Bool.false_eq_true, if_true, if_false]
      exact Int.ofNat_inj
    have hw1 : IntKind.i64.wrap ((l : Int) + 1) = (l : Int) + 1 := IntWalk.i64_in _ (by omega)
    by_cases hlt : l < L
    · have h0 : rk true ≠ rk false := fun e => by have := HEQ.out.1 e; omega
      have h1 : (rk false == rk true) = false := by simp; exact fun e => h0 e.symm
      have h2 : (rk true == rk false) = false := by simp; exact h0
      clear HEQ HRK
      go_wp2
      go_region_held3 (fun wz => wz.cell? ⟨w.heap.size, 0, none⟩ = some (.int .i64 P) ∧ wz.cell? ⟨w.heap.size, 1, none⟩ = some (.int .i64 M) ∧ wz.cell? ⟨w.heap.size, 2, none⟩ = some (.slice A n c0) ∧ Below wB.heap.size wB wz) (first | (exact keepB4 x0 x1 x2 (by assumption) (by assumption)) | (exact keepB0 x0 x1 x2 (by assumption)) | (exact keepB0 x0 x1 x2 HBB.out.drew)) (first | (go_at_call 44; refine (CSY.out _ _ (belowB4 (by assumption))).mono ?_; rintro e w3 ⟨A3, c3, rfl, hsy, hb3⟩) | (go_at_call 43; refine (CRK.out _ _ _ _ _ (belowB4 (by assumption)) (by assumption) (by first | rfl | (simp; done) | (simp; omega))).mono ?_; rintro e w4 ⟨rfl, hb4⟩))
      rename_i hS
      have HB4 := Lib.hid (belowB4 hS)
      clear hS
      go_wp2
      go_roundg (L + 1 - (l + 1))
      case measure => have := HGQ.out; omega
      case rel => exact ⟨l + 1, by omega, rfl, by go_num, HB4.out⟩
    · obtain rfl : l = L := by omega
      have h0 : rk true = rk false := HEQ.out.2 (Nat.le_refl _)
      have h1 : (rk false == rk true) = true := by simp [h0]
      clear HEQ HRK h0
      go_wp2
      go_region_held3 (fun wz => wz.cell? ⟨w.heap.size, 0, none⟩ = some (.int .i64 P) ∧ wz.cell? ⟨w.heap.size, 1, none⟩ = some (.int .i64 M) ∧ wz.cell? ⟨w.heap.size, 2, none⟩ = some (.slice A n c0) ∧ Below wB.heap.size wB wz) (first | (exact keepB4 x0 x1 x2 (by assumption) (by assumption)) | (exact keepB0 x0 x1 x2 (by assumption)) | (exact keepB0 x0 x1 x2 HBB.out.drew)) (first | (go_at_call 44; refine (CSY.out _ _ (belowB4 (by assumption))).mono ?_; rintro e w3 ⟨A3, c3, rfl, hsy, hb3⟩) | (go_at_call 43; refine (CRK.out _ _ _ _ _ (belowB4 (by assumption)) (by assumption) (by first | rfl | (simp; done) | (simp; omega))).mono ?_; rintro e w4 ⟨rfl, hb4⟩))
      rename_i hS
      have HB4 := Lib.hid (below_step HBW.out (belowB4 hS) HBW.out.size)
      clear hS
      go_wp2
      go_ret
      exact ⟨rfl, HB4.out⟩

set_option maxHeartbeats 4000000 in
theorem runique_calls (S : FS) (hI : S.Inverts) (A : Option Addr) (c0 n : Nat) (C : Option Addr) (d : Nat) (s : List Int) (w : World) (hm : Rd w A S.mod) (hn : n = S.mod.length) (hs : Rd w C s) (hs99 : s.length ≤ 99) :
    Calls Try.prog 30 #[.agg #[.int .i64 S.P, .int .i64 S.M, .slice A n c0], .slice C s.length d] w fun e w' => e = .returned (.bool (decide (2 * (S.bm s).l ≤ s.length))) ∧ Below w.heap.size w w' := by
  have hu := Try.underlying24
  have HS := Lib.hid hs
  have HMD := Lib.hid hm
  have HUN := Lib.hid (rank_unique hI s)
  obtain ⟨L, HL⟩ : ∃ L, Hid (L = (S.bm s).l) := ⟨_, rfl⟩
  have hL : L ≤ s.length := by rw [HL.out]; obtain ⟨K, ol, hok⟩ := BM.run_ok hI s s.length; exact hok.ln
  have CX : Hid (∀ W, Below w.heap.size w W → Calls Try.prog 22 #[.agg #[.int .i64 S.P, .int .i64 S.M, .slice A n c0], .slice C s.length d] W fun e w' => e = .returned (.int .i64 L) ∧ Below W.heap.size W w') := fun W h => by
    rw [HL.out]; exact complexity_calls S hI A c0 n C d s W (HMD.out.below h (Nat.le_refl _)) hn (HS.out.below h (Nat.le_refl _)) hs99
  have CS : Hid (∀ W, Below w.heap.size w W → Calls Try.prog 44 #[.agg #[.int .i64 S.P, .int .i64 S.M, .slice A n c0], .slice C s.length d, .int .i64 L, .bool false] W fun e w' => SysRet S W (s.length - L) L (El.eqs (S.sq s) L) e w') := fun W h => system_calls S A n c0 C d s L false W (HS.out.below h (Nat.le_refl _)) (by omega) hL
  have CR : Hid (∀ (w0 W : World) (B : Option Addr) (m d cols : Nat) (M : Nat → Nat → El S), Below w.heap.size w w0 → Below w0.heap.size w0 W → RowsAt S w0 W B m cols M → m ≤ 100 → cols ≤ 100 → Calls Try.prog 43 #[.agg #[.int .i64 S.P, .int .i64 S.M, .slice A n c0], .slice B m d, .int .i64 cols] W fun e w' => e = .returned (.int .i64 (RK.run m M cols).r) ∧ Below w0.heap.size w0 w') := fun w0 W B m d cols M h h1 h2 h3 h4 => rank_calls S hI A c0 n w0 W (HMD.out.below h (Nat.le_refl _)) hn h1 B m d cols M h2 h3 h4
  replace HUN : Hid ((RK.run (s.length - L) (El.eqs (S.sq s) L) L).r = L ↔ 2 * L ≤ s.length) := by rw [HL.out]; exact HUN.out
  obtain ⟨nl, HNL⟩ : ∃ n, Hid (n = s.length) := ⟨_, rfl⟩
  rw [← HL.out]
  rw [← HNL.out] at CX CS HUN hL hs99 ⊢
  obtain ⟨f, HF⟩ : ∃ f, Hid (f = El.eqs (S.sq s) L) := ⟨_, rfl⟩
  rw [← HF.out] at CS HUN
  obtain ⟨P, HP⟩ : ∃ P, Hid (P = S.P) := ⟨_, rfl⟩
  obtain ⟨M, HMM⟩ : ∃ M, Hid (M = S.M) := ⟨_, rfl⟩
  rw [← HP.out, ← HMM.out] at CX CS CR ⊢
  clear hs hm hn HP HMM HL HNL HF
  obtain ⟨wB, HWB⟩ : ∃ wB, Hid (wB = w.alloc (.cells #[.int .i64 P, .int .i64 M, .slice A n c0] 24)) := ⟨_, rfl⟩
  have HX : Hid (Box wB w.heap.size (.int .i64 P) (.int .i64 M) (.slice A n c0)) := by rw [HWB.out]; exact ⟨by simp, by simp, by simp⟩
  have HBW : Hid (Below w.heap.size w wB) := by rw [HWB.out]; exact (Below.refl _ _).alloc (Nat.le_refl _) _
  obtain ⟨x0, x1, x2⟩ := HX.out
  obtain ⟨m, HM⟩ : ∃ m, Hid (m = nl - L) := ⟨_, rfl⟩
  obtain ⟨rk, HRK⟩ : ∃ rk : Int, Hid (rk = ((RK.run m f L).r : Int)) := ⟨_, rfl⟩
  have CSY : Hid (∀ W, Below wB.heap.size wB W → Calls Try.prog 44 #[.agg #[.int .i64 P, .int .i64 M, .slice A n c0], .slice C nl d, .int .i64 L, .bool false] W fun e w' => ∃ A c, e = .returned (.slice A m c) ∧ Sy S wB m L f false w' A ∧ Below W.heap.size W w') := by
    intro W h
    rw [HM.out]
    refine (CS.out W (below_step HBW.out h HBW.out.size)).mono ?_
    rintro e w' ⟨A5, c5, h1, h2, h3⟩
    exact ⟨A5, c5, h1, h2.old h.size, h3⟩
  have CRK : Hid (∀ (W : World) (B : Option Addr) (d : Nat), Below wB.heap.size wB W → Sy S wB m L f false W B → Calls Try.prog 43 #[.agg #[.int .i64 P, .int .i64 M, .slice A n c0], .slice B m d, .int .i64 L] W fun e w' => e = .returned (.int .i64 rk) ∧ Below wB.heap.size wB w') := by
    intro W B d h1 h2
    rw [HRK.out]
    exact CR.out wB W B m d L f HBW.out h1 h2 (by rw [HM.out]; omega) (by omega)
  have HEQ : Hid ((rk == (L : Int)) = decide (2 * L ≤ nl)) := by
    unfold Hid
    rw [Bool.eq_iff_iff, beq_iff_eq, decide_eq_true_iff, ← HUN.out, HRK.out, HM.out]
    exact Int.ofNat_inj
  obtain ⟨bb, HBB⟩ : ∃ b, Hid (b = decide (2 * L ≤ nl)) := ⟨_, rfl⟩
  rw [← HBB.out] at HEQ ⊢
  have CX2 : Hid (Calls Try.prog 22 #[.agg #[.int .i64 P, .int .i64 M, .slice A n c0], .slice C nl d] wB fun e w' => e = .returned (.int .i64 L) ∧ Below wB.heap.size wB w') := CX.out wB HBW.out
  clear HRK HBB HUN
  go_enter Try.func30, Try.ntmps30
  go_wp2_with fail
  rw [← HWB.out]
  go_at_call 22
  refine CX2.out.mono ?_
  rintro e w2 ⟨rfl, hb2⟩
  have HB2 := Lib.hid hb2
  clear hb2
  have h1 := HEQ.out
  go_wp2
  go_region_held3 (fun wz => wz.cell? ⟨w.heap.size, 0, none⟩ = some (.int .i64 P) ∧ wz.cell? ⟨w.heap.size, 1, none⟩ = some (.int .i64 M) ∧ wz.cell? ⟨w.heap.size, 2, none⟩ = some (.slice A n c0) ∧ Below wB.heap.size wB wz) (first | (exact keepB4 x0 x1 x2 (by assumption) (by assumption)) | (exact keepB0 x0 x1 x2 (by assumption)) | (exact keepB0 x0 x1 x2 HB2.out.drew)) (first | (go_at_call 44; refine (CSY.out _ (belowB4 (by assumption))).mono ?_; rintro e w3 ⟨A3, c3, rfl, hsy, hb3⟩) | (go_at_call 43; refine (CRK.out _ _ _ (belowB4 (by assumption)) (by assumption)).mono ?_; rintro e w4 ⟨rfl, hb4⟩))
  rename_i hS
  have HB4 := Lib.hid (below_step HBW.out (belowB4 hS) HBW.out.size)
  clear hS
  go_wp2
  go_ret
  exact ⟨rfl, HB4.out⟩

end Go.Proofs.Ytdbhhfhfjlpepaa
