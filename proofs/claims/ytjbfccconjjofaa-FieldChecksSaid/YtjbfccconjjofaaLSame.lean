/- Same compares any two descriptions entry by entry: the walk of the law. -/
import Derived.Test.YtjbfccconjjofaaSame
namespace Go.Proofs.Ytjbfccconjjofaa
open Go.RowKit
attribute [local go_sem ↓] Go.wp_at_zero Go.wp_at_succ

theorem boolOf {b b0 : Bool} {p : Prop} (h : b = true ↔ p) (h0 : b0 = true ↔ p) : b = b0 := by cases b <;> cases b0 <;> simp_all
theorem boolEx (p : Prop) : ∃ b0 : Bool, Hid (b0 = true ↔ p) := by
  by_cases h : p
  · exact ⟨true, by simp [Hid, h]⟩
  · exact ⟨false, by simp [Hid, h]⟩
theorem keepTwo {W w1 w' : World} {g : Nat} {p : Prop} (hg : g + 1 < W.heap.size) (hb : Below w1.heap.size w1 w') (h : p ∧ Below W.heap.size W w1) : (∀ o, w'.cell? ⟨g, o, none⟩ = W.cell? ⟨g, o, none⟩ ∧ w'.cell? ⟨g + 1, o, none⟩ = W.cell? ⟨g + 1, o, none⟩) ∧ Below W.heap.size W w' := by
  have h2 := below_step h.2 hb h.2.size
  exact ⟨fun o => ⟨h2.cell (p := ⟨g, o, none⟩) (by simp; omega), h2.cell (p := ⟨g + 1, o, none⟩) hg⟩, h2⟩
theorem keepTwo0 {W w' : World} {g : Nat} (hg : g + 1 < W.heap.size) (h2 : Below W.heap.size W w') : (∀ o, w'.cell? ⟨g, o, none⟩ = W.cell? ⟨g, o, none⟩ ∧ w'.cell? ⟨g + 1, o, none⟩ = W.cell? ⟨g + 1, o, none⟩) ∧ Below W.heap.size W w' :=
  ⟨fun o => ⟨h2.cell (p := ⟨g, o, none⟩) (by simp; omega), h2.cell (p := ⟨g + 1, o, none⟩) hg⟩, h2⟩

/-- Which of the two descriptions a value is. -/
def Which (P M : Int) (A : Option Addr) (n c : Nat) (P' M' : Int) (B : Option Addr) (n' d : Nat) (i : Bool) (P1 M1 : Int) (A1 : Option Addr) (n1 c1 : Nat) : Prop :=
  match i with
  | true => P1 = P ∧ M1 = M ∧ A1 = A ∧ n1 = n ∧ c1 = c
  | false => P1 = P' ∧ M1 = M' ∧ A1 = B ∧ n1 = n' ∧ c1 = d
set_option maxHeartbeats 4000000 in
theorem lawSame (P M : Int) (A : Option Addr) (c : Nat) (mod : List Int) (P' M' : Int) (B : Option Addr) (d : Nat) (mod' : List Int) (w : World) (hr : Rd w A mod) (hnil : A = none → c = 0) (hr' : Rd w B mod') (hnil' : B = none → d = 0) :
    Calls Try.prog 6 #[.agg #[.int .i64 P, .int .i64 M, .slice A mod.length c], .agg #[.int .i64 P', .int .i64 M', .slice B mod'.length d]] w fun e w' => e = .returned (.bool true) ∧ Below w.heap.size w w' := by
  have hu := Try.underlying24
  have HR := Lib.hid hr
  have HR' := Lib.hid hr'
  clear hr hr' hnil hnil'
  obtain ⟨n, HN⟩ : ∃ n, Hid (n = mod.length) := ⟨_, rfl⟩
  obtain ⟨n', HN'⟩ : ∃ n, Hid (n = mod'.length) := ⟨_, rfl⟩
  obtain ⟨b0, HB0⟩ : ∃ b0 : Bool, Hid (b0 = true ↔ (P = P' ∧ M = M' ∧ mod = mod')) := boolEx _
  have C1 : Hid (∀ W1 : World, Rd W1 A mod → Rd W1 B mod' → Calls Try.prog 26 #[.agg #[.int .i64 P, .int .i64 M, .slice A n c], .agg #[.int .i64 P', .int .i64 M', .slice B n' d]] W1 fun e w' => e = .returned (.bool b0) ∧ Below W1.heap.size W1 w') := by
    intro W1 h1 h2; rw [HN.out, HN'.out]
    exact (same_calls P M A c mod P' M' B d mod' W1 h1 h2).mono fun e w' ⟨b, he, hb, hl⟩ => ⟨by rw [he, boolOf hb HB0.out], hl⟩
  have C2 : Hid (∀ W1 : World, Rd W1 A mod → Rd W1 B mod' → Calls Try.prog 27 #[.agg #[.int .i64 P, .int .i64 M, .slice A n c], .agg #[.int .i64 P', .int .i64 M', .slice B n' d]] W1 fun e w' => e = .returned (.bool b0) ∧ Below W1.heap.size W1 w') := by
    intro W1 h1 h2; rw [HN.out, HN'.out]
    exact (refSame_calls P M A c mod P' M' B d mod' W1 h1 h2).mono fun e w' ⟨b, he, hb, hl⟩ => ⟨by rw [he, boolOf hb HB0.out], hl⟩
  have C3 : Hid (∀ W1 : World, Rd W1 A mod → Calls Try.prog 26 #[.agg #[.int .i64 P, .int .i64 M, .slice A n c], .agg #[.int .i64 P, .int .i64 M, .slice A n c]] W1 fun e w' => e = .returned (.bool true) ∧ Below W1.heap.size W1 w') := by
    intro W1 h1; rw [HN.out]
    exact (same_calls P M A c mod P M A c mod W1 h1 h1).mono fun e w' ⟨b, he, hb, hl⟩ => ⟨by rw [he, hb.2 ⟨rfl, rfl, rfl⟩], hl⟩
  have C4 : Hid (∀ W1 : World, Rd W1 A mod → Rd W1 B mod' → Calls Try.prog 26 #[.agg #[.int .i64 P', .int .i64 M', .slice B n' d], .agg #[.int .i64 P, .int .i64 M, .slice A n c]] W1 fun e w' => e = .returned (.bool b0) ∧ Below W1.heap.size W1 w') := by
    intro W1 h1 h2; rw [HN.out, HN'.out]
    exact (same_calls P' M' B d mod' P M A c mod W1 h2 h1).mono fun e w' ⟨b, he, hb, hl⟩ => ⟨by rw [he, boolOf (hb.trans ⟨fun h => ⟨h.1.symm, h.2.1.symm, h.2.2.symm⟩, fun h => ⟨h.1.symm, h.2.1.symm, h.2.2.symm⟩⟩) HB0.out], hl⟩
  clear HB0
  rw [← HN.out, ← HN'.out]
  go_enter Try.func6, Try.ntmps6
  go_wp2_with fail
  go_at_call 17
  refine (alive_calls _).mono ?_
  rintro e w1 ⟨rfl, hb1⟩
  have hb0 := below_box hb1
  obtain ⟨x0, x1, x2, _⟩ := box3 hb0
  have hy := box3 hb1
  rw [World.size_alloc] at hy
  obtain ⟨y0, y1, y2, hsz⟩ := hy
  have hsz : w.heap.size + 1 < w1.heap.size := by omega
  have HR1 := Lib.hid ((HR.out.alloc _).below hb0 (Nat.le_refl _))
  have HR1' := Lib.hid ((HR'.out.alloc _).below hb0 (Nat.le_refl _))
  have HB := Lib.hid (below_box hb0)
  clear hb1 hb0
  have C5 : Hid (∀ W1 : World, Rd W1 A mod → Rd W1 B mod' → Calls Try.prog 26 #[.agg #[.int .i64 P', .int .i64 M', .slice B n' d], .agg #[.int .i64 P', .int .i64 M', .slice B n' d]] W1 fun e w' => e = .returned (.bool true) ∧ Below W1.heap.size W1 w') := by
    intro W1 _ h1; rw [HN'.out]
    exact (same_calls P' M' B d mod' P' M' B d mod' W1 h1 h1).mono fun e w' ⟨b, he, hb, hl⟩ => ⟨by rw [he, hb.2 ⟨rfl, rfl, rfl⟩], hl⟩
  have HC1 : Hid (∀ (W1 : World) (P1 M1 : Int) (A1 : Option Addr) (n1 c1 : Nat) (P2 M2 : Int) (A2 : Option Addr) (n2 c2 : Nat) (i j : Bool), Below w1.heap.size w1 W1 → Which P M A n c P' M' B n' d i P1 M1 A1 n1 c1 → Which P M A n c P' M' B n' d j P2 M2 A2 n2 c2 →
      Calls Try.prog 26 #[.agg #[.int .i64 P1, .int .i64 M1, .slice A1 n1 c1], .agg #[.int .i64 P2, .int .i64 M2, .slice A2 n2 c2]] W1 fun e w' => e = .returned (.bool (i == j || b0)) ∧ Below W1.heap.size W1 w') := by
    intro W1 P1 M1 A1 n1 c1 P2 M2 A2 n2 c2 i j h h1 h2
    have r1 := HR1.out.below h (Nat.le_refl _)
    have r2 := HR1'.out.below h (Nat.le_refl _)
    cases i <;> cases j <;> obtain ⟨rfl, rfl, rfl, rfl, rfl⟩ := h1 <;> obtain ⟨rfl, rfl, rfl, rfl, rfl⟩ := h2
    · exact C5.out W1 r1 r2
    · exact C4.out W1 r1 r2
    · exact C1.out W1 r1 r2
    · exact C3.out W1 r1
  have HC2 := Lib.hid (fun W1 (h : Below w1.heap.size w1 W1) => C2.out W1 (HR1.out.below h (Nat.le_refl _)) (HR1'.out.below h (Nat.le_refl _)))
  have W1 : Which P M A n c P' M' B n' d true P M A n c := ⟨rfl, rfl, rfl, rfl, rfl⟩
  have W2 : Which P M A n c P' M' B n' d false P' M' B n' d := ⟨rfl, rfl, rfl, rfl, rfl⟩
  clear C1 C2 C3 C4 C5
  cases b0
  all_goals
    go_wp2
    go_region_held3 (fun wx => (∀ o, wx.cell? ⟨w.heap.size, o, none⟩ = w1.cell? ⟨w.heap.size, o, none⟩ ∧ wx.cell? ⟨w.heap.size + 1, o, none⟩ = w1.cell? ⟨w.heap.size + 1, o, none⟩) ∧ Below w1.heap.size w1 wx)
      (first | (exact keepTwo hsz (by assumption) (by assumption)) | (exact keepTwo0 hsz (Below.refl _ _).drew))
      (first | (go_at_call 26; refine (HC1.out _ _ _ _ _ _ _ _ _ _ _ _ _ (And.right (by assumption)) (by assumption) (by assumption)).mono ?_; rintro e w3 ⟨rfl, hb4⟩) | (go_at_call 27; refine (HC2.out _ (And.right (by assumption))).mono ?_; rintro e w3 ⟨rfl, hb4⟩))
    go_wp2
    go_ret
    rename_i hS
    exact ⟨by simp, below_step HB.out (hS.2) HB.out.size⟩

end Go.Proofs.Ytjbfccconjjofaa
