/- Sums, inner products and multiples of lists. -/
import Derived.Test.YtjbfccconjjofaaLawKit
import Derived.Test.YtjbfccconjjofaaMathH
namespace Go.Proofs.Ytjbfccconjjofaa
open Go.RowKit
attribute [local go_sem ↓] Go.wp_at_zero Go.wp_at_succ

/-- The sum of the first k. -/
def sumN (P : Int) (M q : Nat) (l : List Int) : Nat → Int
  | 0 => 0
  | k + 1 => addS P M (inn q (sumN P M q l k)) (inn q (l.getD k 0))
/-- The inner product of the first k. -/
def dotN (P : Int) (M q : Nat) (ex lg : List Int) (l o : List Int) : Nat → Int
  | 0 => 0
  | k + 1 => addS P M (inn q (dotN P M q ex lg l o k)) (inn q (gmul q ex lg (inn q (l.getD k 0)) (inn q (o.getD k 0))))

set_option maxHeartbeats 1000000 in
theorem gfSum_calls (g : Nat) (P : Int) (M : Nat) (mod : List Int) (q : Nat) (ex lg : List Int) (p : Int) (A : Option Addr) (c : Nat) (l : List Int) (w : World) (hg : GFat w g P M mod q ex lg) (hm : Made P M mod q p ex lg) (hr : Rd w A l) (hl : l.length ≤ 1000) :
    Calls Try.prog 53 #[.pointer (some ⟨g, 0, none⟩), .slice A l.length c] w fun e w' => e = .returned (.int .i64 (sumN P M q l l.length)) ∧ Below w.heap.size w w' := by
  have HG := Lib.hid hg
  have HM := Lib.hid hm
  have HR := Lib.hid hr
  clear hg hm hr
  obtain ⟨n, HN⟩ : ∃ n, Hid (n = l.length) := ⟨_, rfl⟩
  rw [← HN.out] at hl ⊢
  obtain ⟨f, HF⟩ : ∃ f : Nat → Int, Hid (f = sumN P M q l) := ⟨_, rfl⟩
  have HF0 : Hid (f 0 = 0) := by unfold Hid; rw [HF.out]; rfl
  have CA : Hid (∀ (W1 : World) (k : Nat) (u : Int), Below w.heap.size w W1 → u = l.getD k 0 → Calls Try.prog 22 #[.pointer (some ⟨g, 0, none⟩), .int .i64 (f k), .int .i64 u] W1 fun e w' => e = .returned (.int .i64 (f (k + 1))) ∧ Below W1.heap.size W1 w') := by
    intro W1 k u h1 h2; rw [HF.out, h2]; exact gfAdd_calls g P M mod q ex lg p _ _ W1 (HG.out.below h1) HM.out
  rw [← HF.out]
  clear HF
  go_enter Try.func53, Try.ntmps53
  go_wp2
  go_loopg [5, 10] n (fun g2 s i wr => ∃ k : Nat, k ≤ n ∧ g2 = n - k ∧ s = .int .i64 (f k) ∧ i = .int .i64 k ∧ Below w.heap.size w wr)
  case atStart => exact ⟨0, Nat.zero_le _, rfl, by rw [HF0.out], rfl, Below.refl _ _⟩
  case round =>
    obtain ⟨k, hk, HGQ, rfl, rfl, hb⟩ := hrel
    replace HGQ := Lib.hid HGQ
    by_cases hlt : k < n
    · obtain ⟨ad, rfl, hc⟩ := (HR.out.below hb (Nat.le_refl _)).get k (by rw [← HN.out]; exact hlt)
      obtain ⟨u, HU⟩ : ∃ z, Hid (z = l.getD k 0) := ⟨_, rfl⟩
      rw [← HU.out] at hc
      have HBL := Lib.hid hb
      clear hb
      go_wp2_with fail
      go_at_call 22
      refine (CA.out _ k u HBL.out HU.out).mono ?_
      rintro e w3 ⟨rfl, hb3⟩
      have HB3 := Lib.hid (below_step HBL.out hb3 HBL.out.size)
      clear hb3 hc
      go_wp2
      go_roundg (n - (k + 1))
      case measure => have := HGQ.out; omega
      case rel => exact ⟨k + 1, by omega, rfl, rfl, by go_num, HB3.out⟩
    · obtain rfl : k = n := by omega
      have HBL := Lib.hid hb
      clear hb
      go_wp2
      go_ret
      exact ⟨rfl, HBL.out⟩

theorem keepTw0 {W w' : World} {a b : Addr} {u v : Value} (h1 : W.cell? a = some u) (h2 : W.cell? b = some v) (hb : Below W.heap.size W w') : w'.cell? a = some u ∧ w'.cell? b = some v ∧ Below W.heap.size W w' :=
  ⟨(hb.cell (World.block_lt_of_cell? W _ h1)).trans h1, (hb.cell (World.block_lt_of_cell? W _ h2)).trans h2, hb⟩
theorem keepTw {W w1 w' : World} {a b : Addr} {u v : Value} {p q : Prop} (h1 : W.cell? a = some u) (h2 : W.cell? b = some v) (hb : Below w1.heap.size w1 w') (h : p ∧ q ∧ Below W.heap.size W w1) : w'.cell? a = some u ∧ w'.cell? b = some v ∧ Below W.heap.size W w' :=
  keepTw0 h1 h2 (below_step h.2.2 hb h.2.2.size)
set_option maxHeartbeats 2000000 in
theorem gfDot_calls (g : Nat) (P : Int) (M : Nat) (mod : List Int) (q : Nat) (ex lg : List Int) (p : Int) (A : Option Addr) (c : Nat) (l : List Int) (B : Option Addr) (d : Nat) (o : List Int) (w : World) (hg : GFat w g P M mod q ex lg) (hm : Made P M mod q p ex lg) (hr : Rd w A l) (hr' : Rd w B o) (hl : l.length ≤ 1000) (hl' : o.length ≤ 1000) :
    Calls Try.prog 54 #[.pointer (some ⟨g, 0, none⟩), .slice A l.length c, .slice B o.length d] w fun e w' => e = .returned (.int .i64 (dotN P M q ex lg l o (min l.length o.length))) ∧ Below w.heap.size w w' := by
  have HG := Lib.hid hg
  have HM := Lib.hid hm
  have HR := Lib.hid hr
  have HR' := Lib.hid hr'
  clear hg hm hr hr'
  obtain ⟨n, HN⟩ : ∃ n, Hid (n = l.length) := ⟨_, rfl⟩
  obtain ⟨n', HN'⟩ : ∃ n, Hid (n = o.length) := ⟨_, rfl⟩
  rw [← HN.out] at hl ⊢
  rw [← HN'.out] at hl' ⊢
  obtain ⟨mn, HMN⟩ : ∃ k, Hid (k = min n n') := ⟨_, rfl⟩
  have hmn : mn ≤ n := by rw [HMN.out]; exact Nat.min_le_left _ _
  have hmn' : mn ≤ n' := by rw [HMN.out]; exact Nat.min_le_right _ _
  obtain ⟨f, HF⟩ : ∃ f : Nat → Int, Hid (f = dotN P M q ex lg l o) := ⟨_, rfl⟩
  obtain ⟨t, HT⟩ : ∃ t : Nat → Int, Hid (∀ k, t k = gmul q ex lg (inn q (l.getD k 0)) (inn q (o.getD k 0))) := ⟨_, fun _ => rfl⟩
  have HF0 : Hid (f 0 = 0) := by unfold Hid; rw [HF.out]; rfl
  have CM : Hid (∀ (W1 : World) (k : Nat) (u v : Int), Below w.heap.size w W1 → u = l.getD k 0 → v = o.getD k 0 → Calls Try.prog 20 #[.pointer (some ⟨g, 0, none⟩), .int .i64 u, .int .i64 v] W1 fun e w' => e = .returned (.int .i64 (t k)) ∧ Below W1.heap.size W1 w') := by
    intro W1 k u v h1 h2 h3; rw [h2, h3, HT.out]; exact gfMul_calls g P M mod q ex lg p _ _ W1 (HG.out.below h1) HM.out
  have CA : Hid (∀ (W1 : World) (k : Nat), Below w.heap.size w W1 → Calls Try.prog 22 #[.pointer (some ⟨g, 0, none⟩), .int .i64 (f k), .int .i64 (t k)] W1 fun e w' => e = .returned (.int .i64 (f (k + 1))) ∧ Below W1.heap.size W1 w') := by
    intro W1 k h1; rw [HF.out, HT.out]; exact gfAdd_calls g P M mod q ex lg p _ _ W1 (HG.out.below h1) HM.out
  rw [← HF.out, ← HMN.out]
  clear HF HT
  have hcase : (n ≤ n' ∧ n ≤ mn) ∨ (n' < n ∧ n' ≤ mn) := by rw [HMN.out]; omega
  rcases hcase with ⟨hle, hle2⟩ | ⟨hle, hle2⟩
  all_goals
    go_enter Try.func54, Try.ntmps54
    go_wp2
    go_loopg [7, 14] mn (fun g2 s i wr => ∃ k : Nat, k ≤ mn ∧ g2 = mn - k ∧ s = .int .i64 (f k) ∧ i = .int .i64 k ∧ Below w.heap.size w wr)
    case atStart => exact ⟨0, Nat.zero_le _, rfl, by rw [HF0.out], rfl, Below.refl _ _⟩
    case round =>
      obtain ⟨k, hk, HGQ, rfl, rfl, hb⟩ := hrel
      replace HGQ := Lib.hid HGQ
      by_cases hlt : k < mn
      · have hr1 := HR.out.below hb (Nat.le_refl _)
        have hr2 := HR'.out.below hb (Nat.le_refl _)
        obtain ⟨ad, rfl, hc⟩ := hr1.get k (by rw [← HN.out]; omega)
        obtain ⟨ad', rfl, hc'⟩ := hr2.get k (by rw [← HN'.out]; omega)
        obtain ⟨u, HU⟩ : ∃ z, Hid (z = l.getD k 0) := ⟨_, rfl⟩
        obtain ⟨v, HV⟩ : ∃ z, Hid (z = o.getD k 0) := ⟨_, rfl⟩
        rw [← HU.out] at hc
        rw [← HV.out] at hc'
        have i0 : (k : Int) < (n : Int) := by omega
        have i1 : (k : Int) < (n' : Int) := by omega
        have i2 : (0 : Int) ≤ (k : Int) := by omega
        have HBL := Lib.hid hb
        have hwk := World.block_lt_of_cell? _ _ hc
        have hwk' := World.block_lt_of_cell? _ _ hc'
        clear hb hr1 hr2
        go_wp2
        go_region_held3 (fun wx => wx.cell? (ad.add k) = some (.int .i64 u) ∧ wx.cell? (ad'.add k) = some (.int .i64 v) ∧ Below wr.heap.size wr wx)
          (first | (exact keepTw hc hc' (by assumption) (by assumption)) | (exact keepTw0 hc hc' (Below.refl _ _).drew))
          (first | (go_at_call 20; refine (CM.out _ k u v (below_step HBL.out (And.right (And.right (by assumption))) HBL.out.size) HU.out HV.out).mono ?_; rintro e w3 ⟨rfl, hb3⟩) | (go_at_call 22; refine (CA.out _ k (below_step HBL.out (And.right (And.right (by assumption))) HBL.out.size)).mono ?_; rintro e w4 ⟨rfl, hb4⟩))
        rename_i hS
        have HB3 := Lib.hid (below_step HBL.out hS.2.2 HBL.out.size)
        clear hc hc' i0 i1 i2 hwk hwk' hS
        go_wp2
        go_roundg (mn - (k + 1))
        case measure => have := HGQ.out; omega
        case rel => exact ⟨k + 1, by omega, rfl, rfl, by go_num, HB3.out⟩
      · obtain rfl : k = mn := by omega
        have HBL := Lib.hid hb
        clear hb
        go_wp2
        go_ret
        exact ⟨rfl, HBL.out⟩

end Go.Proofs.Ytjbfccconjjofaa
