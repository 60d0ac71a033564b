/- The helpers of chapter 37's laws: same, made, short. -/
import Derived.Test.YtdbhhfhfjlpepaaShort
import Derived.Test.YtdbhhfhfjlpepaaRefMul
import Derived.Test.YtdbhhfhfjlpepaaMathG
namespace Go.Proofs.Ytdbhhfhfjlpepaa
open Go.RowKit
attribute [local go_sem ↓] Go.wp_at_zero Go.wp_at_succ

set_option maxHeartbeats 1000000 in
theorem lawsame_calls (A : Option Addr) (c : Nat) (l : List Int) (B : Option Addr) (d : Nat) (r : List Int) (w : World) (hr : Rd w A l) (hr' : Rd w B r) (he : l = r) (hl : l.length ≤ 1000) :
    Calls Try.prog 18 #[.slice A l.length c, .slice B l.length d] w fun e w' => e = .returned (.bool true) ∧ Below w.heap.size w w' := by
  subst he
  have HR := Lib.hid hr
  have HR' := Lib.hid hr'
  clear hr hr'
  obtain ⟨n, HN⟩ : ∃ n, Hid (n = l.length) := ⟨_, rfl⟩
  rw [← HN.out] at hl ⊢
  go_enter Try.func18, Try.ntmps18
  go_wp2
  go_loopg [13] n (fun g2 i wr => ∃ k : Nat, k ≤ n ∧ g2 = n - k ∧ i = .int .i64 k ∧ Below w.heap.size w wr)
  case atStart => exact ⟨0, Nat.zero_le _, rfl, rfl, Below.refl _ _⟩
  case round =>
    obtain ⟨k, hk, HGQ, rfl, hb⟩ := hrel
    replace HGQ := Lib.hid HGQ
    by_cases hlt : k < n
    · obtain ⟨ad, rfl, hc⟩ := (HR.out.below hb (Nat.le_refl _)).get k (by rw [← HN.out]; exact hlt)
      obtain ⟨ad', rfl, hc'⟩ := (HR'.out.below hb (Nat.le_refl _)).get k (by rw [← HN.out]; exact hlt)
      obtain ⟨u, HU⟩ : ∃ z, Hid (z = l.getD k 0) := ⟨_, rfl⟩
      rw [← HU.out] at hc hc'
      have HBL := Lib.hid hb
      have i0 : (k : Int) < (n : Int) := by omega
      have i1 : (0 : Int) ≤ (k : Int) := by omega
      clear hb
      go_wp2
      go_quiet (fail)
      go_wp2
      go_roundg (n - (k + 1))
      case measure => have := HGQ.out; omega
      case rel => exact ⟨k + 1, by omega, rfl, by go_num, by first | exact HBL.out | exact below_drewN HBL.out _⟩
    · obtain rfl : k = n := by omega
      have HBL := Lib.hid hb
      clear hb
      go_wp2
      go_ret
      exact ⟨rfl, HBL.out⟩


/-- What the helper 'made' returns: nothing, or a field of the description. -/
def MadeSRet (P M : Int) (mod : List Int) (w : World) (e : Ending) (w' : World) : Prop :=
  ((e = .returned (.pointer none) ∧ ¬ RefGood P M mod) ∨ ∃ (g : Nat) (S : FS), S.P = P ∧ M = S.M ∧ S.mod = mod ∧ e = .returned (.pointer (some ⟨g, 0, none⟩)) ∧ FldAt w' g S) ∧ Below w.heap.size w w'
theorem MadeSRet.no {P M : Int} {mod : List Int} {w w' : World} (h : ¬ RefGood P M mod) (hb : Below w.heap.size w w') : MadeSRet P M mod w (.returned (.pointer none)) w' := ⟨.inl ⟨rfl, h⟩, hb⟩

set_option maxHeartbeats 1000000 in
theorem madeS_calls (P M : Int) (A : Option Addr) (c : Nat) (mod : List Int) (w : World) (hr : Rd w A mod) (hnil : A = none → c = 0) :
    Calls Try.prog 14 #[.agg #[.int .i64 P, .int .i64 M, .slice A mod.length c]] w fun e w' => MadeSRet P M mod w e w' := by
  have hu := Try.underlying24
  have HR := Lib.hid hr
  have HNIL := Lib.hid hnil
  clear hr hnil
  obtain ⟨n, HN⟩ : ∃ n, Hid (n = mod.length) := ⟨_, rfl⟩
  rw [← HN.out]
  have HNEW : Hid (∀ W1 : World, Rd W1 A mod → Calls Try.prog 33 #[.agg #[.int .i64 P, .int .i64 M, .slice A n c]] W1 fun e w' => NewRet P M mod W1 e w') := by
    intro W1 h1; rw [HN.out]; exact new_calls P M A c mod W1 h1 HNIL.out
  have HCHK : Hid (∀ W1 : World, Rd W1 A mod → Calls Try.prog 32 #[.agg #[.int .i64 P, .int .i64 M, .slice A n c]] W1 fun e w' => CheckRet (RefGood P M mod) W1 e w') := by
    intro W1 h1; rw [HN.out]; exact refCheck_calls P M A c mod W1 h1 HNIL.out
  go_enter Try.func14, Try.ntmps14
  go_wp2_with fail
  go_at_call 32
  refine (HCHK.out _ (HR.out.alloc _)).mono ?_
  rintro e w1 ⟨k, rfl, hk, hb1⟩
  obtain ⟨x0, x1, x2, hs1⟩ := box3 hb1
  rcases hk with ⟨rfl, hk⟩ | ⟨rfl, hk⟩
  · go_wp2_with fail
    go_at_call 33
    refine (HNEW.out _ ((HR.out.alloc _).below hb1 (Nat.le_refl _))).mono ?_
    rintro e w2 ⟨hret, hb2⟩
    have hb3 := below_step hb1 hb2 hb1.size
    rcases hret with ⟨rfl, hno⟩ | ⟨g, m, q, x, ex, lg, rfl, rfl, hg1, hg2, hg3⟩
    · have HNO := Lib.hid hno
      clear hno
      go_wp2
      go_ret
      exact MadeSRet.no (fun h => HNO.out ((good_iff P M mod).1 h)) (below_box hb3)
    · have HG2 := Lib.hid hg2
      have HG3 := Lib.hid hg3
      clear hg1 hg2 hg3
      go_wp2
      go_ret
      exact ⟨.inr ⟨g, ⟨P, m, mod, HG3.out.shp⟩, rfl, rfl, rfl, rfl, q, ex, lg, x, HG2.out, HG3.out⟩, below_box hb3⟩
  · have HNO := Lib.hid hk
    clear hk
    go_wp2
    go_ret
    exact MadeSRet.no HNO.out (below_box hb1)

set_option maxHeartbeats 1000000 in
theorem shortTwo_calls (b : Nat) (A B : Option Addr) (n c m d : Nat) (w : World) (h0 : w.cell? ⟨b, 0, none⟩ = some (.slice A n c)) (h1 : w.cell? ⟨b, 1, none⟩ = some (.slice B m d)) :
    Calls Try.prog 15 #[.slice (some ⟨b, 0, none⟩) 2 2] w fun e w' => BoolIs (n ≤ 24 ∧ m ≤ 24) w e w' := by
  go_enter Try.func15, Try.ntmps15
  go_wp2
  go_loopg [7] 2 (fun g2 i wr => ∃ k : Nat, k ≤ 2 ∧ g2 = 2 - k ∧ i = .int .i64 k ∧ (1 ≤ k → n ≤ 24) ∧ (2 ≤ k → m ≤ 24) ∧ Below w.heap.size w wr)
  case atStart => exact ⟨0, Nat.zero_le _, rfl, rfl, fun h => by omega, fun h => by omega, Below.refl _ _⟩
  case round =>
    obtain ⟨k, hk, HGQ, rfl, k1, k2, hb⟩ := hrel
    replace HGQ := Lib.hid HGQ
    have z0 := (hb.cell (World.block_lt_of_cell? w _ h0)).trans h0
    have z1 := (hb.cell (World.block_lt_of_cell? w _ h1)).trans h1
    have HBL := Lib.hid hb
    have HK1 := Lib.hid k1
    have HK2 := Lib.hid k2
    clear hb k1 k2 h0 h1
    have hcases : k = 0 ∨ k = 1 ∨ k = 2 := by omega
    rcases hcases with rfl | rfl | rfl
    · by_cases hn : n ≤ 24
      · have hn' : ¬ 24 < n := by omega
        go_wp2
        go_roundg (2 - 1)
        case measure => have := HGQ.out; omega
        case rel => exact ⟨1, by omega, rfl, rfl, fun _ => hn, fun h => by omega, HBL.out⟩
      · go_wp2
        go_ret
        exact BoolIs.no (fun h => hn h.1) HBL.out
    · by_cases hn : m ≤ 24
      · have hn' : ¬ 24 < m := by omega
        go_wp2
        go_roundg (2 - 2)
        case measure => have := HGQ.out; omega
        case rel => exact ⟨2, by omega, rfl, rfl, fun _ => HK1.out (by omega), fun _ => hn, HBL.out⟩
      · go_wp2
        go_ret
        exact BoolIs.no (fun h => hn h.2) HBL.out
    · go_wp2
      go_ret
      exact BoolIs.yes ⟨HK1.out (by omega), HK2.out (by omega)⟩ HBL.out

set_option maxHeartbeats 1000000 in
theorem shortOne_calls (b : Nat) (A : Option Addr) (n c : Nat) (w : World) (h0 : w.cell? ⟨b, 0, none⟩ = some (.slice A n c)) :
    Calls Try.prog 15 #[.slice (some ⟨b, 0, none⟩) 1 1] w fun e w' => BoolIs (n ≤ 24) w e w' := by
  go_enter Try.func15, Try.ntmps15
  go_wp2
  go_loopg [7] 1 (fun g2 i wr => ∃ k : Nat, k ≤ 1 ∧ g2 = 1 - k ∧ i = .int .i64 k ∧ (1 ≤ k → n ≤ 24) ∧ Below w.heap.size w wr)
  case atStart => exact ⟨0, Nat.zero_le _, rfl, rfl, fun h => by omega, Below.refl _ _⟩
  case round =>
    obtain ⟨k, hk, HGQ, rfl, k1, hb⟩ := hrel
    replace HGQ := Lib.hid HGQ
    have z0 := (hb.cell (World.block_lt_of_cell? w _ h0)).trans h0
    have HBL := Lib.hid hb
    have HK1 := Lib.hid k1
    clear hb k1 h0
    have hcases : k = 0 ∨ k = 1 := by omega
    rcases hcases with rfl | rfl
    · by_cases hn : n ≤ 24
      · have hn' : ¬ 24 < n := by omega
        go_wp2
        go_roundg (1 - 1)
        case measure => have := HGQ.out; omega
        case rel => exact ⟨1, by omega, rfl, rfl, fun _ => hn, HBL.out⟩
      · go_wp2
        go_ret
        exact BoolIs.no hn HBL.out
    · go_wp2
      go_ret
      exact BoolIs.yes (HK1.out (by omega)) HBL.out

end Go.Proofs.Ytdbhhfhfjlpepaa
