/- The law's helpers: made, none. -/
import Derived.Test.YtjbfccconjjofaaMathG
import Derived.Test.YtjbfccconjjofaaRefMul
namespace Go.Proofs.Ytjbfccconjjofaa
open Go.RowKit
attribute [local go_sem ↓] Go.wp_at_zero Go.wp_at_succ

/-- What the helper 'made' returns. -/
def MadeRet (P M : Int) (mod : List Int) (w : World) (e : Ending) (w' : World) : Prop :=
  ((∃ v, e = .returned (.tuple #[v, .bool false]) ∧ ¬ RefGood P M mod) ∨
   ∃ (g m q : Nat) (x : Int) (ex lg : List Int), e = .returned (.tuple #[.pointer (some ⟨g, 0, none⟩), .bool true]) ∧ M = m ∧ w.heap.size ≤ g ∧ GFat w' g P m mod q ex lg ∧ Made P m mod q x ex lg) ∧ Below w.heap.size w w'
theorem MadeRet.no {P M : Int} {mod : List Int} {w w' : World} {v : Value} (h : ¬ RefGood P M mod) (hb : Below w.heap.size w w') : MadeRet P M mod w (.returned (.tuple #[v, .bool false])) w' := ⟨.inl ⟨v, rfl, h⟩, hb⟩

set_option maxHeartbeats 1000000 in
theorem made_calls (P M : Int) (A : Option Addr) (c : Nat) (mod : List Int) (w : World) (hr : Rd w A mod) (hnil : A = none → c = 0) :
    Calls Try.prog 18 #[.agg #[.int .i64 P, .int .i64 M, .slice A mod.length c]] w fun e w' => MadeRet P M mod w e w' := by
  have hu := Try.underlying24
  have HR := Lib.hid hr
  have HNIL := Lib.hid hnil
  clear hr hnil
  obtain ⟨n, HN⟩ : ∃ n, Hid (n = mod.length) := ⟨_, rfl⟩
  rw [← HN.out]
  have HNEW : Hid (∀ W1 : World, Rd W1 A mod → Calls Try.prog 48 #[.agg #[.int .i64 P, .int .i64 M, .slice A n c]] W1 fun e w' => NewRet P M mod W1 e w') := by
    intro W1 h1; rw [HN.out]; exact new_calls P M A c mod W1 h1 HNIL.out
  have HCHK : Hid (∀ W1 : World, Rd W1 A mod → Calls Try.prog 47 #[.agg #[.int .i64 P, .int .i64 M, .slice A n c]] W1 fun e w' => CheckRet (RefGood P M mod) W1 e w') := by
    intro W1 h1; rw [HN.out]; exact refCheck_calls P M A c mod W1 h1 HNIL.out
  go_enter Try.func18, Try.ntmps18
  go_wp2_with fail
  go_at_call 48
  refine (HNEW.out _ (HR.out.alloc _)).mono ?_
  rintro e w1 ⟨hret, hb1⟩
  obtain ⟨x0, x1, x2, hs1⟩ := box3 hb1
  rcases hret with ⟨rfl, hno⟩ | ⟨g, m, q, x, ex, lg, rfl, rfl, hg1, hg2, hg3⟩
  · have HNO := Lib.hid hno
    clear hno
    go_wp2
    go_ret2
    exact MadeRet.no (fun h => HNO.out ((good_iff P M mod).1 h)) (below_box hb1)
  · have HG2 := Lib.hid hg2
    have HG3 := Lib.hid hg3
    have HG1 := Lib.hid hg1
    clear hg1 hg2 hg3
    go_wp2_with fail
    go_at_call 47
    refine (HCHK.out _ ((HR.out.alloc _).below hb1 (Nat.le_refl _))).mono ?_
    rintro e w2 ⟨k, rfl, hk, hb2⟩
    have hb3 := below_step hb1 hb2 hb1.size
    rcases hk with ⟨rfl, hk⟩ | ⟨rfl, hk⟩
    · go_wp2
      go_ret2
      exact ⟨.inr ⟨g, m, q, x, ex, lg, rfl, rfl, by have := HG1.out; simp at this; omega, HG2.out.below hb2, HG3.out⟩, below_box hb3⟩
    · exact absurd ((good_iff P m mod).2 HG3.out.good) hk

set_option maxHeartbeats 1000000 in
theorem none_calls (P M : Int) (A : Option Addr) (c : Nat) (mod : List Int) (w : World) (hr : Rd w A mod) (hnil : A = none → c = 0) (hno : ¬ RefGood P M mod) :
    Calls Try.prog 19 #[.agg #[.int .i64 P, .int .i64 M, .slice A mod.length c]] w fun e w' => e = .returned (.bool true) ∧ Below w.heap.size w w' := by
  have hu := Try.underlying24
  have HR := Lib.hid hr
  have HNIL := Lib.hid hnil
  have HNO := Lib.hid hno
  clear hr hnil hno
  obtain ⟨n, HN⟩ : ∃ n, Hid (n = mod.length) := ⟨_, rfl⟩
  rw [← HN.out]
  have HNEW : Hid (∀ W1 : World, Rd W1 A mod → Calls Try.prog 48 #[.agg #[.int .i64 P, .int .i64 M, .slice A n c]] W1 fun e w' => NewRet P M mod W1 e w') := by
    intro W1 h1; rw [HN.out]; exact new_calls P M A c mod W1 h1 HNIL.out
  have HCHK : Hid (∀ W1 : World, Rd W1 A mod → Calls Try.prog 47 #[.agg #[.int .i64 P, .int .i64 M, .slice A n c]] W1 fun e w' => CheckRet (RefGood P M mod) W1 e w') := by
    intro W1 h1; rw [HN.out]; exact refCheck_calls P M A c mod W1 h1 HNIL.out
  go_enter Try.func19, Try.ntmps19
  go_wp2_with fail
  go_at_call 48
  refine (HNEW.out _ (HR.out.alloc _)).mono ?_
  rintro e w1 ⟨hret, hb1⟩
  obtain ⟨x0, x1, x2, hs1⟩ := box3 hb1
  rcases hret with ⟨rfl, hno⟩ | ⟨g, m, q, x, ex, lg, rfl, rfl, hg1, hg2, hg3⟩
  · clear hno
    go_wp2_with fail
    go_at_call 47
    refine (HCHK.out _ ((HR.out.alloc _).below hb1 (Nat.le_refl _))).mono ?_
    rintro e w2 ⟨k, rfl, hk, hb2⟩
    have hb3 := below_step hb1 hb2 hb1.size
    rcases hk with ⟨rfl, hk⟩ | ⟨rfl, hk⟩
    · exact absurd hk HNO.out
    · go_wp2
      go_ret
      exact ⟨rfl, below_box hb3⟩
  · exact absurd ((good_iff P m mod).2 hg3.good) HNO.out

end Go.Proofs.Ytjbfccconjjofaa
