/- A field's elements: the function that Elements hands back, as an iterator. -/
import Derived.RangeFuncNested
import Derived.RangeFuncBound
import Derived.RangeFuncCalls
import Derived.RangeFuncLeaves
import Derived.Shelf.Abstract
import Derived.Shelf.RegionOpen
import Derived.OwnWalkIn
import Derived.TacticsInMore
import Derived.LoopNIn
import Derived.LoopIn
import Derived.Test.YtjbfccconjjofaaGFa
namespace Go.Proofs.Ytjbfccconjjofaa
open Go.RowKit Go.Shelf
attribute [local go_sem] Oper.semAt_some

/-- The first k numbers. -/
def up (k : Nat) : List Int := (List.range k).map fun i : Nat => (i : Int)
theorem up_succ (k : Nat) : up (k + 1) = up k ++ [(k : Int)] := by simp [up, List.range_succ]
theorem up_length (k : Nat) : (up k).length = k := by simp [up]

set_option maxRecDepth 100000 in
set_option maxHeartbeats 2000000 in
theorem elements1_stops (F : Fence) (n : Nat) (h59 : F.fn 59) (hro : F.round = none) (hn : 1 ≤ n) (b g q : Nat) (hq : q ≤ 256) (w : World)
    (hb : w.cell? ⟨b, 0, none⟩ = some (.pointer (some ⟨g, 0, none⟩))) (hg : w.cell? ⟨g, 3, none⟩ = some (.int .i64 q)) :
    SeqStopsK F n Try.prog 59 #[.pointer (some ⟨b, 0, none⟩)] (fun x : Int => #[.int .i64 x]) (fun _ _ => True) (fun xs => xs = up q) (fun pre => ∃ k, pre = up k) q w := fun l J Jx W hW hJ hJx hY h0 => by
  have hb' : W.cell? ⟨b, 0, none⟩ = some (.pointer (some ⟨g, 0, none⟩)) := (hW.cell (World.block_lt_of_cell? w _ hb)).trans hb
  have hg' : W.cell? ⟨g, 3, none⟩ = some (.int .i64 q) := (hW.cell (World.block_lt_of_cell? w _ hg)).trans hg
  refine callsIn_of_wp Try.func59 rfl h59 ?_ hro
  simp only [Try.ntmps59, List.size_toArray, List.length_cons, List.length_nil, Nat.reduceAdd, Nat.reduceSub, Array.replicate_succ, Array.replicate_zero, List.push_toArray, List.append_toArray, List.nil_append, List.cons_append]
  gi_wp2
  gi_loopw [8] (fun p wr => ∃ k : Nat, k ≤ q ∧ p = .int .i64 k ∧ J (up k) wr) (fun p _ => q - (intOf p).toNat)
  case atStart => exact ⟨0, Nat.zero_le _, rfl, h0⟩
  case round =>
    obtain ⟨k, hk, rfl, hJk⟩ := hrel
    by_cases hlt : k < q
    · obtain ⟨fn, tmps, assign, body, hy, hR⟩ := hY (up k) (k : Int) wr hJk (by rw [up_length]; exact hlt)
      try dsimp only at hy
      have hki : (k : Int) < (q : Int) := by omega
      have hkb : k < 256 := by omega
      gi_wp2
      refine hR.mono ?_
      rintro e W3 (⟨rfl, hJ3, _⟩ | ⟨rfl, hJx3⟩)
      · gi_wp2
        go_roundw
        case rel => exact ⟨k + 1, by omega, by go_num, by rw [up_succ]; exact hJ3⟩
        case measure => simp [intOf]; omega
      · gi_wp2
        refine bodyPost_ret (results_none rfl _ _ _) rfl ?_
        exact ⟨⟨_, rfl⟩, .inr ⟨up k ++ [(k : Int)], ⟨k + 1, (up_succ k).symm⟩, hJx3⟩⟩
    · obtain rfl : k = q := by omega
      gi_wp2
      go_end0
      exact ⟨⟨_, rfl⟩, .inl ⟨_, rfl, hJk⟩⟩

set_option maxHeartbeats 400000 in
theorem gfElements_calls (g : Nat) (w : World) :
    Calls Try.prog 24 #[.pointer (some ⟨g, 0, none⟩)] w fun e w' => e = .returned (.func (.func 59) #[] #[.pointer (some ⟨w.heap.size, 0, none⟩)]) ∧
      w'.cell? ⟨w.heap.size, 0, none⟩ = some (.pointer (some ⟨g, 0, none⟩)) ∧ Below w.heap.size w w' := by
  go_enter Try.func24, Try.ntmps24
  go_wp2
  go_ret
  exact ⟨rfl, by simp, (Below.refl _ w).alloc (Nat.le_refl _) _⟩

end Go.Proofs.Ytjbfccconjjofaa
