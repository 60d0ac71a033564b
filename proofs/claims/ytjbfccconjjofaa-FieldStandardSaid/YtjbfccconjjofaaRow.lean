/- The rows of the laws: the arguments opened, and read again. -/
import Derived.Test.YtjbfccconjjofaaRows
import Derived.Test.YtjbfccconjjofaaAliveB
import Derived.ProofKit
import Derived.OpenShut
import Derived.SizedLaws
import Derived.Lib.SmallJoins
namespace Go.Proofs.Ytjbfccconjjofaa
open Go.ChangeShapes Go.WideShapes Go.ChangeAt Go.RowKit Go.Joins

theorem own_knob : ownKnob Try.prog.godebug = none := by kernel_rfl
theorem laid_out : laidOutB Try.prog = true := by kernel_rfl
theorem cells_int : Try.prog.cellsOf 3 = 1 := by kernel_rfl
theorem cells_field : Try.prog.cellsOf 24 = 3 := by kernel_rfl
theorem bytes_int : Try.prog.bytesOf 3 = 8 := by kernel_rfl
theorem und_bool : Try.prog.underlying 4 = some .bool := by kernel_rfl

section
variable {H : Type} {enc : TypeId × Value → H}

/-- All arguments read as they did. -/
theorem stay_all {W W' : World} (hb : Below W.heap.size W W') : ∀ (ts : List TypeId) (vs : List Value) (ds : List (DataW H)) (ps : List MemPlace), DataW.TrodAll enc Try.prog W 0 (fun _ => true) true ts vs ds ps →
    (∀ x ∈ ps, x.block < W.heap.size) → (∀ t ∈ ts, Try.prog.readableRec t = true ∧ t < Try.prog.types.size) → DataW.TrodAll enc Try.prog W' 0 (fun b => decide (b < W.heap.size)) true ts vs ds ps := by
  intro ts
  induction ts with
  | nil =>
    intro vs ds ps h _ _
    obtain ⟨rfl, rfl, rfl⟩ := trodAll_nil h
    exact trodAll_mk0
  | cons t ts ih =>
    intro vs ds ps h hlt hr
    obtain ⟨v, vs', d, ds', p, q, rfl, rfl, rfl, h1, h2⟩ := trodAll_cons h
    have ht := hr t (by simp)
    exact trodAll_cons_mk (Below.trod laid_out ht.1 ht.2 h1 hb fun x hx => hlt x (by simp [hx])) (ih _ _ _ h2 (fun x hx => hlt x (by simp [hx])) fun t' h' => hr t' (by simp [h']))

/-- A law that returned true and kept what was there. -/
theorem law_post {f : Func} {s : ChangeSpec} {W W' : World} {args : Array Value} {ds gs : List (DataW H)} {before : List MemPlace} (hv : s.vars = []) (hW : DataW.Whole enc Try.prog f.params.toList s.vars false W args.toList ds gs before)
    (hres : f.resultTypes = #[4]) (hfn : s.fn H (ds ++ gs) = { results := [.lit (.bool true)], args := ds }) (hread : ∀ t ∈ f.params.toList, Try.prog.readableRec t = true ∧ t < Try.prog.types.size) (hb : Below W.heap.size W W') :
    s.post enc Try.prog f false true false false W args (.bool true) W' := by
  have hlt := DataW.Whole.lt hW
  have hW' := hW
  obtain ⟨p, q, hA, hV, rfl, _, _⟩ := hW'
  rw [hv] at hV
  obtain ⟨rfl, rfl⟩ := trodVars_none hV
  refine ⟨ds, [], p ++ [], [], p ++ [], [], hW, ?_, ?_, ?_, hb.frame _, fun h => by cases h⟩
  · rw [hfn, hres]
    exact trodAll_mk1 (shut_bool und_bool true)
  · rw [hfn, List.append_nil]
    exact stay_all hb _ _ _ _ hA (fun x hx => hlt x (by simp [hx])) hread
  · rw [hfn, hv]
    rfl

/-- A slice of integers, as the walks read it. -/
theorem rd_open {W : World} {fuel : Nat} {c : Value} {y : DataW H × List MemPlace} (h : DataW.trod enc Try.prog W 0 (fun _ => true) true fuel 22 [c] = some y) (hs : (DataW.weights Try.prog 22 y.1).all (· ≤ reachBytes) = true) :
    ∃ (A : Option Addr) (cap : Nat) (mod : List Int), c = .slice A mod.length cap ∧ Rd W A mod ∧ (A = none → cap = 0) := by
  rcases open_ints Try.underlying22 Try.underlying3 cells_int h with ⟨hcs, hx⟩ | ⟨a, len, cap, zs, hcs, _, hl, hm, hz, hx, hcell, hwz⟩
  · obtain rfl : c = .slice none 0 0 := by simpa using hcs
    exact ⟨none, 0, [], rfl, Rd.nil _ _, fun _ => rfl⟩
  · obtain rfl : c = .slice (some a) len cap := by simpa using hcs
    rw [if_pos rfl] at hz
    have hlen : (zs.take len).length = len := by rw [List.length_take]; omega
    have hcap : cap * 8 ≤ 140737488351232 := by
      rw [hx] at hs
      have h1 := List.all_eq_true.1 hs ((lits (H := H) .i64 (zs.take len)).length + (lits (H := H) .i64 (zs.drop len)).length |> (· * Try.prog.bytesOf 3)) (by simp [DataW.weights, Try.underlying22])
      simp only [bytes_int, lits, List.length_map, List.length_take, List.length_drop, reachBytes, decide_eq_true_eq] at h1
      omega
    refine ⟨some a, cap, zs.take len, by rw [hlen], ⟨by rw [hlen]; omega, fun hp => ⟨a, rfl, ?_, fun j hj => ?_⟩⟩, fun h => by simp at h⟩
    · rw [hlen] at hp
      have h1 := World.block_lt_of_cell? W _ (hcell 0 (by omega))
      have h2 : (a.add 0).block = a.block := by unfold Addr.add; split <;> rfl
      rwa [h2] at h1
    · rw [hlen] at hj
      rw [hcell j (by omega)]
      simp [List.getD_eq_getElem?_getD, hj]

/-- A description, as the walks read it. -/
theorem field_open {W : World} {r : Reach} {b0 : Nat} {v : Value} {d : DataW H} {p : List MemPlace} (hv : Value.okWide Try.prog W r b0 24 v) (h : DataW.Trod enc Try.prog W 0 (fun _ => true) true 24 v d p)
    (hs : (DataW.weights Try.prog 24 d).all (· ≤ reachBytes) = true) :
    ∃ (P M : Int) (A : Option Addr) (cap : Nat) (mod : List Int), v = .agg #[.int .i64 P, .int .i64 M, .slice A mod.length cap] ∧ Rd W A mod ∧ (A = none → cap = 0) := by
  obtain ⟨c0, c1, c2, y0, y1, y2, m, rfl, rfl, rfl, hy0, hy1, hy2⟩ := open_agg3 Try.underlying24 (by kernel_rfl) cells_field hv h
  obtain ⟨P, e0, rfl, _⟩ := DataW.trod_int Try.underlying3 hy0
  obtain ⟨M, e1, rfl, _⟩ := DataW.trod_int Try.underlying3 hy1
  obtain ⟨A, cap, mod, rfl, hr, hn⟩ := rd_open hy2 (by
    simp only [DataW.weights, Try.underlying24, DataW.weightsEach, List.map_cons, List.map_nil, List.nil_append, List.append_nil] at hs
    exact hs)
  simp only [List.cons.injEq, and_true] at e0 e1
  subst e0 e1
  exact ⟨P, M, A, cap, mod, rfl, hr, hn⟩
end

end Go.Proofs.Ytjbfccconjjofaa
