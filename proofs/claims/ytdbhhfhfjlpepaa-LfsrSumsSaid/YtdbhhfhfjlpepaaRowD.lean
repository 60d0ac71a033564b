/- An array of two slices of integers, as an argument. -/
import Derived.Test.YtdbhhfhfjlpepaaRow
namespace Go.Proofs.Ytdbhhfhfjlpepaa
open Go.ChangeShapes Go.WideShapes Go.ChangeAt Go.RowKit Go.Joins

theorem cells_two : Try.prog.cellsOf 25 = 2 := by kernel_rfl
theorem cells_ints : Try.prog.cellsOf 22 = 1 := by kernel_rfl
section
variable {H : Type} {enc : TypeId × Value → H}
theorem two_open {W : World} {r : Reach} {b0 : Nat} {v : Value} {d : DataW H} {p : List MemPlace} (hv : Value.okWide Try.prog W r b0 25 v) (h : DataW.Trod enc Try.prog W 0 (fun _ => true) true 25 v d p)
    (hs : (DataW.weights Try.prog 25 d).all (· ≤ reachBytes) = true) :
    ∃ (A : Option Addr) (ca : Nat) (l : List Int) (B : Option Addr) (cb : Nat) (o : List Int), v = .agg #[.slice A l.length ca, .slice B o.length cb] ∧ Rd W A l ∧ Rd W B o := by
  have hag : ∃ cs, v = .agg cs ∧ cs.size = 2 := by
    simp only [Value.okWide, Try.underlying25] at hv
    cases v <;> simp_all [cells_two]
  obtain ⟨cs, rfl, hsz⟩ := hag
  obtain ⟨c0, c1, rfl⟩ := array2 hsz
  obtain ⟨fuel, hf⟩ := h
  obtain ⟨xs, m, _, hx, _, hl, hat⟩ := DataW.trod_array Try.underlying25 hf
  simp only [Prod.mk.injEq] at hx
  obtain ⟨rfl, _⟩ := hx
  simp only [cells_ints] at hat
  match xs, hl with
  | [y0, y1], _ =>
    have g0 := hat 0 (by omega)
    have g1 := hat 1 (by omega)
    simp only [DataW.weights, Try.underlying25, List.map_cons, List.map_nil, DataW.weightsAll, List.append_nil, List.all_append, Bool.and_eq_true] at hs
    obtain ⟨A, ca, l, rfl, hr, _⟩ := rd_open (c := c0) (y := y0) (by simpa [Value.cells] using g0) hs.1
    obtain ⟨B, cb, o, rfl, hr', _⟩ := rd_open (c := c1) (y := y1) (by simpa [Value.cells] using g1) hs.2
    exact ⟨A, ca, l, B, cb, o, rfl, hr, hr'⟩
end

end Go.Proofs.Ytdbhhfhfjlpepaa
