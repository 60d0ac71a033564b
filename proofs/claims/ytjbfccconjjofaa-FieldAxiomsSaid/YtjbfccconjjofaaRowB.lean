/- An array of three integers, as an argument. -/
import Derived.Test.YtjbfccconjjofaaRow
namespace Go.Proofs.Ytjbfccconjjofaa
open Go.ChangeShapes Go.WideShapes Go.ChangeAt Go.RowKit Go.Joins

theorem cells_three : Try.prog.cellsOf 33 = 3 := by kernel_rfl
section
variable {H : Type} {enc : TypeId × Value → H}
theorem three_open {W : World} {r : Reach} {b0 : Nat} {v : Value} {d : DataW H} {p : List MemPlace} (hv : Value.okWide Try.prog W r b0 33 v) (h : DataW.Trod enc Try.prog W 0 (fun _ => true) true 33 v d p) :
    ∃ x y z : Int, v = .agg #[.int .i64 x, .int .i64 y, .int .i64 z] := by
  have hag : ∃ cs, v = .agg cs ∧ cs.size = 3 := by
    simp only [Value.okWide, Try.underlying33] at hv
    cases v <;> simp_all [cells_three]
  obtain ⟨cs, rfl, hsz⟩ := hag
  obtain ⟨c0, c1, c2, rfl⟩ := array3 hsz
  obtain ⟨fuel, hf⟩ := h
  obtain ⟨xs, m, _, _, _, hl, hat⟩ := DataW.trod_array Try.underlying33 hf
  simp only [cells_int] at hat
  have g0 := hat 0 (by omega)
  have g1 := hat 1 (by omega)
  have g2 := hat 2 (by omega)
  rw [List.getElem?_eq_getElem (by omega)] at g0 g1 g2
  obtain ⟨x, e0, _⟩ := DataW.trod_int Try.underlying3 g0
  obtain ⟨y, e1, _⟩ := DataW.trod_int Try.underlying3 g1
  obtain ⟨z, e2, _⟩ := DataW.trod_int Try.underlying3 g2
  simp [Value.cells] at e0 e1 e2
  exact ⟨x, y, z, by rw [e0, e1, e2]⟩
end

end Go.Proofs.Ytjbfccconjjofaa
