/- A slice of integers, as an argument. -/
import Derived.Test.YtdbhhfhfjlpepaaRow
namespace Go.Proofs.Ytdbhhfhfjlpepaa
open Go.ChangeShapes Go.WideShapes Go.ChangeAt Go.RowKit Go.Joins

section
variable {H : Type} {enc : TypeId × Value → H}
theorem slice_open {W : World} {r : Reach} {b0 : Nat} {v : Value} {d : DataW H} {p : List MemPlace} (hv : Value.okWide Try.prog W r b0 22 v) (h : DataW.Trod enc Try.prog W 0 (fun _ => true) true 22 v d p)
    (hs : (DataW.weights Try.prog 22 d).all (· ≤ reachBytes) = true) : ∃ (A : Option Addr) (cap : Nat) (l : List Int), v = .slice A l.length cap ∧ Rd W A l ∧ (A = none → cap = 0) := by
  obtain ⟨a, len, cap, rfl⟩ := okWide_slice Try.underlying22 hv
  obtain ⟨fuel, hf⟩ := h
  exact rd_open (fuel := fuel) (y := (d, p)) (by simpa [Value.cells] using hf) hs
end

end Go.Proofs.Ytdbhhfhfjlpepaa
