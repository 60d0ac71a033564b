/- A slice of integers, as an argument: with its capacity. -/
import Derived.Test.YtdbhhfhfjlpepaaRow
namespace Go.Proofs.Ytdbhhfhfjlpepaa
open Go.ChangeShapes Go.WideShapes Go.ChangeAt Go.RowKit Go.Joins

section
variable {H : Type} {enc : TypeId × Value → H}
theorem rd_openC {W : World} {fuel : Nat} {c : Value} {y : DataW H × List MemPlace} (h : DataW.trod enc Try.prog W 0 (fun _ => true) true fuel 22 [c] = some y) (hs : (DataW.weights Try.prog 22 y.1).all (· ≤ reachBytes) = true) :
    ∃ (A : Option Addr) (cap : Nat) (mod : List Int), c = .slice A mod.length cap ∧ Rd W A mod ∧ (A = none → cap = 0) ∧ mod.length ≤ cap := by
  obtain ⟨A, cap, mod, e, hr, hn⟩ := rd_open h hs
  refine ⟨A, cap, mod, e, hr, hn, ?_⟩
  rcases open_ints Try.underlying22 Try.underlying3 cells_int h with ⟨hcs, _⟩ | ⟨a, len, cap', zs, hcs, _, hl, _⟩
  · obtain rfl : c = .slice none 0 0 := by simpa using hcs
    simp only [Value.slice.injEq] at e
    omega
  · obtain rfl : c = .slice (some a) len cap' := by simpa using hcs
    simp only [Value.slice.injEq] at e
    omega
theorem slice_openC {W : World} {r : Reach} {b0 : Nat} {v : Value} {d : DataW H} {p : List MemPlace} (hv : Value.okWide Try.prog W r b0 22 v) (h : DataW.Trod enc Try.prog W 0 (fun _ => true) true 22 v d p)
    (hs : (DataW.weights Try.prog 22 d).all (· ≤ reachBytes) = true) : ∃ (A : Option Addr) (cap : Nat) (l : List Int), v = .slice A l.length cap ∧ Rd W A l ∧ (A = none → cap = 0) ∧ l.length ≤ cap := by
  obtain ⟨a, len, cap, rfl⟩ := okWide_slice Try.underlying22 hv
  obtain ⟨fuel, hf⟩ := h
  exact rd_openC (fuel := fuel) (y := (d, p)) (by simpa [Value.cells] using hf) hs
end

end Go.Proofs.Ytdbhhfhfjlpepaa
