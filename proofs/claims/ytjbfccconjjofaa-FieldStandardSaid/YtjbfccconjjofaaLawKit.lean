/- What the walks of the laws share. -/
import Derived.Test.YtjbfccconjjofaaAliveB
namespace Go.Proofs.Ytjbfccconjjofaa
open Go.RowKit
attribute [local go_sem ↓] Go.wp_at_zero Go.wp_at_succ

theorem keepS {W w' : World} {g : Nat} {a b c : Value} (h0 : W.cell? ⟨g, 0, none⟩ = some a) (h1 : W.cell? ⟨g, 1, none⟩ = some b) (h2 : W.cell? ⟨g, 2, none⟩ = some c) (hb : Below W.heap.size W w') :
    w'.cell? ⟨g, 0, none⟩ = some a ∧ w'.cell? ⟨g, 1, none⟩ = some b ∧ w'.cell? ⟨g, 2, none⟩ = some c ∧ Below W.heap.size W w' :=
  ⟨(hb.cell (World.block_lt_of_cell? W _ h0)).trans h0, (hb.cell (World.block_lt_of_cell? W _ h1)).trans h1, (hb.cell (World.block_lt_of_cell? W _ h2)).trans h2, hb⟩
theorem keepC {W w1 w' : World} {g : Nat} {a b c : Value} {p q r : Prop} (h0 : W.cell? ⟨g, 0, none⟩ = some a) (h1 : W.cell? ⟨g, 1, none⟩ = some b) (h2 : W.cell? ⟨g, 2, none⟩ = some c) (hb : Below w1.heap.size w1 w') (h : p ∧ q ∧ r ∧ Below W.heap.size W w1) :
    w'.cell? ⟨g, 0, none⟩ = some a ∧ w'.cell? ⟨g, 1, none⟩ = some b ∧ w'.cell? ⟨g, 2, none⟩ = some c ∧ Below W.heap.size W w' :=
  keepS h0 h1 h2 (below_step h.2.2.2 hb h.2.2.2.size)
theorem belowS {W w1 : World} {p q r : Prop} (h : p ∧ q ∧ r ∧ Below W.heap.size W w1) : Below W.heap.size W w1 := h.2.2.2
/-- What stands where a law has its field: the field, its description boxed. -/
structure Stage (w w4 : World) (P : Int) (m : Nat) (A : Option Addr) (c : Nat) (mod : List Int) (g q : Nat) (p : Int) (ex lg : List Int) : Prop where
  gf : GFat w4 g P m mod q ex lg
  made : Made P m mod q p ex lg
  rd : Rd w4 A mod
  c0 : w4.cell? ⟨w.heap.size, 0, none⟩ = some (.int .i64 P)
  c1 : w4.cell? ⟨w.heap.size, 1, none⟩ = some (.int .i64 m)
  c2 : w4.cell? ⟨w.heap.size, 2, none⟩ = some (.slice A mod.length c)
  below : Below w.heap.size w w4

end Go.Proofs.Ytjbfccconjjofaa
