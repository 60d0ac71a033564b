/-
  No cell of these rows narrows 'for every input' (looked for: loops, veiled, ifaces, maps, wideKeys, modest, calm, conditions, laid).
  DERIVED. THE GIVEN ROWS OF THIS SEAT. 14 by the template 'for every input the law returns true; each argument reads behind the call as it read before'; 0 by the template 'total and deterministic' (their statements: YtjbfccconjjofaaTotals.lean).
  GIVEN WITH THE SEED: the statements are not yours to turn. If you find one false, say at which input.
  Laid BY PROGRAM, IN A SANDBOX (cutbox-rows.mjs): the forced cells as the released guide's own fill.sh prints them over the translation 43c3a872be3b23a9… (all of the seat's roots in one cut). By AI agents, Wed Nov 11 2026. No macro, syntax, notation, axiom, sorry.
-/
import Derived.Test.YtjbfccconjjofaaChecked
import GoSem.Claim
import GoSem.ClaimJoined
import GoSem.ClaimMapViews
import Derived.JoinedTies
import Derived.KernelRfl
namespace Go.Proofs.Ytjbfccconjjofaa
/- THE CELL 'sum', in the pinned program and in every row, IS THE sha256 OF THE DUMP (.gsa) THAT YtjbfccconjjofaaProg.lean LOADS. Nothing in Lean hashes anything: it is a label: what it is worth is what the hold of that sum in a sandbox is worth. -/
noncomputable def Try.pinned : Pinned := { name := "ytjbfccconjjofaa", sum := "43c3a872be3b23a92f64da26fb339cd1b4630a6afb97caa744f4cac1060e88cd", checked := Try.checked }
namespace Rows
def none {H : Type} : Left H := { results := [], args := [] }

/-- 'codewrightlaw04.FieldMultiplies': WHATEVER THE INPUT: true; the input reads as it did. -/
def fieldMultipliesSpec : ChangeSpec := { name := "fieldMultiplies", fn := fun _ => fun
  | [d1, d2, d3] => { results := [.lit (.bool true)], args := [d1, d2, d3] }
  | _ => none }
def fieldMultipliesRow : OpenClaim := { program := "ytjbfccconjjofaa", sum := "43c3a872be3b23a92f64da26fb339cd1b4630a6afb97caa744f4cac1060e88cd", func := "codewright/codewrightlaw04.FieldMultiplies", spec := "fieldMultiplies", apart := false }
def FieldMultipliesSaid : Prop := fieldMultipliesRow.holds Try.pinned (OpenSpec.ofChange fieldMultipliesSpec)

/-- ITS FALSE NEIGHBOUR: 'it returns false'. Refute it at one input. -/
def fieldMultipliesWrong : ChangeSpec := { name := "fieldMultiplies", fn := fun _ => fun
  | [d1, d2, d3] => { results := [.lit (.bool false)], args := [d1, d2, d3] }
  | _ => none }
def FieldMultipliesWrongFalsely : Prop := fieldMultipliesRow.holds Try.pinned (OpenSpec.ofChange fieldMultipliesWrong)

/-- 'codewrightlaw04.FieldAxioms': WHATEVER THE INPUT: true; the input reads as it did. -/
def fieldAxiomsSpec : ChangeSpec := { name := "fieldAxioms", fn := fun _ => fun
  | [d1, d2] => { results := [.lit (.bool true)], args := [d1, d2] }
  | _ => none }
def fieldAxiomsRow : OpenClaim := { program := "ytjbfccconjjofaa", sum := "43c3a872be3b23a92f64da26fb339cd1b4630a6afb97caa744f4cac1060e88cd", func := "codewright/codewrightlaw04.FieldAxioms", spec := "fieldAxioms", apart := false }
def FieldAxiomsSaid : Prop := fieldAxiomsRow.holds Try.pinned (OpenSpec.ofChange fieldAxiomsSpec)

/-- ITS FALSE NEIGHBOUR: 'it returns false'. Refute it at one input. -/
def fieldAxiomsWrong : ChangeSpec := { name := "fieldAxioms", fn := fun _ => fun
  | [d1, d2] => { results := [.lit (.bool false)], args := [d1, d2] }
  | _ => none }
def FieldAxiomsWrongFalsely : Prop := fieldAxiomsRow.holds Try.pinned (OpenSpec.ofChange fieldAxiomsWrong)

/-- 'codewrightlaw04.FieldElements': WHATEVER THE INPUT: true; the input reads as it did. -/
def fieldElementsSpec : ChangeSpec := { name := "fieldElements", fn := fun _ => fun
  | [d1, d2] => { results := [.lit (.bool true)], args := [d1, d2] }
  | _ => none }
def fieldElementsRow : OpenClaim := { program := "ytjbfccconjjofaa", sum := "43c3a872be3b23a92f64da26fb339cd1b4630a6afb97caa744f4cac1060e88cd", func := "codewright/codewrightlaw04.FieldElements", spec := "fieldElements", unfollowed := true, recurses := true, apart := false }
def FieldElementsSaid : Prop := fieldElementsRow.holds Try.pinned (OpenSpec.ofChange fieldElementsSpec)

/-- ITS FALSE NEIGHBOUR: 'it returns false'. Refute it at one input. -/
def fieldElementsWrong : ChangeSpec := { name := "fieldElements", fn := fun _ => fun
  | [d1, d2] => { results := [.lit (.bool false)], args := [d1, d2] }
  | _ => none }
def FieldElementsWrongFalsely : Prop := fieldElementsRow.holds Try.pinned (OpenSpec.ofChange fieldElementsWrong)

/-- 'codewrightlaw04.FieldSame': WHATEVER THE INPUT: true; the input reads as it did. -/
def fieldSameSpec : ChangeSpec := { name := "fieldSame", fn := fun _ => fun
  | [d1, d2] => { results := [.lit (.bool true)], args := [d1, d2] }
  | _ => none }
def fieldSameRow : OpenClaim := { program := "ytjbfccconjjofaa", sum := "43c3a872be3b23a92f64da26fb339cd1b4630a6afb97caa744f4cac1060e88cd", func := "codewright/codewrightlaw04.FieldSame", spec := "fieldSame", apart := false }
def FieldSameSaid : Prop := fieldSameRow.holds Try.pinned (OpenSpec.ofChange fieldSameSpec)

/-- ITS FALSE NEIGHBOUR: 'it returns false'. Refute it at one input. -/
def fieldSameWrong : ChangeSpec := { name := "fieldSame", fn := fun _ => fun
  | [d1, d2] => { results := [.lit (.bool false)], args := [d1, d2] }
  | _ => none }
def FieldSameWrongFalsely : Prop := fieldSameRow.holds Try.pinned (OpenSpec.ofChange fieldSameWrong)

/-- 'codewrightlaw04.FieldAdds': WHATEVER THE INPUT: true; the input reads as it did. -/
def fieldAddsSpec : ChangeSpec := { name := "fieldAdds", fn := fun _ => fun
  | [d1, d2, d3] => { results := [.lit (.bool true)], args := [d1, d2, d3] }
  | _ => none }
def fieldAddsRow : OpenClaim := { program := "ytjbfccconjjofaa", sum := "43c3a872be3b23a92f64da26fb339cd1b4630a6afb97caa744f4cac1060e88cd", func := "codewright/codewrightlaw04.FieldAdds", spec := "fieldAdds", apart := false }
def FieldAddsSaid : Prop := fieldAddsRow.holds Try.pinned (OpenSpec.ofChange fieldAddsSpec)

/-- ITS FALSE NEIGHBOUR: 'it returns false'. Refute it at one input. -/
def fieldAddsWrong : ChangeSpec := { name := "fieldAdds", fn := fun _ => fun
  | [d1, d2, d3] => { results := [.lit (.bool false)], args := [d1, d2, d3] }
  | _ => none }
def FieldAddsWrongFalsely : Prop := fieldAddsRow.holds Try.pinned (OpenSpec.ofChange fieldAddsWrong)

/-- 'codewrightlaw04.FieldCounts': WHATEVER THE INPUT: true; the input reads as it did. -/
def fieldCountsSpec : ChangeSpec := { name := "fieldCounts", fn := fun _ => fun
  | [d1, d2] => { results := [.lit (.bool true)], args := [d1, d2] }
  | _ => none }
def fieldCountsRow : OpenClaim := { program := "ytjbfccconjjofaa", sum := "43c3a872be3b23a92f64da26fb339cd1b4630a6afb97caa744f4cac1060e88cd", func := "codewright/codewrightlaw04.FieldCounts", spec := "fieldCounts", apart := false }
def FieldCountsSaid : Prop := fieldCountsRow.holds Try.pinned (OpenSpec.ofChange fieldCountsSpec)

/-- ITS FALSE NEIGHBOUR: 'it returns false'. Refute it at one input. -/
def fieldCountsWrong : ChangeSpec := { name := "fieldCounts", fn := fun _ => fun
  | [d1, d2] => { results := [.lit (.bool false)], args := [d1, d2] }
  | _ => none }
def FieldCountsWrongFalsely : Prop := fieldCountsRow.holds Try.pinned (OpenSpec.ofChange fieldCountsWrong)

/-- 'codewrightlaw04.FieldDigits': WHATEVER THE INPUT: true; the input reads as it did. -/
def fieldDigitsSpec : ChangeSpec := { name := "fieldDigits", fn := fun _ => fun
  | [d1, d2, d3] => { results := [.lit (.bool true)], args := [d1, d2, d3] }
  | _ => none }
def fieldDigitsRow : OpenClaim := { program := "ytjbfccconjjofaa", sum := "43c3a872be3b23a92f64da26fb339cd1b4630a6afb97caa744f4cac1060e88cd", func := "codewright/codewrightlaw04.FieldDigits", spec := "fieldDigits", apart := false }
def FieldDigitsSaid : Prop := fieldDigitsRow.holds Try.pinned (OpenSpec.ofChange fieldDigitsSpec)

/-- ITS FALSE NEIGHBOUR: 'it returns false'. Refute it at one input. -/
def fieldDigitsWrong : ChangeSpec := { name := "fieldDigits", fn := fun _ => fun
  | [d1, d2, d3] => { results := [.lit (.bool false)], args := [d1, d2, d3] }
  | _ => none }
def FieldDigitsWrongFalsely : Prop := fieldDigitsRow.holds Try.pinned (OpenSpec.ofChange fieldDigitsWrong)

/-- 'codewrightlaw04.FieldOrders': WHATEVER THE INPUT: true; the input reads as it did. -/
def fieldOrdersSpec : ChangeSpec := { name := "fieldOrders", fn := fun _ => fun
  | [d1, d2] => { results := [.lit (.bool true)], args := [d1, d2] }
  | _ => none }
def fieldOrdersRow : OpenClaim := { program := "ytjbfccconjjofaa", sum := "43c3a872be3b23a92f64da26fb339cd1b4630a6afb97caa744f4cac1060e88cd", func := "codewright/codewrightlaw04.FieldOrders", spec := "fieldOrders", apart := false }
def FieldOrdersSaid : Prop := fieldOrdersRow.holds Try.pinned (OpenSpec.ofChange fieldOrdersSpec)

/-- ITS FALSE NEIGHBOUR: 'it returns false'. Refute it at one input. -/
def fieldOrdersWrong : ChangeSpec := { name := "fieldOrders", fn := fun _ => fun
  | [d1, d2] => { results := [.lit (.bool false)], args := [d1, d2] }
  | _ => none }
def FieldOrdersWrongFalsely : Prop := fieldOrdersRow.holds Try.pinned (OpenSpec.ofChange fieldOrdersWrong)

/-- 'codewrightlaw04.FieldDivides': WHATEVER THE INPUT: true; the input reads as it did. -/
def fieldDividesSpec : ChangeSpec := { name := "fieldDivides", fn := fun _ => fun
  | [d1, d2, d3] => { results := [.lit (.bool true)], args := [d1, d2, d3] }
  | _ => none }
def fieldDividesRow : OpenClaim := { program := "ytjbfccconjjofaa", sum := "43c3a872be3b23a92f64da26fb339cd1b4630a6afb97caa744f4cac1060e88cd", func := "codewright/codewrightlaw04.FieldDivides", spec := "fieldDivides", apart := false }
def FieldDividesSaid : Prop := fieldDividesRow.holds Try.pinned (OpenSpec.ofChange fieldDividesSpec)

/-- ITS FALSE NEIGHBOUR: 'it returns false'. Refute it at one input. -/
def fieldDividesWrong : ChangeSpec := { name := "fieldDivides", fn := fun _ => fun
  | [d1, d2, d3] => { results := [.lit (.bool false)], args := [d1, d2, d3] }
  | _ => none }
def FieldDividesWrongFalsely : Prop := fieldDividesRow.holds Try.pinned (OpenSpec.ofChange fieldDividesWrong)

/-- 'codewrightlaw04.FieldPowers': WHATEVER THE INPUT: true; the input reads as it did. -/
def fieldPowersSpec : ChangeSpec := { name := "fieldPowers", fn := fun _ => fun
  | [d1, d2, d3] => { results := [.lit (.bool true)], args := [d1, d2, d3] }
  | _ => none }
def fieldPowersRow : OpenClaim := { program := "ytjbfccconjjofaa", sum := "43c3a872be3b23a92f64da26fb339cd1b4630a6afb97caa744f4cac1060e88cd", func := "codewright/codewrightlaw04.FieldPowers", spec := "fieldPowers", apart := false }
def FieldPowersSaid : Prop := fieldPowersRow.holds Try.pinned (OpenSpec.ofChange fieldPowersSpec)

/-- ITS FALSE NEIGHBOUR: 'it returns false'. Refute it at one input. -/
def fieldPowersWrong : ChangeSpec := { name := "fieldPowers", fn := fun _ => fun
  | [d1, d2, d3] => { results := [.lit (.bool false)], args := [d1, d2, d3] }
  | _ => none }
def FieldPowersWrongFalsely : Prop := fieldPowersRow.holds Try.pinned (OpenSpec.ofChange fieldPowersWrong)

/-- 'codewrightlaw04.FieldFrobenius': WHATEVER THE INPUT: true; the input reads as it did. -/
def fieldFrobeniusSpec : ChangeSpec := { name := "fieldFrobenius", fn := fun _ => fun
  | [d1, d2, d3] => { results := [.lit (.bool true)], args := [d1, d2, d3] }
  | _ => none }
def fieldFrobeniusRow : OpenClaim := { program := "ytjbfccconjjofaa", sum := "43c3a872be3b23a92f64da26fb339cd1b4630a6afb97caa744f4cac1060e88cd", func := "codewright/codewrightlaw04.FieldFrobenius", spec := "fieldFrobenius", apart := false }
def FieldFrobeniusSaid : Prop := fieldFrobeniusRow.holds Try.pinned (OpenSpec.ofChange fieldFrobeniusSpec)

/-- ITS FALSE NEIGHBOUR: 'it returns false'. Refute it at one input. -/
def fieldFrobeniusWrong : ChangeSpec := { name := "fieldFrobenius", fn := fun _ => fun
  | [d1, d2, d3] => { results := [.lit (.bool false)], args := [d1, d2, d3] }
  | _ => none }
def FieldFrobeniusWrongFalsely : Prop := fieldFrobeniusRow.holds Try.pinned (OpenSpec.ofChange fieldFrobeniusWrong)

/-- 'codewrightlaw04.FieldChecks': WHATEVER THE INPUT: true; the input reads as it did. -/
def fieldChecksSpec : ChangeSpec := { name := "fieldChecks", fn := fun _ => fun
  | [d1, d2] => { results := [.lit (.bool true)], args := [d1, d2] }
  | _ => none }
def fieldChecksRow : OpenClaim := { program := "ytjbfccconjjofaa", sum := "43c3a872be3b23a92f64da26fb339cd1b4630a6afb97caa744f4cac1060e88cd", func := "codewright/codewrightlaw04.FieldChecks", spec := "fieldChecks", apart := false }
def FieldChecksSaid : Prop := fieldChecksRow.holds Try.pinned (OpenSpec.ofChange fieldChecksSpec)

/-- ITS FALSE NEIGHBOUR: 'it returns false'. Refute it at one input. -/
def fieldChecksWrong : ChangeSpec := { name := "fieldChecks", fn := fun _ => fun
  | [d1, d2] => { results := [.lit (.bool false)], args := [d1, d2] }
  | _ => none }
def FieldChecksWrongFalsely : Prop := fieldChecksRow.holds Try.pinned (OpenSpec.ofChange fieldChecksWrong)

/-- 'codewrightlaw04.FieldLists': WHATEVER THE INPUT: true; the input reads as it did. -/
def fieldListsSpec : ChangeSpec := { name := "fieldLists", fn := fun _ => fun
  | [d1, d2, d3] => { results := [.lit (.bool true)], args := [d1, d2, d3] }
  | _ => none }
def fieldListsRow : OpenClaim := { program := "ytjbfccconjjofaa", sum := "43c3a872be3b23a92f64da26fb339cd1b4630a6afb97caa744f4cac1060e88cd", func := "codewright/codewrightlaw04.FieldLists", spec := "fieldLists", apart := false }
def FieldListsSaid : Prop := fieldListsRow.holds Try.pinned (OpenSpec.ofChange fieldListsSpec)

/-- ITS FALSE NEIGHBOUR: 'it returns false'. Refute it at one input. -/
def fieldListsWrong : ChangeSpec := { name := "fieldLists", fn := fun _ => fun
  | [d1, d2, d3] => { results := [.lit (.bool false)], args := [d1, d2, d3] }
  | _ => none }
def FieldListsWrongFalsely : Prop := fieldListsRow.holds Try.pinned (OpenSpec.ofChange fieldListsWrong)

/-- 'codewrightlaw04.FieldStandard': WHATEVER THE INPUT: true; the input reads as it did. -/
def fieldStandardSpec : ChangeSpec := { name := "fieldStandard", fn := fun _ => fun
  | [d] => { results := [.lit (.bool true)], args := [d] }
  | _ => none }
def fieldStandardRow : OpenClaim := { program := "ytjbfccconjjofaa", sum := "43c3a872be3b23a92f64da26fb339cd1b4630a6afb97caa744f4cac1060e88cd", func := "codewright/codewrightlaw04.FieldStandard", spec := "fieldStandard", apart := false }
def FieldStandardSaid : Prop := fieldStandardRow.holds Try.pinned (OpenSpec.ofChange fieldStandardSpec)

/-- ITS FALSE NEIGHBOUR: 'it returns false'. Refute it at one input. -/
def fieldStandardWrong : ChangeSpec := { name := "fieldStandard", fn := fun _ => fun
  | [d] => { results := [.lit (.bool false)], args := [d] }
  | _ => none }
def FieldStandardWrongFalsely : Prop := fieldStandardRow.holds Try.pinned (OpenSpec.ofChange fieldStandardWrong)

/- THE SECOND FORM. 'bulk': how many values and letters a reading holds, each counted each time it is reached (what is shared counts as often as it is met; a slice's spare places count too). A statement '..UptoSaid' is the law's where the arguments, and the package variables that the reading takes, are together of bulk at most 1048576: NARROWER than '..Said'. Prove '..Said' where nothing that the law and all that it calls make is longer than what came in: it says more and counts as full. Else prove '..UptoSaid'. A law counts once. -/
mutual
def uptoBulk {H : Type} : DataW H → Nat
  | .lit (.string bytes) => bytes.length + 1
  | .lit _ => 1
  | .nil => 1
  | .ptr d => uptoBulk d + 1
  | .slice elems spare => uptoBulkAll elems + uptoBulkAll spare + 1
  | .agg parts => uptoBulkAll parts + 1
  | .iface _ d => uptoBulk d + 1
  | .map entries => uptoBulkEntries entries + 1
  | .held _ => 1
def uptoBulkAll {H : Type} : List (DataW H) → Nat
  | [] => 0
  | d :: r => uptoBulk d + uptoBulkAll r
def uptoBulkEntries {H : Type} : List (Lit × DataW H) → Nat
  | [] => 0
  | x :: r => uptoBulkEntry x + uptoBulkEntries r
def uptoBulkEntry {H : Type} : Lit × DataW H → Nat
  | (.string bytes, d) => bytes.length + uptoBulk d + 1
  | (_, d) => uptoBulk d + 1
 end
def uptoSmall : (H : Type) → List (DataW H) → Bool := fun _ ds => decide (uptoBulkAll ds ≤ 1048576)
def OpenSpec.upto (s : _root_.Go.ChangeSpec) : _root_.Go.OpenSpec := { _root_.Go.OpenSpec.ofChange s with cond := some uptoSmall }

/-- 'codewrightlaw04.FieldMultiplies', WHERE WHAT IT READS IS OF BULK AT MOST 1048576: true; the input reads as it did. -/
def fieldMultipliesUptoRow : OpenClaim := { program := "ytjbfccconjjofaa", sum := "43c3a872be3b23a92f64da26fb339cd1b4630a6afb97caa744f4cac1060e88cd", func := "codewright/codewrightlaw04.FieldMultiplies", spec := "fieldMultiplies", apart := false, narrowed := true }
def FieldMultipliesUptoSaid : Prop := fieldMultipliesUptoRow.holds Try.pinned (OpenSpec.upto fieldMultipliesSpec)

/-- 'codewrightlaw04.FieldAxioms', WHERE WHAT IT READS IS OF BULK AT MOST 1048576: true; the input reads as it did. -/
def fieldAxiomsUptoRow : OpenClaim := { program := "ytjbfccconjjofaa", sum := "43c3a872be3b23a92f64da26fb339cd1b4630a6afb97caa744f4cac1060e88cd", func := "codewright/codewrightlaw04.FieldAxioms", spec := "fieldAxioms", apart := false, narrowed := true }
def FieldAxiomsUptoSaid : Prop := fieldAxiomsUptoRow.holds Try.pinned (OpenSpec.upto fieldAxiomsSpec)

/-- 'codewrightlaw04.FieldElements', WHERE WHAT IT READS IS OF BULK AT MOST 1048576: true; the input reads as it did. -/
def fieldElementsUptoRow : OpenClaim := { program := "ytjbfccconjjofaa", sum := "43c3a872be3b23a92f64da26fb339cd1b4630a6afb97caa744f4cac1060e88cd", func := "codewright/codewrightlaw04.FieldElements", spec := "fieldElements", unfollowed := true, recurses := true, apart := false, narrowed := true }
def FieldElementsUptoSaid : Prop := fieldElementsUptoRow.holds Try.pinned (OpenSpec.upto fieldElementsSpec)

/-- 'codewrightlaw04.FieldSame', WHERE WHAT IT READS IS OF BULK AT MOST 1048576: true; the input reads as it did. -/
def fieldSameUptoRow : OpenClaim := { program := "ytjbfccconjjofaa", sum := "43c3a872be3b23a92f64da26fb339cd1b4630a6afb97caa744f4cac1060e88cd", func := "codewright/codewrightlaw04.FieldSame", spec := "fieldSame", apart := false, narrowed := true }
def FieldSameUptoSaid : Prop := fieldSameUptoRow.holds Try.pinned (OpenSpec.upto fieldSameSpec)

/-- 'codewrightlaw04.FieldAdds', WHERE WHAT IT READS IS OF BULK AT MOST 1048576: true; the input reads as it did. -/
def fieldAddsUptoRow : OpenClaim := { program := "ytjbfccconjjofaa", sum := "43c3a872be3b23a92f64da26fb339cd1b4630a6afb97caa744f4cac1060e88cd", func := "codewright/codewrightlaw04.FieldAdds", spec := "fieldAdds", apart := false, narrowed := true }
def FieldAddsUptoSaid : Prop := fieldAddsUptoRow.holds Try.pinned (OpenSpec.upto fieldAddsSpec)

/-- 'codewrightlaw04.FieldCounts', WHERE WHAT IT READS IS OF BULK AT MOST 1048576: true; the input reads as it did. -/
def fieldCountsUptoRow : OpenClaim := { program := "ytjbfccconjjofaa", sum := "43c3a872be3b23a92f64da26fb339cd1b4630a6afb97caa744f4cac1060e88cd", func := "codewright/codewrightlaw04.FieldCounts", spec := "fieldCounts", apart := false, narrowed := true }
def FieldCountsUptoSaid : Prop := fieldCountsUptoRow.holds Try.pinned (OpenSpec.upto fieldCountsSpec)

/-- 'codewrightlaw04.FieldDigits', WHERE WHAT IT READS IS OF BULK AT MOST 1048576: true; the input reads as it did. -/
def fieldDigitsUptoRow : OpenClaim := { program := "ytjbfccconjjofaa", sum := "43c3a872be3b23a92f64da26fb339cd1b4630a6afb97caa744f4cac1060e88cd", func := "codewright/codewrightlaw04.FieldDigits", spec := "fieldDigits", apart := false, narrowed := true }
def FieldDigitsUptoSaid : Prop := fieldDigitsUptoRow.holds Try.pinned (OpenSpec.upto fieldDigitsSpec)

/-- 'codewrightlaw04.FieldOrders', WHERE WHAT IT READS IS OF BULK AT MOST 1048576: true; the input reads as it did. -/
def fieldOrdersUptoRow : OpenClaim := { program := "ytjbfccconjjofaa", sum := "43c3a872be3b23a92f64da26fb339cd1b4630a6afb97caa744f4cac1060e88cd", func := "codewright/codewrightlaw04.FieldOrders", spec := "fieldOrders", apart := false, narrowed := true }
def FieldOrdersUptoSaid : Prop := fieldOrdersUptoRow.holds Try.pinned (OpenSpec.upto fieldOrdersSpec)

/-- 'codewrightlaw04.FieldDivides', WHERE WHAT IT READS IS OF BULK AT MOST 1048576: true; the input reads as it did. -/
def fieldDividesUptoRow : OpenClaim := { program := "ytjbfccconjjofaa", sum := "43c3a872be3b23a92f64da26fb339cd1b4630a6afb97caa744f4cac1060e88cd", func := "codewright/codewrightlaw04.FieldDivides", spec := "fieldDivides", apart := false, narrowed := true }
def FieldDividesUptoSaid : Prop := fieldDividesUptoRow.holds Try.pinned (OpenSpec.upto fieldDividesSpec)

/-- 'codewrightlaw04.FieldPowers', WHERE WHAT IT READS IS OF BULK AT MOST 1048576: true; the input reads as it did. -/
def fieldPowersUptoRow : OpenClaim := { program := "ytjbfccconjjofaa", sum := "43c3a872be3b23a92f64da26fb339cd1b4630a6afb97caa744f4cac1060e88cd", func := "codewright/codewrightlaw04.FieldPowers", spec := "fieldPowers", apart := false, narrowed := true }
def FieldPowersUptoSaid : Prop := fieldPowersUptoRow.holds Try.pinned (OpenSpec.upto fieldPowersSpec)

/-- 'codewrightlaw04.FieldFrobenius', WHERE WHAT IT READS IS OF BULK AT MOST 1048576: true; the input reads as it did. -/
def fieldFrobeniusUptoRow : OpenClaim := { program := "ytjbfccconjjofaa", sum := "43c3a872be3b23a92f64da26fb339cd1b4630a6afb97caa744f4cac1060e88cd", func := "codewright/codewrightlaw04.FieldFrobenius", spec := "fieldFrobenius", apart := false, narrowed := true }
def FieldFrobeniusUptoSaid : Prop := fieldFrobeniusUptoRow.holds Try.pinned (OpenSpec.upto fieldFrobeniusSpec)

/-- 'codewrightlaw04.FieldChecks', WHERE WHAT IT READS IS OF BULK AT MOST 1048576: true; the input reads as it did. -/
def fieldChecksUptoRow : OpenClaim := { program := "ytjbfccconjjofaa", sum := "43c3a872be3b23a92f64da26fb339cd1b4630a6afb97caa744f4cac1060e88cd", func := "codewright/codewrightlaw04.FieldChecks", spec := "fieldChecks", apart := false, narrowed := true }
def FieldChecksUptoSaid : Prop := fieldChecksUptoRow.holds Try.pinned (OpenSpec.upto fieldChecksSpec)

/-- 'codewrightlaw04.FieldLists', WHERE WHAT IT READS IS OF BULK AT MOST 1048576: true; the input reads as it did. -/
def fieldListsUptoRow : OpenClaim := { program := "ytjbfccconjjofaa", sum := "43c3a872be3b23a92f64da26fb339cd1b4630a6afb97caa744f4cac1060e88cd", func := "codewright/codewrightlaw04.FieldLists", spec := "fieldLists", apart := false, narrowed := true }
def FieldListsUptoSaid : Prop := fieldListsUptoRow.holds Try.pinned (OpenSpec.upto fieldListsSpec)

/-- 'codewrightlaw04.FieldStandard', WHERE WHAT IT READS IS OF BULK AT MOST 1048576: true; the input reads as it did. -/
def fieldStandardUptoRow : OpenClaim := { program := "ytjbfccconjjofaa", sum := "43c3a872be3b23a92f64da26fb339cd1b4630a6afb97caa744f4cac1060e88cd", func := "codewright/codewrightlaw04.FieldStandard", spec := "fieldStandard", apart := false, narrowed := true }
def FieldStandardUptoSaid : Prop := fieldStandardUptoRow.holds Try.pinned (OpenSpec.upto fieldStandardSpec)

end Rows
end Go.Proofs.Ytjbfccconjjofaa
