/- Words on worlds that all texts of this seat share: slices of integers that are read, rows that the call owns. No program in it but two numbers of types. -/
import Derived.WalkKit
import Derived.WalkSpells
import Derived.WalkSmall
import Derived.KernelRfl
import Derived.Lib.Hide
namespace Go.Proofs.Ytjbfccconjjofaa
open Go.RowKit

def ints (xs : List Int) : List Value := xs.map (Value.int .i64)
theorem ints_length (xs : List Int) : (ints xs).length = xs.length := by simp [ints]

/-- A slice value's address and length read as the list xs. -/
def Rd (w : World) (A : Option Addr) (xs : List Int) : Prop :=
  xs.length ≤ 140737488351232 ∧ (0 < xs.length → ∃ ad, A = some ad ∧ ad.block < w.heap.size ∧ ∀ j, j < xs.length → w.cell? (ad.add j) = some (.int .i64 (xs.getD j 0)))

theorem Rd.nil (w : World) (A : Option Addr) : Rd w A [] := ⟨by simp, fun h => absurd h (by simp)⟩
theorem Rd.below {w w' : World} {B : Nat} {A : Option Addr} {xs : List Int} (h : Rd w A xs) (hb : Below B w w') (hB : w.heap.size ≤ B) : Rd w' A xs := by
  refine ⟨h.1, fun hp => ?_⟩
  obtain ⟨ad, e, hl, hc⟩ := h.2 hp
  refine ⟨ad, e, Nat.lt_of_lt_of_le hl hb.size, fun j hj => ?_⟩
  have h2 := hc j hj
  have h3 := World.block_lt_of_cell? w _ h2
  exact (hb.cell (Nat.lt_of_lt_of_le h3 hB)).trans h2

theorem Rd.alloc {w : World} {A : Option Addr} {xs : List Int} (h : Rd w A xs) (o : Obj) : Rd (w.alloc o) A xs :=
  h.below ((Below.refl w.heap.size w).alloc (Nat.le_refl _) o) (Nat.le_refl _)
theorem Rd.drew {w : World} {A : Option Addr} {xs : List Int} (h : Rd w A xs) : Rd w.drew A xs := h
/-- Block g is a row of integers that begins with xs and has room for cap. -/
def Own (w : World) (g cap : Nat) (xs : List Int) : Prop :=
  w.ownsRow g 3 1 (.slice (some ⟨g, 0, none⟩) xs.length cap) xs.length (ints xs)

theorem Own.cell {w : World} {g cap : Nat} {xs : List Int} (h : Own w g cap xs) (j : Nat) (hj : j < xs.length) : w.cell? ⟨g, j, none⟩ = some (.int .i64 (xs.getD j 0)) := by
  have := World.ownsRow.cellAt h j (by omega)
  rw [this]
  simp [ints, List.getElem?_eq_getElem hj, List.getD_eq_getElem?_getD]
theorem Own.free {w : World} {g cap : Nat} {xs : List Int} (h : Own w g cap xs) (j : Nat) : w.frozen? ⟨g, j, none⟩ = false := World.ownsRow.frozenAt h j
theorem Own.lt {w : World} {g cap : Nat} {xs : List Int} (h : Own w g cap xs) : g < w.heap.size := (World.ownsRow.lt h g rfl).2
theorem Own.set {w : World} {g cap : Nat} {xs : List Int} (h : Own w g cap xs) (j : Nat) (u : Int) : Own (w.setCell ⟨g, j, none⟩ (.int .i64 u)) g cap (xs.set j u) := by
  have := (World.ownsRow.stored h j (.int .i64 u)).1
  unfold Own
  simpa [ints, List.map_set] using this
theorem Own.below {w w' : World} {B g cap : Nat} {xs : List Int} (h : Own w g cap xs) (hb : Below B w w') (hg : g < B) : Own w' g cap xs := by
  have e := hb.block g hg
  rcases h with ⟨h1, h2⟩
  refine ⟨h1, ?_⟩
  rcases h2 with h2 | ⟨g', cap', cur, e1, e2, e3, e4⟩
  · exact .inl h2
  · refine .inr ⟨g', cap', cur, e1, e2, ?_, e4⟩
    have : g' = g := by simp only [Value.slice.injEq, Option.some.injEq, Addr.mk.injEq] at e1; exact e1.1.1.symm
    subst this
    rw [e]; exact e3
theorem Own.grown {w w' : World} {row : Option Nat} {g cap : Nat} {xs : List Int} (h : Own w g cap xs) (hg : w.grownBy w' row) (hne : row ≠ some g) : Own w' g cap xs :=
  World.ownsRow.kept h hg (.inr fun e => hne e.symm)
theorem Own.alloc {w : World} {g cap : Nat} {xs : List Int} (h : Own w g cap xs) (o : Obj) : Own (w.alloc o) g cap xs := World.ownsRow.alloc h o
theorem Own.drew {w : World} {g cap : Nat} {xs : List Int} (h : Own w g cap xs) : Own w.drew g cap xs := h
theorem Own.setOther {w : World} {g cap : Nat} {xs : List Int} (h : Own w g cap xs) (a : Addr) (hne : a.block ≠ g) (u : Value) : Own (w.setCell a u) g cap xs :=
  ownsRow_setCell_other h (by simpa [Value.ownBlock] using fun e => hne e.symm) u
theorem Own.made (W : World) (n : Nat) (h : n ≤ 140737488351232) : Own (W.alloc (.cells (madeCells #[.int .i64 0] n) 3)) W.heap.size n (List.replicate n 0) := by
  have := World.ownsRow_lit (base := W.heap.size) (e := 3) (size := 1) W (madeCells #[.int .i64 0] n) n (Nat.le_refl _) (by unfold maxLen; omega) (by simp [size_madeCells])
  unfold Own
  rw [List.length_replicate]
  rw [toList_madeCells_one] at this
  simpa [ints] using this
theorem add_plain (g j : Nat) : (⟨g, 0, none⟩ : Addr).add j = ⟨g, j, none⟩ := by unfold Addr.add; split <;> simp_all
theorem Own.rd {w : World} {g cap : Nat} {xs : List Int} (h : Own w g cap xs) (hl : xs.length ≤ 140737488351232) : Rd w (some ⟨g, 0, none⟩) xs :=
  ⟨hl, fun _ => ⟨_, rfl, h.lt, fun j hj => by rw [add_plain]; exact h.cell j hj⟩⟩
theorem Own.inRd {w : World} {g cap : Nat} {xs : List Int} (h : Own w g cap xs) : xs.length ≤ cap := by
  rcases h with ⟨_, h⟩
  rcases h with h | ⟨g', cap', cur, e1, e2, e3, e4, _⟩
  · simp at h
  · have : cap = cap' := by simpa using (congrArg (fun v => match v with | .slice _ _ c => c | _ => 0) e1)
    omega

theorem below_box {w w' : World} {o : Obj} (h : Below (w.alloc o).heap.size (w.alloc o) w') : Below w.heap.size w w' :=
  ((Below.refl _ _).alloc (Nat.le_refl _) _).trans (h.mono (by simp))
theorem below_step {B : Nat} {W w1 w' : World} (h : Below B W w1) (hb : Below w1.heap.size w1 w') (hB : B ≤ w1.heap.size) : Below B W w' := h.trans (hb.mono hB)
/-- A boxed struct of three cells, known in a world, is known behind a call. -/
theorem keep3 {W w1 w' : World} {g : Nat} {a b c : Value} (hg : g < W.heap.size)
    (h : w1.cell? ⟨g, 0, none⟩ = some a ∧ w1.cell? ⟨g, 1, none⟩ = some b ∧ w1.cell? ⟨g, 2, none⟩ = some c ∧ Below W.heap.size W w1) (hb : Below w1.heap.size w1 w') :
    w'.cell? ⟨g, 0, none⟩ = some a ∧ w'.cell? ⟨g, 1, none⟩ = some b ∧ w'.cell? ⟨g, 2, none⟩ = some c ∧ Below W.heap.size W w' := by
  obtain ⟨h0, h1, h2, h3⟩ := h
  have hs := h3.size
  exact ⟨(hb.cell (by simp; omega)).trans h0, (hb.cell (by simp; omega)).trans h1, (hb.cell (by simp; omega)).trans h2, below_step h3 hb hs⟩
theorem keepB {W w1 w' : World} {g : Nat} (hg : g < W.heap.size) (h : Below W.heap.size W w1) (hb : Below w1.heap.size w1 w') :
    (∀ o, w'.cell? ⟨g, o, none⟩ = W.cell? ⟨g, o, none⟩) ∧ Below W.heap.size W w' :=
  ⟨fun o => (below_step h hb h.size).cell (p := ⟨g, o, none⟩) hg, below_step h hb h.size⟩
/-- A boxed struct of three cells reads behind whatever leaves old memory alone. -/
theorem box3 {w w1 : World} {a b c : Value} {t : TypeId} (h : Below (w.alloc (.cells #[a, b, c] t)).heap.size (w.alloc (.cells #[a, b, c] t)) w1) :
    w1.cell? ⟨w.heap.size, 0, none⟩ = some a ∧ w1.cell? ⟨w.heap.size, 1, none⟩ = some b ∧ w1.cell? ⟨w.heap.size, 2, none⟩ = some c ∧ w.heap.size + 1 ≤ w1.heap.size := by
  refine ⟨(h.cell (by simp)).trans (by simp), (h.cell (by simp)).trans (by simp), (h.cell (by simp)).trans (by simp), ?_⟩
  have := h.size
  simpa using this
/-- A row without spare room is a block that is known whole. -/
theorem Own.block {w : World} {g : Nat} {xs : List Int} (h : Own w g xs.length xs) : w.heap[g]? = some (.cells (ints xs).toArray 3 (0, 0)) := by
  rcases h with ⟨_, h⟩
  rcases h with h | ⟨g', cap', cur, e1, e2, e3, e4, e5, e6, e7⟩
  · simp at h
  · simp only [Value.slice.injEq, Option.some.injEq, Addr.mk.injEq] at e1
    obtain ⟨⟨rfl, _⟩, _, hc⟩ := e1
    rw [e3]
    have hl : cur.toList.take (xs.length * 1) = cur.toList := List.take_of_length_le (by simp; omega)
    rw [hl] at e7
    rw [← e7]
theorem Own.of {w : World} {g : Nat} {xs : List Int} (h : w.heap[g]? = some (.cells (ints xs).toArray 3 (0, 0))) (hl : xs.length ≤ 140737488351232) : Own w g xs.length xs :=
  ⟨by simp [ints], .inr ⟨g, xs.length, _, rfl, Nat.le_refl _, h, Nat.le_refl _, by unfold maxLen; omega, by simp [ints], by simp [ints, List.take_of_length_le]⟩⟩
theorem Own.cellOf {w : World} {g cap : Nat} {xs : List Int} (h : Own w g cap xs) (j : Nat) (v : Value) (hv : (ints xs)[j]? = some v) : w.cell? ⟨g, j, none⟩ = some v := by
  have hj : j < (ints xs).length := (List.getElem?_eq_some_iff.1 hv).1
  rw [World.ownsRow.cellAt h j (by simp [ints] at hj; omega), hv]
theorem ints_take {xs : List Int} {k j : Nat} {v : Value} (h : (ints (xs.take k))[j]? = some v) : (ints xs)[j]? = some v := by
  rw [ints, List.map_take, List.getElem?_take] at h
  split at h
  · exact h
  · simp at h
theorem ints_one (xs : List Int) : ∀ v ∈ ints xs, v.oneCell' = true := by
  intro v hv
  obtain ⟨x, _, rfl⟩ := List.mem_map.1 hv
  rfl
theorem bcell {W w1 : World} (hb : Below W.heap.size W w1) : (∀ b o, b < W.heap.size → w1.cell? ⟨b, o, none⟩ = W.cell? ⟨b, o, none⟩) ∧ (∀ b o, b < W.heap.size → w1.frozen? ⟨b, o, none⟩ = W.frozen? ⟨b, o, none⟩) :=
  ⟨fun b o h => hb.cell (p := ⟨b, o, none⟩) h, fun b o h => hb.frozen (p := ⟨b, o, none⟩) h⟩
/-- It returns a bool that is true just if p holds; old memory is as it was. -/
def BoolIs (p : Prop) (w : World) (e : Ending) (w' : World) : Prop := ∃ b, e = .returned (.bool b) ∧ (b = true ↔ p) ∧ Below w.heap.size w w'
theorem BoolIs.yes {p : Prop} {w w' : World} (h : p) (hb : Below w.heap.size w w') : BoolIs p w (.returned (.bool true)) w' := ⟨true, rfl, ⟨fun _ => h, fun _ => rfl⟩, hb⟩
theorem BoolIs.no {p : Prop} {w w' : World} (h : ¬ p) (hb : Below w.heap.size w w') : BoolIs p w (.returned (.bool false)) w' := ⟨false, rfl, ⟨fun h => (Bool.false_ne_true h).elim, fun h2 => absurd h2 h⟩, hb⟩
theorem ret_int {k : IntKind} {a b : Int} (h : a = b) : Ending.returned (.int k a) = .returned (.int k b) := by rw [h]

end Go.Proofs.Ytjbfccconjjofaa
