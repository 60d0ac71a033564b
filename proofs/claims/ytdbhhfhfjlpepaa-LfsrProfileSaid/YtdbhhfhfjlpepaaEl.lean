/- The field's functions over its elements. -/
import Derived.Test.YtdbhhfhfjlpepaaScale
import Derived.Test.YtdbhhfhfjlpepaaLf
namespace Go.Proofs.Ytdbhhfhfjlpepaa
open Go.RowKit

/-- A field that New has made, of the description S. -/
def FldAt (w : World) (g : Nat) (S : FS) : Prop := ∃ q ex lg p, GFat w g S.P S.M S.mod q ex lg ∧ Made S.P S.M S.mod q p ex lg
theorem FldAt.below {w w' : World} {g : Nat} {S : FS} (h : FldAt w g S) (hb : Below w.heap.size w w') : FldAt w' g S := by
  obtain ⟨q, ex, lg, p, h1, h2⟩ := h
  exact ⟨q, ex, lg, p, h1.below hb, h2⟩
variable {S : FS} {q : Nat} {p : Int} {ex lg : List Int}
theorem Made.sfs (h : Made S.P S.M S.mod q p ex lg) : h.fs = S := rfl
theorem Made.sq (h : Made S.P S.M S.mod q p ex lg) : S.q = q := h.fq
theorem Made.sel (h : Made S.P S.M S.mod q p ex lg) (v : Int) : (h.el v : El S) = S.el v := El.eq (by show inn q v = inn S.q v; rw [h.sq])
theorem Made.sdom (h : Made S.P S.M S.mod q p ex lg) : El.Dom S := h.dom
theorem Made.fermat {P : Int} {M : Nat} {mod : List Int} (h : Made P M mod q p ex lg) (b : El h.fs) (hb : b ≠ 0) : El.pow b (q - 1) = 1 := by
  obtain ⟨i, _, _, he⟩ := h.log_at b hb
  rw [← he, ← El.pow_mul, Nat.mul_comm, El.pow_mul, h.g_one, El.one_pow]
theorem Made.sinv (h : Made S.P S.M S.mod q p ex lg) : S.Inverts := by
  intro b hb
  have h2 := h.q2
  have e1 : El.pow b (q - 1) = 1 := h.fermat b hb
  unfold FS.inv
  rw [h.sq, ← e1, show q - 1 = q - 2 + 1 by omega]; rfl
theorem Made.sinve {P : Int} {M : Nat} {mod : List Int} (h : Made P M mod q p ex lg) (b : El h.fs) (hb : b ≠ 0) : ∃ c : El h.fs, ginv q ex lg b.1 = c.1 ∧ c * b = 1 := h.inv b hb
theorem FldAt.inv {w : World} {g : Nat} (h : FldAt w g S) : S.Inverts := by
  obtain ⟨q, ex, lg, p, _, h2⟩ := h; exact h2.sinv
theorem FldAt.dom {w : World} {g : Nat} (h : FldAt w g S) : El.Dom S := by
  obtain ⟨q, ex, lg, p, _, h2⟩ := h; exact h2.sdom

theorem eIs (g : Nat) (S : FS) (x : Int) (w : World) (h : FldAt w g S) :
    Calls Try.prog 55 #[.pointer (some ⟨g, 0, none⟩), .int .i64 x] w fun e w' => BoolIs (0 ≤ x ∧ x < S.q) w e w' := by
  obtain ⟨q, ex, lg, p, h1, h2⟩ := h
  have := gfIs_calls g S.P S.M S.mod q ex lg x w h1
  rwa [← h2.sq] at this
theorem eAdd (g : Nat) (S : FS) (x y : Int) (w : World) (h : FldAt w g S) :
    Calls Try.prog 36 #[.pointer (some ⟨g, 0, none⟩), .int .i64 x, .int .i64 y] w fun e w' => e = .returned (.int .i64 (S.el x + S.el y).1) ∧ Below w.heap.size w w' := by
  obtain ⟨q, ex, lg, p, h1, h2⟩ := h
  have := gfAdd_calls g S.P S.M S.mod q ex lg p x y w h1 h2
  rwa [h2.addv, h2.sel, h2.sel] at this
theorem eMul (g : Nat) (S : FS) (x y : Int) (w : World) (h : FldAt w g S) :
    Calls Try.prog 58 #[.pointer (some ⟨g, 0, none⟩), .int .i64 x, .int .i64 y] w fun e w' => e = .returned (.int .i64 (S.el x * S.el y).1) ∧ Below w.heap.size w w' := by
  obtain ⟨q, ex, lg, p, h1, h2⟩ := h
  have := gfMul_calls g S.P S.M S.mod q ex lg p x y w h1 h2
  rwa [h2.mulv, h2.sel, h2.sel] at this
theorem eNeg (g : Nat) (S : FS) (x : Int) (w : World) (h : FldAt w g S) :
    Calls Try.prog 37 #[.pointer (some ⟨g, 0, none⟩), .int .i64 x] w fun e w' => e = .returned (.int .i64 (-(S.el x)).1) ∧ Below w.heap.size w w' := by
  obtain ⟨q, ex, lg, p, h1, h2⟩ := h
  have := gfNeg_calls g S.P S.M S.mod q ex lg p x w h1 h2
  rwa [h2.negv, h2.sel] at this
theorem Made.innq (h : Made S.P S.M S.mod q p ex lg) (v : Int) : inn q v = (S.el v).1 := by
  have := h.sq
  subst this
  rfl
theorem Made.ginv_el (h : Made S.P S.M S.mod q p ex lg) (y : Int) (hy : S.el y ≠ 0) : ginv q ex lg (inn q y) = (S.inv (S.el y)).1 := by
  obtain ⟨c, hc, h1⟩ : ∃ c : El S, ginv q ex lg (S.el y).1 = c.1 ∧ c * S.el y = 1 := h.sinve (S.el y) hy
  have e2 : c = S.inv (S.el y) := by
    have h3 := h.sinv (S.el y) hy
    have : c * (S.el y * S.inv (S.el y)) = S.inv (S.el y) := by rw [← El.mul_assoc, h1, El.one_mul]
    rwa [El.mul_comm (S.el y), h3, El.mul_one] at this
  rw [h.innq, hc, e2]
theorem eDiv (g : Nat) (S : FS) (x y : Int) (w : World) (h : FldAt w g S) (hy : S.el y ≠ 0) :
    Calls Try.prog 60 #[.pointer (some ⟨g, 0, none⟩), .int .i64 x, .int .i64 y] w fun e w' => e = .returned (.tuple #[.int .i64 (S.el x * S.inv (S.el y)).1, .int .i64 0]) ∧ Below w.heap.size w w' := by
  obtain ⟨q, ex, lg, p, h1, h2⟩ := h
  have hy0 : inn q y ≠ 0 := fun e => hy (El.eq (by rw [← h2.innq, e]; rfl))
  have := gfDiv_calls g S.P S.M S.mod q ex lg p x y w h1 h2 hy0
  have e1 : gmul q ex lg (inn q x) (inn q (ginv q ex lg (inn q y))) = (S.el x * S.inv (S.el y)).1 := by
    rw [h2.ginv_el y hy, h2.mulv, h2.sel, h2.sel, S.el_of]
    rfl
  rwa [e1] at this
theorem eScale (g : Nat) (S : FS) (a : Int) (A : Option Addr) (c : Nat) (l : List Int) (w : World) (h : FldAt w g S) (hr : Rd w A l) (hl : l.length ≤ 1000) :
    Calls Try.prog 61 #[.pointer (some ⟨g, 0, none⟩), .int .i64 a, .slice A l.length c] w fun e w' => ∃ gs, e = .returned (.slice (some ⟨gs, 0, none⟩) l.length l.length) ∧ w.heap.size ≤ gs ∧ Own w' gs l.length ((List.range l.length).map fun i => (S.el a * S.sq l i).1) ∧ Below w.heap.size w w' := by
  obtain ⟨q, ex, lg, p, h1, h2⟩ := h
  have := gfScale_calls g S.P S.M S.mod q ex lg p a A c l w h1 h2 hr hl
  have e1 : scN q ex lg a l l.length = (List.range l.length).map fun i => (S.el a * S.sq l i).1 := by
    unfold scN
    congr 1
    funext i
    rw [h2.mulv, h2.sel, h2.sel]; rfl
  rwa [e1] at this

end Go.Proofs.Ytdbhhfhfjlpepaa
