/- The elements are yielded in ascending order: the walk of the law. -/
import Derived.Test.YtjbfccconjjofaaElem
import Derived.Test.YtjbfccconjjofaaLawKit
import Derived.Test.YtjbfccconjjofaaRefPow
namespace Go.Proofs.Ytjbfccconjjofaa
open Go.RowKit Go.Shelf
attribute [local go_sem ↓] Go.wp_at_zero Go.wp_at_succ
attribute [local go_sem] Oper.semAt_some

theorem run_equalIn_func_nil {P : Program} (w : World) (d : Nat) (t : TypeId) (a b : Array TypeId) (v : Bool) (f : Fn) (x y : Array Value) (h : P.underlying t = some (.func a b v)) :
    (Op.equalIn (d + 1) t (.func f x y) .nilFunc).run P w = .ok false w := by
  simp [Op.equalIn, run_underlying h]
theorem run_eql_func_nil {P : Program} (w : World) (t : TypeId) (a b : Array TypeId) (v : Bool) (f : Fn) (x y : Array Value) (h : P.underlying t = some (.func a b v)) :
    (binOp .eql t (.func f x y) .nilFunc).run P w = .ok (.bool false) w := by
  simp only [binOp]
  simp [Op.equal, Op.maxDepth, run_equalIn_func_nil w 9999 t a b v f x y h]
theorem cellUp {W : World} {a : Addr} {v : Value} (o : Obj) (h : W.cell? a = some v) : (W.alloc o).cell? a = some v := (World.cell?_alloc_lt (w := W) (a := a) (o := o) (World.block_lt_of_cell? W _ h)).trans h
theorem cellNew (W : World) (v : Value) (t : TypeId) (n : Nat) (h : n = W.heap.size) : (W.alloc (.cells #[v] t)).cell? ⟨n, 0, none⟩ = some v := by subst h; simp
theorem frozenNew (W : World) (v : Value) (t : TypeId) (n : Nat) (h : n = W.heap.size) : (W.alloc (.cells #[v] t)).frozen? ⟨n, 0, none⟩ = false := by subst h; simp
theorem frozenBelow {W w' : World} {a : Addr} {v : Value} (h : W.cell? a = some v) (hf : W.frozen? a = false) (hb : Below W.heap.size W w') : w'.frozen? a = false := (hb.frozen (World.block_lt_of_cell? W _ h)).trans hf
theorem keepAll {W w' : World} {g b r : Nat} {a1 a2 a3 u v : Value} (h0 : W.cell? ⟨g, 0, none⟩ = some a1) (h1 : W.cell? ⟨g, 1, none⟩ = some a2) (h2 : W.cell? ⟨g, 2, none⟩ = some a3) (h3 : W.cell? ⟨b, 0, none⟩ = some u) (h4 : W.cell? ⟨r, 0, none⟩ = some v)
    (hf : W.frozen? ⟨r, 0, none⟩ = false) (hb : Below W.heap.size W w') :
    w'.cell? ⟨g, 0, none⟩ = some a1 ∧ w'.cell? ⟨g, 1, none⟩ = some a2 ∧ w'.cell? ⟨g, 2, none⟩ = some a3 ∧ w'.cell? ⟨b, 0, none⟩ = some u ∧ w'.cell? ⟨r, 0, none⟩ = some v ∧ w'.frozen? ⟨r, 0, none⟩ = false :=
  ⟨(hb.cell (World.block_lt_of_cell? W _ h0)).trans h0, (hb.cell (World.block_lt_of_cell? W _ h1)).trans h1, (hb.cell (World.block_lt_of_cell? W _ h2)).trans h2, (hb.cell (World.block_lt_of_cell? W _ h3)).trans h3, (hb.cell (World.block_lt_of_cell? W _ h4)).trans h4, frozenBelow h4 hf hb⟩

/-- The way out behind the loop: the result's cell is stored, the mark is taken off. -/
theorem leaveM {P : Program} {fn : Func} {tmps : Array Value} {w w5 : World} {r D : Nat} (hK : w5.heap[D]? = some (.deferred (some []))) (hc : (w5.cell? ⟨r, 0, none⟩).isSome = true) (hrw : w.heap.size ≤ r) (hDw : w.heap.size ≤ D) (hb : Below w.heap.size w w5)
    (hres : ((w5.setCell ⟨r, 0, none⟩ (.bool true)).putObj D (.deferred none)).cell? ⟨r, 0, none⟩ = some (.bool true) → (results fn tmps).run P ((w5.setCell ⟨r, 0, none⟩ (.bool true)).putObj D (.deferred none)) = .ok (.bool true) ((w5.setCell ⟨r, 0, none⟩ (.bool true)).putObj D (.deferred none))) :
    bodyPostM Fence.wide 3 P fn (fun e w' => e = .returned (.bool true) ∧ Below w.heap.size w w') .ret { tmps := tmps, defers := [{ target := .collected D, args := #[] }] } (w5.setCell ⟨r, 0, none⟩ (.bool true)) := by
  have hK' := (KeepsOthers.setCell w5 ⟨r, 0, none⟩ (.bool true)).same D _ hK rfl
  refine ⟨by simp, .inl ⟨_, _, rfl, run_takeDeferred hK', ?_⟩⟩
  have hc5 := cell_kept (World.cell?_setCell_same' w5 ⟨r, 0, none⟩ (.bool true) hc) (grownBy_putObj' _ D (.deferred none)) (fun r e => by cases e; exact ⟨_, hK', rfl⟩)
  exact ⟨.bool true, hres hc5, rfl, (hb.setCell (p := ⟨r, 0, none⟩) hrw _).trans (belowK_b (w := w) (Nat.le_refl _) _ D _ _ hDw hK' rfl rfl)⟩

/-- A list of numbers is that of the first k for no k. -/
def Wild (pre : List Int) : Prop := ∀ k, pre ≠ up k
theorem up_wild {k : Nat} {x : Int} (h : x ≠ k) : Wild (up k ++ [x]) := by
  intro j e
  have h1 : k + 1 = j := by have := congrArg List.length e; simpa [up_length] using this
  subst h1
  rw [up_succ] at e
  simp at e
  exact h e

set_option maxRecDepth 100000 in
set_option maxHeartbeats 4000000 in
theorem lawElements (P M : Int) (A : Option Addr) (c : Nat) (mod : List Int) (z : Int) (w : World) (hr : Rd w A mod) (hnil : A = none → c = 0) :
    Calls Try.prog 5 #[.agg #[.int .i64 P, .int .i64 M, .slice A mod.length c], .int .i64 z] w fun e w' => e = .returned (.bool true) ∧ Below w.heap.size w w' := by
  have hu := Try.underlying24
  have HR := Lib.hid hr
  have HNIL := Lib.hid hnil
  clear hr hnil
  obtain ⟨n, HN⟩ : ∃ n, Hid (n = mod.length) := ⟨_, rfl⟩
  rw [← HN.out]
  have HMADE : Hid (∀ W1 : World, Rd W1 A mod → Calls Try.prog 18 #[.agg #[.int .i64 P, .int .i64 M, .slice A n c]] W1 fun e w' => MadeRet P M mod W1 e w') := by
    intro W1 h1; rw [HN.out]; exact made_calls P M A c mod W1 h1 HNIL.out
  have HNONE : Hid (∀ W1 : World, Rd W1 A mod → ¬ RefGood P M mod → Calls Try.prog 19 #[.agg #[.int .i64 P, .int .i64 M, .slice A n c]] W1 fun e w' => e = .returned (.bool true) ∧ Below W1.heap.size W1 w') := by
    intro W1 h1 h2; rw [HN.out]; exact none_calls P M A c mod W1 h1 HNIL.out h2
  refine (callsIn_wide (n := 3)).1 ?_
  refine callsIn_of_wp_marks Try.func5 rfl trivial ?_ rfl
  refine wpIn_wide.2 ?_
  simp only [Try.ntmps5, List.size_toArray, List.length_cons, List.length_nil, Nat.reduceAdd, Nat.reduceSub, Array.replicate_succ, Array.replicate_zero, List.push_toArray, List.append_toArray, List.nil_append, List.cons_append]
  go_wp2_with fail
  obtain ⟨W0, hW0⟩ : ∃ W0, W0 = ((w.alloc (.cells #[.int .i64 P, .int .i64 M, .slice A n c] 24)).alloc (.cells #[.int .i64 z] 3)).alloc (.cells #[.bool false] 4) := ⟨_, rfl⟩
  have hs0 : W0.heap.size = w.heap.size + 1 + 1 + 1 := by rw [hW0]; simp
  have hb0 : Below w.heap.size w W0 := by rw [hW0]; exact (((Below.refl _ w).alloc (Nat.le_refl _) _).alloc (by simp) _).alloc (by simp; omega) _
  have x0 : W0.cell? ⟨w.heap.size, 0, none⟩ = some (.int .i64 P) := by rw [hW0]; exact cellUp _ (cellUp _ (by simp))
  have x1 : W0.cell? ⟨w.heap.size, 1, none⟩ = some (.int .i64 M) := by rw [hW0]; exact cellUp _ (cellUp _ (by simp))
  have x2 : W0.cell? ⟨w.heap.size, 2, none⟩ = some (.slice A n c) := by rw [hW0]; exact cellUp _ (cellUp _ (by simp))
  have xz : W0.cell? ⟨w.heap.size + 1, 0, none⟩ = some (.int .i64 z) := by rw [hW0]; exact cellUp _ (cellNew _ _ _ _ (by simp))
  have xr : W0.cell? ⟨w.heap.size + 1 + 1, 0, none⟩ = some (.bool false) := by rw [hW0]; exact cellNew _ _ _ _ (by simp)
  have fr : W0.frozen? ⟨w.heap.size + 1 + 1, 0, none⟩ = false := by rw [hW0]; exact frozenNew _ _ _ _ (by simp)
  have HR0 := Lib.hid (HR.out.below hb0 (Nat.le_refl _))
  rw [← hW0]
  have HW0 := Lib.hid hW0
  clear hW0
  have HALL : ∀ W, Below W0.heap.size W0 W → W.cell? ⟨w.heap.size, 0, none⟩ = some (.int .i64 P) ∧ W.cell? ⟨w.heap.size, 1, none⟩ = some (.int .i64 M) ∧ W.cell? ⟨w.heap.size, 2, none⟩ = some (.slice A n c) ∧ W.cell? ⟨w.heap.size + 1, 0, none⟩ = some (.int .i64 z) ∧ W.cell? ⟨w.heap.size + 1 + 1, 0, none⟩ = some (.bool false) ∧ W.frozen? ⟨w.heap.size + 1 + 1, 0, none⟩ = false := fun W h => keepAll x0 x1 x2 xz xr fr h
  go_at_call 17
  refine (alive_calls _).mono ?_
  rintro e w1 ⟨rfl, hb1⟩
  have hk := keepAll x0 x1 x2 xz xr fr hb1
  clear x0 x1 x2 xz xr fr
  obtain ⟨x0, x1, x2, xz, xr, fr⟩ := hk
  go_wp2_with fail
  go_at_call 18
  refine (HMADE.out _ (HR0.out.below hb1 (Nat.le_refl _))).mono ?_
  rintro e w2 ⟨hret, hb2⟩
  have hk := keepAll x0 x1 x2 xz xr fr hb2
  clear x0 x1 x2 xz xr fr
  obtain ⟨x0, x1, x2, xz, xr, fr⟩ := hk
  have hb3 := below_step hb1 hb2 hb1.size
  have HB0 := Lib.hid hb0
  have HR3 := Lib.hid (HR0.out.below hb3 (Nat.le_refl _))
  have HB := Lib.hid (below_step hb0 hb3 hb0.size)
  have HB3 := Lib.hid hb3
  clear hb1 hb2 hb3 hb0
  rcases hret with ⟨v, rfl, hno⟩ | ⟨g, m, q, p, ex, lg, rfl, rfl, hg1, hg2, hg3⟩
  · have HNO := Lib.hid hno
    clear hno
    go_wp2_with fail
    go_at_call 19
    refine (HNONE.out _ HR3.out HNO.out).mono ?_
    rintro e w3 ⟨rfl, hb4⟩
    have hk := keepAll x0 x1 x2 xz xr fr hb4
    clear x0 x1 x2 xz xr fr
    obtain ⟨x0, x1, x2, xz, xr, fr⟩ := hk
    have HB4 := Lib.hid (below_step HB.out hb4 HB.out.size)
    clear hb4
    go_wp2
    have hc5 := World.cell?_setCell_same' w3 ⟨w.heap.size + 1 + 1, 0, none⟩ (.bool true) (by rw [xr]; rfl)
    exact ⟨.bool true, by simp [results, Try.f5, go_sem, hc5], rfl, HB4.out.setCell (p := ⟨w.heap.size + 1 + 1, 0, none⟩) (by simp; omega) _⟩
  · have HG2 := Lib.hid hg2
    have HG3 := Lib.hid hg3
    clear hg1 hg2 hg3
    have hq := HG3.out.q256
    have HORD := Lib.hid HG3.out.ordq
    have CR : Hid (∀ W1 : World, Calls Try.prog 25 #[.agg #[.int .i64 P, .int .i64 m, .slice A n c]] W1 fun e w' => e = .returned (.int .i64 q) ∧ Below W1.heap.size W1 w') := by
      intro W1; rw [← HORD.out]; exact refOrder_calls P m A n c W1
    go_wp2_with fail
    go_at_call 24
    refine (gfElements_calls g _).mono ?_
    rintro e w3 ⟨rfl, hel, hb4⟩
    have hk := keepAll x0 x1 x2 xz xr fr hb4
    clear x0 x1 x2 xz xr fr
    obtain ⟨x0, x1, x2, xz, xr, fr⟩ := hk
    have HBB := Lib.hid (below_step HB3.out hb4 HB3.out.size)
    have HGF := Lib.hid (HG2.out.below hb4)
    clear hb4
    have hnf : ∀ W1 : World, (binOp .eql 37 (.func (.func 59) #[] #[.pointer (some ⟨w2.heap.size, 0, none⟩)]) .nilFunc).run Try.prog W1 = .ok (.bool false) W1 := fun W1 => run_eql_func_nil W1 _ _ _ _ _ _ _ Try.underlying37
    go_wp2_with fail
    have g3 := (HGF.out.cells)
    obtain ⟨_, _, _, _, _, _, _, _, _, hqc, _, _, _, _, _, _⟩ := g3
    have HBL := Lib.hid (HBB.out.alloc HBB.out.size (.cells #[.int .i64 0] 3))
    have xn := cellNew w3 (.int .i64 0) 3 w3.heap.size rfl
    have fn := frozenNew w3 (.int .i64 0) 3 w3.heap.size rfl
    have hel2 := cellUp (.cells #[.int .i64 0] 3) hel
    have hqc2 := cellUp (.cells #[.int .i64 0] 3) hqc
    have HCU : Hid (∀ W, Below W0.heap.size W0 W → W.cell? ⟨w.heap.size, 0, none⟩ = some (.int .i64 P) ∧ W.cell? ⟨w.heap.size, 1, none⟩ = some (.int .i64 m) ∧ W.cell? ⟨w.heap.size, 2, none⟩ = some (.slice A n c) ∧ W.cell? ⟨w.heap.size + 1, 0, none⟩ = some (.int .i64 z) ∧ W.cell? ⟨w.heap.size + 1 + 1, 0, none⟩ = some (.bool false) ∧ W.frozen? ⟨w.heap.size + 1 + 1, 0, none⟩ = false) := HALL
    have hsz3 := HBB.out.size
    have HBW0 : Hid (∀ W, Below W0.heap.size W0 W → Below w.heap.size w W) := fun W h => HB0.out.trans (h.mono HB0.out.size)
    obtain ⟨WL, hWL⟩ : ∃ W, W = w3.alloc (.cells #[.int .i64 0] 3) := ⟨_, rfl⟩
    have hsL : WL.heap.size = w3.heap.size + 1 := by rw [hWL]; simp
    rw [← hWL] at HBL xn fn hel2 hqc2 ⊢
    have hnl : ∀ l : List Int, l.length < q → IntKind.i64.wrap ((l.length : Int) + 1) = ((l.length + 1 : Nat) : Int) := fun l h => by rw [IntWalk.i64_in _ (by omega)]; omega
    refine (wpIn_wide (n := 3)).1 ?_
    refine wpIn_rangeFunc_ownF (F := Fence.wide) (n := 3) rfl (by omega) (gf := 59) (lb := #[.pointer (some ⟨w2.heap.size, 0, none⟩)]) rfl trivial (enters_of Try.func59 (by kernel_rfl) rfl)
      (elements1_stops Fence.wide 2 trivial rfl (by omega) w2.heap.size g q hq.2 WL hel2 hqc2) (fun _ _ => trivial) (fun _ _ _ _ _ _ _ _ => trivial) (Below.refl _ _) (fun _ => rfl)
      (fun pre W => (W.cell? ⟨w3.heap.size, 0, none⟩ = some (.int .i64 pre.length) ∧ W.frozen? ⟨w3.heap.size, 0, none⟩ = false ∧ pre = up pre.length ∧ ∀ j : Nat, 1 ≤ j → j ≤ pre.length → (j : Int) ≠ z) ∧ Below W0.heap.size W0 W)
      (fun c pre W => (c = .ret ∧ Wild pre) ∨ (c = .exit 0 ∧ (pre.length : Int) = z ∧ 1 ≤ pre.length ∧ pre.length ≤ q ∧ W.cell? ⟨w3.heap.size, 0, none⟩ = some (.int .i64 pre.length)) ∧ Below W0.heap.size W0 W)
      (OwnFrom.and (Own.from (fun s A B row hs hg hr => ⟨cell_kept hs.1 hg hr, (frozen_kept hs.1 hg hr).trans hs.2.1, hs.2.2⟩) _) (ownFrom_below (Nat.le_refl _) (by rw [hsL]; omega)))
      (fun c s A B row hs hg hr => hs.elim .inl fun h => .inr ⟨⟨h.1.1, h.1.2.1, h.1.2.2.1, h.1.2.2.2.1, cell_kept h.1.2.2.2.2 hg (fun r e => (hr r e).2)⟩, ownFrom_below (β := Unit) (Nat.le_refl _) (by rw [hsL]; omega) () A B row h.2 hg hr⟩)
      ⟨⟨xn, fn, rfl, fun j h1 h2 => by simp at h2; omega⟩, HBL.out⟩
      (fun x => { tmps := #[.agg #[.int .i64 P, .int .i64 m, .slice A n c], .int .i64 z, .pointer (some ⟨w.heap.size, 0, none⟩), .pointer (some ⟨w.heap.size + 1, 0, none⟩), .pointer (some ⟨w.heap.size + 1 + 1, 0, none⟩), .pointer (some ⟨g, 0, none⟩), .bool true, .func (.func 59) #[] #[.pointer (some ⟨w2.heap.size, 0, none⟩)], .pointer (some ⟨w3.heap.size, 0, none⟩), .int .i64 x, undef, .bool true, .bool false, .tuple #[.pointer (some ⟨g, 0, none⟩), .bool true], .agg #[.int .i64 P, .int .i64 m, .slice A n c], .tuple #[.pointer (some ⟨g, 0, none⟩), .bool true], .pointer (some ⟨g, 0, none⟩), .bool true, .bool true, .bool false, undef, undef, .pointer (some ⟨g, 0, none⟩), .func (.func 59) #[] #[.pointer (some ⟨w2.heap.size, 0, none⟩)], .func (.func 59) #[] #[.pointer (some ⟨w2.heap.size, 0, none⟩)], .bool false, .func (.func 59) #[] #[.pointer (some ⟨w2.heap.size, 0, none⟩)], .int .i64 x, undef, undef, undef, undef, undef, undef, undef, undef, undef, undef, undef, undef, undef, undef, undef, undef, undef, undef, undef, undef, undef, undef, undef], defers := [] }) ?assign ?body ?done ?stop
    case assign =>
      intro l x W K hK
      gi_wp2
      exact hK
    case body =>
      rintro l pre x W ⟨⟨hc, hf, hpre, hst⟩, hB⟩ hlen
      obtain ⟨y0, y1, y2, yz, yr, yf⟩ := HCU.out W hB
      have hnl1 := hnl pre hlen
      have HPRE := Lib.hid hpre
      have HST := Lib.hid hst
      have HBW := Lib.hid hB
      have HLEN := Lib.hid hlen
      clear hpre hst hB hlen
      by_cases hx : x = (pre.length : Int)
      · by_cases hz : ((pre.length + 1 : Nat) : Int) = z
        · subst hx
          subst hz
          have hxx : ((pre.length : Int) == ((pre.length + 1 : Nat) : Int)) = false := by simp; omega
          gi_wp2
          exact ⟨KeepsOthers.setCell _ _ _, .inr ⟨⟨rfl, by simp, by simp, by have := HLEN.out; simp; omega, (World.cell?_setCell_same' _ _ _ (by rw [hc]; rfl)).trans (by simp)⟩, HBW.out.setCell (p := ⟨w3.heap.size, 0, none⟩) hsz3 _⟩⟩
        · subst hx
          gi_wp2
          exact ⟨KeepsOthers.setCell _ _ _, trivial, ⟨(World.cell?_setCell_same' _ _ _ (by rw [hc]; rfl)).trans (by simp), by rw [World.frozen?_setCell]; exact hf, by rw [List.length_append, List.length_singleton, up_succ, ← HPRE.out], fun j h1 h2 => by
            rw [List.length_append, List.length_singleton] at h2
            by_cases e : j = pre.length + 1
            · subst e; exact hz
            · exact HST.out j h1 (by omega)⟩, HBW.out.setCell (p := ⟨w3.heap.size, 0, none⟩) hsz3 _⟩
      · have hxn : (x == (pre.length : Int)) = false := by simp [hx]
        gi_wp2
        have hw := up_wild hx
        rw [← HPRE.out] at hw
        exact ⟨KeepsOthers.setCell _ _ _, .inl ⟨rfl, hw⟩⟩
    case done =>
      rintro D ys W hD rfl ⟨⟨hc, hf, hpre, hst⟩, hB⟩ hK
      obtain ⟨y0, y1, y2, yz, yr, yf⟩ := HCU.out W hB
      rw [up_length] at hc hst
      have HST := Lib.hid hst
      have HBW := Lib.hid hB
      clear hpre hst hB
      go_wp2_with fail
      go_at_call 25
      refine (CR.out _).mono ?_
      rintro e w5 ⟨rfl, hb5⟩
      have hk := keepAll y0 y1 y2 yz yr yf hb5
      clear y0 y1 y2 yz yr yf
      obtain ⟨y0, y1, y2, yz, yr, yf⟩ := hk
      have hc5 := (hb5.cell (World.block_lt_of_cell? W _ hc)).trans hc
      have hK5 := (hb5.block D (Array.getElem?_eq_some_iff.1 hK).1).trans hK
      have HB5 := Lib.hid (below_step HBW.out hb5 HBW.out.size)
      have hqi : (q : Int) = (q : Int) := rfl
      clear hb5 hc
      by_cases h1 : z < 1
      · go_wp2
        exact leaveM hK5 (by rw [yr]; rfl) (by omega) (by omega) (HBW0.out _ HB5.out) (fun hc6 => by simp [results, Try.f5, go_sem, hc6])
      · have h2 : (q : Int) < z := by
          rcases Int.lt_or_le (q : Int) z with h | h
          · exact h
          · exact absurd (by omega) (HST.out z.toNat (by omega) (by omega))
        go_wp2
        exact leaveM hK5 (by rw [yr]; rfl) (by omega) (by omega) (HBW0.out _ HB5.out) (fun hc6 => by simp [results, Try.f5, go_sem, hc6])
    case stop =>
      rintro D c pre W hD ⟨k, rfl⟩ hs hK
      rcases hs with ⟨rfl, hw⟩ | ⟨⟨rfl, hz, h1, h2, hc⟩, hB⟩
      · exact absurd rfl (hw k)
      obtain ⟨y0, y1, y2, yz, yr, yf⟩ := HCU.out W hB
      rw [up_length] at hc h1 h2 hz
      subst hz
      have HBW := Lib.hid hB
      clear hB
      refine (wpIn_wide (n := 3)).2 ?_
      go_wp2_with fail
      go_at_call 25
      refine (CR.out _).mono ?_
      rintro e w5 ⟨rfl, hb5⟩
      have hk := keepAll y0 y1 y2 yz yr yf hb5
      clear y0 y1 y2 yz yr yf
      obtain ⟨y0, y1, y2, yz, yr, yf⟩ := hk
      have hc5 := (hb5.cell (World.block_lt_of_cell? W _ hc)).trans hc
      have hK5 := (hb5.block D (Array.getElem?_eq_some_iff.1 hK).1).trans hK
      have HB5 := Lib.hid (below_step HBW.out hb5 HBW.out.size)
      clear hb5 hc
      have h3 : ¬ (k : Int) < 1 := by omega
      have h4 : ¬ (q : Int) < (k : Int) := by omega
      go_wp2
      exact leaveM hK5 (by rw [yr]; rfl) (by omega) (by omega) (HBW0.out _ HB5.out) (fun hc6 => by simp [results, Try.f5, go_sem, hc6])
end Go.Proofs.Ytjbfccconjjofaa
