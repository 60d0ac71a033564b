/- Words for the walk of the reference's rank: the rows, the boxed field, and what is older. -/
import Derived.Test.YtdbhhfhfjlpepaaRefInv
import Derived.Test.YtdbhhfhfjlpepaaRk
import Derived.Maps.AppendAt
namespace Go.Proofs.Ytdbhhfhfjlpepaa
open Go.RowKit
variable {S : FS}

/-- Block g holds the three cells of a struct. -/
def Box (W : World) (g : Nat) (a b c : Value) : Prop := W.cell? ⟨g, 0, none⟩ = some a ∧ W.cell? ⟨g, 1, none⟩ = some b ∧ W.cell? ⟨g, 2, none⟩ = some c
theorem Box.below {W W' : World} {g : Nat} {a b c : Value} (h : Box W g a b c) (hb : Below W.heap.size W W') : Box W' g a b c := by
  obtain ⟨h0, h1, h2⟩ := h
  exact ⟨(hb.cell (World.block_lt_of_cell? W _ h0)).trans h0, (hb.cell (World.block_lt_of_cell? W _ h1)).trans h1, (hb.cell (World.block_lt_of_cell? W _ h2)).trans h2⟩
theorem Box.set {W : World} {g : Nat} {a b c : Value} (h : Box W g a b c) (p : Addr) (hp : p.block ≠ g) (v : Value) : Box (W.setCell p v) g a b c := by
  have key : ∀ o u, W.cell? ⟨g, o, none⟩ = some u → (W.setCell p v).cell? ⟨g, o, none⟩ = some u := by
    intro o u hu
    rw [World.cell?_setCell_other]
    · exact hu
    · intro e
      have := congrArg Addr.block e
      first | exact hp this | exact hp this.symm
  exact ⟨key 0 _ h.1, key 1 _ h.2.1, key 2 _ h.2.2⟩

/-- What a walk of rank keeps: base is the world that is older than the rows, g the box of the field. -/
structure RkAt (S : FS) (w0 : World) (g : Nat) (x y z : Value) (R m cols : Nat) (b cp : Nat → Nat) (M : Nat → Nat → El S) (W : World) : Prop where
  mat : Mat S W R m cols b cp M
  lo : ∀ i, i < m → w0.heap.size ≤ b i ∧ b i ≠ g
  rl : w0.heap.size ≤ R ∧ R ≠ g
  box : Box W g x y z
  old : Below w0.heap.size w0 W
namespace RkAt
variable {w0 W W' : World} {g R m cols : Nat} {x y z : Value} {b cp : Nat → Nat} {M : Nat → Nat → El S}
theorem below (h : RkAt S w0 g x y z R m cols b cp M W) (hb : Below W.heap.size W W') : RkAt S w0 g x y z R m cols b cp M W' :=
  ⟨h.mat.below hb, h.lo, h.rl, h.box.below hb, below_step h.old hb h.old.size⟩
theorem congr {M' : Nat → Nat → El S} (h : RkAt S w0 g x y z R m cols b cp M W) (he : ∀ i, i < m → ∀ k, k < cols → M' i k = M i k) : RkAt S w0 g x y z R m cols b cp M' W :=
  ⟨h.mat.congr he, h.lo, h.rl, h.box, h.old⟩
theorem put (h : RkAt S w0 g x y z R m cols b cp M W) (i k : Nat) (hi : i < m) (v : El S) : RkAt S w0 g x y z R m cols b cp (fun i' k' => if i' = i ∧ k' = k then v else M i' k') (W.setCell ⟨b i, k, none⟩ (.int .i64 v.1)) :=
  ⟨h.mat.put i k hi v, h.lo, h.rl, h.box.set _ (h.lo i hi).2 _, h.old.setCell (h.lo i hi).1 _⟩
theorem swap (h : RkAt S w0 g x y z R m cols b cp M W) (r p : Nat) (hr : r < m) (hp : p < m) :
    RkAt S w0 g x y z R m cols (fun i => if i = r then b p else if i = p then b r else b i) (fun i => if i = r then cp p else if i = p then cp r else cp i) (RK.swp M r p) ((W.setCell ⟨R, r, none⟩ (.slice (some ⟨b p, 0, none⟩) cols (cp p))).setCell ⟨R, p, none⟩ (.slice (some ⟨b r, 0, none⟩) cols (cp r))) :=
  ⟨h.mat.swap r p hr hp, fun i hi => by
      show w0.heap.size ≤ (if i = r then b p else if i = p then b r else b i) ∧ (if i = r then b p else if i = p then b r else b i) ≠ g
      split
      · exact h.lo p hp
      · split
        · exact h.lo r hr
        · exact h.lo i hi, h.rl, (h.box.set _ h.rl.2 _).set _ h.rl.2 _, (h.old.setCell h.rl.1 _).setCell h.rl.1 _⟩
end RkAt
theorem RkAt.held {w0 W : World} {g R m cols : Nat} {x y z : Value} {b cp : Nat → Nat} {M : Nat → Nat → El S} (h : RkAt S w0 g x y z R m cols b cp M W) (i r k : Nat) (hi : i < m) (hr : r < m) (hk : k < cols) :
    W.cell? ⟨R, i, none⟩ = some (.slice (some ⟨b i, 0, none⟩) cols (cp i)) ∧ W.cell? ⟨R, r, none⟩ = some (.slice (some ⟨b r, 0, none⟩) cols (cp r)) ∧ W.cell? ⟨b r, k, none⟩ = some (.int .i64 (M r k).1) ∧
      W.cell? ⟨g, 0, none⟩ = some x ∧ W.cell? ⟨g, 1, none⟩ = some y ∧ W.cell? ⟨g, 2, none⟩ = some z ∧ W.frozen? ⟨b i, k, none⟩ = false ∧ W.cell? ⟨b i, k, none⟩ = some (.int .i64 (M i k).1) ∧ Below w0.heap.size w0 W :=
  ⟨h.mat.hd i hi, h.mat.hd r hr, h.mat.cell r k hr hk, h.box.1, h.box.2.1, h.box.2.2, h.mat.free i k hi, h.mat.cell i k hi hk, h.old⟩
/-- Two cells and a box of three are kept. -/
theorem keepE0 {W w' : World} {g : Nat} {a b c u v : Value} {p q : Addr} (h3 : W.cell? p = some u) (h4 : W.cell? q = some v) (h0 : W.cell? ⟨g, 0, none⟩ = some a) (h1 : W.cell? ⟨g, 1, none⟩ = some b) (h2 : W.cell? ⟨g, 2, none⟩ = some c) (hb : Below W.heap.size W w') :
    w'.cell? p = some u ∧ w'.cell? q = some v ∧ w'.cell? ⟨g, 0, none⟩ = some a ∧ w'.cell? ⟨g, 1, none⟩ = some b ∧ w'.cell? ⟨g, 2, none⟩ = some c ∧ Below W.heap.size W w' := by
  have key : ∀ (p : Addr) (u : Value), W.cell? p = some u → w'.cell? p = some u := fun p u h => (hb.cell (World.block_lt_of_cell? W _ h)).trans h
  exact ⟨key _ _ h3, key _ _ h4, key _ _ h0, key _ _ h1, key _ _ h2, hb⟩
theorem keepE {W w1 w' : World} {g : Nat} {a b c u v : Value} {p q : Addr} {t1 t2 t3 t4 t5 : Prop} (h3 : W.cell? p = some u) (h4 : W.cell? q = some v) (h0 : W.cell? ⟨g, 0, none⟩ = some a) (h1 : W.cell? ⟨g, 1, none⟩ = some b) (h2 : W.cell? ⟨g, 2, none⟩ = some c) (hb : Below w1.heap.size w1 w') (h : t1 ∧ t2 ∧ t3 ∧ t4 ∧ t5 ∧ Below W.heap.size W w1) :
    w'.cell? p = some u ∧ w'.cell? q = some v ∧ w'.cell? ⟨g, 0, none⟩ = some a ∧ w'.cell? ⟨g, 1, none⟩ = some b ∧ w'.cell? ⟨g, 2, none⟩ = some c ∧ Below W.heap.size W w' :=
  keepE0 h3 h4 h0 h1 h2 (below_step h.2.2.2.2.2 hb h.2.2.2.2.2.size)
theorem belowE {W w1 : World} {t1 t2 t3 t4 t5 : Prop} (h : t1 ∧ t2 ∧ t3 ∧ t4 ∧ t5 ∧ Below W.heap.size W w1) : Below W.heap.size W w1 := h.2.2.2.2.2
/-- The same for some rows. -/
def RkSt (S : FS) (w0 : World) (g : Nat) (x y z : Value) (R m cols : Nat) (M : Nat → Nat → El S) (W : World) : Prop := ∃ b cp, RkAt S w0 g x y z R m cols b cp M W
namespace RK
/-- The rows below r whose numbers are less than i are struck. -/
def upto (r c i : Nat) (M : Nat → Nat → El S) (i' k : Nat) : El S := if r < i' ∧ i' < i then M i' k + -(M i' c * S.inv (M r c) * M r k) else M i' k
theorem upto_start (r c : Nat) (M : Nat → Nat → El S) : upto r c (r + 1) M = M := by
  funext i' k; unfold upto; rw [if_neg (by omega)]
theorem upto_all (m r c : Nat) (M : Nat → Nat → El S) : upto r c m M = strike m r c M := rfl
theorem upto_row (r c i : Nat) (M : Nat → Nat → El S) (i' k : Nat) (h : i ≤ i') : upto r c i M i' k = M i' k := by unfold upto; rw [if_neg (by omega)]
theorem upto_top (r c i : Nat) (M : Nat → Nat → El S) (k : Nat) : upto r c i M r k = M r k := by unfold upto; rw [if_neg (by omega)]
/-- While row i is struck. -/
def mid (r c i k : Nat) (a : El S) (M : Nat → Nat → El S) (i' j : Nat) : El S := if i' = i then part r c k a M i j else upto r c i M i' j
theorem mid_start (r c i : Nat) (a : El S) (M : Nat → Nat → El S) : mid r c i c a M = upto r c i M := by
  funext i' j; unfold mid
  split
  · rename_i e; subst e; rw [part_start, upto_row _ _ _ _ _ _ (Nat.le_refl _)]
  · rfl
theorem mid_next (r c i k : Nat) (a : El S) (M : Nat → Nat → El S) (hk : c ≤ k) : mid r c i (k + 1) a M = fun i' j => if i' = i ∧ j = k then M i k + -(a * M r k) else mid r c i k a M i' j := by
  funext i' j; unfold mid
  by_cases e : i' = i
  · rw [if_pos e, part_next _ _ _ _ _ _ _ hk]
    by_cases e2 : j = k
    · rw [if_pos e2, if_pos ⟨e, e2⟩]
    · rw [if_neg e2, if_neg (fun h => e2 h.2), if_pos e]
  · rw [if_neg e, if_neg (fun h => e h.1), if_neg e]
theorem mid_done (r c i k : Nat) (a : El S) (M : Nat → Nat → El S) (hk : c ≤ k) : mid r c i (k + 1) a M i k = M i k + -(a * M r k) :=
  (congrFun (congrFun (mid_next r c i k a M hk) i) k).trans (if_pos ⟨rfl, rfl⟩)
theorem mid_top (r c i k : Nat) (a : El S) (M : Nat → Nat → El S) (j : Nat) (h : r < i) : mid r c i k a M r j = M r j := by
  unfold mid; rw [if_neg (by omega), upto_top]
theorem mid_at (r c i k : Nat) (a : El S) (M : Nat → Nat → El S) : mid r c i k a M i k = M i k := by
  unfold mid part; rw [if_pos rfl, if_neg (by omega)]
theorem mid_all {r c i n : Nat} {M : Nat → Nat → El S} (hz : ∀ j, j < c → M r j = 0) (hr : r < i) (i' j : Nat) (hj : j < n) : upto r c (i + 1) M i' j = mid r c i n (M i c * S.inv (M r c)) M i' j := by
  unfold mid
  by_cases e : i' = i
  · subst e
    rw [if_pos rfl, part_all (m := i' + 1) hz _ _ hr (by omega) hj]; rfl
  · rw [if_neg e]; unfold upto
    by_cases h : r < i' ∧ i' < i
    · rw [if_pos h, if_pos (by omega)]
    · rw [if_neg h, if_neg (by omega)]
end RK

end Go.Proofs.Ytdbhhfhfjlpepaa

/- Words for the reference's system: a slice of rows that grows. -/
namespace Go.Proofs.Ytdbhhfhfjlpepaa
open Go.RowKit
variable {S : FS}

theorem info_ints : (Try.prog.info? 22).map (fun i => (i.zero, i.size, i.bytes)) = some (some (.slice none 0 0), 1, 24) := by kernel_rfl
/-- 'append(v, u)', u in a new block of its own, v nil or a row of the call's own. -/
theorem wp_grow1 {o : Oper} {a : Act} {W : World} {K : Act → World → Prop} {Q : Exit → Act → World → Prop} (t e : TypeId) (ht : Try.prog.underlying t = some (.slice e)) (z : Value) (bytes : Nat)
    (hz : (Try.prog.info? e).map (fun i => (i.zero, i.size, i.bytes)) = some (some z, 1, bytes)) (hzc : z.cells.size = 1) (hby : bytes ≤ 24) (s x : Operand)
    (ho : o.op = .call { callee := .builtin .append, args := #[s, x], argTypes := #[t, t] }) (B : Nat) (v : Value) (n : Nat) (xs : List Value) (u : Value) (hs : a.eval s = v) (H : Nat)
    (hx : a.eval x = .slice (some ⟨H, 0, none⟩) 1 1) (hc : W.cell? ⟨H, 0, none⟩ = some u) (hu : u.oneCell' = true) (hown : W.ownsRow B e 1 v n xs) (hl : n ≤ 10000) (hB : B ≤ W.heap.size)
    (h : ∀ v' w', w'.ownsRow B e 1 v' (n + 1) (xs ++ [u]) → W.grownBy w' v.ownBlock → (v'.ownBlock = v.ownBlock ∨ v'.ownBlock = some W.heap.size) → K (a.put o.dst v') w') :
    Oper.wp Try.prog o a W K Q := by
  obtain ⟨i0, hi, hz0, hz1, hz2⟩ := info_parts hz
  have hb2 : (n + 1) * bytes ≤ 10001 * 24 := Nat.mul_le_mul (by omega) hby
  obtain ⟨v', w', hr, h2, h3, _, h5⟩ := run_append_own_at (P := Try.prog) W B t o.type e i0 z 1 bytes ht hi hz0 hz1 hz2 hzc (by decide) v n xs hown ⟨H, 0, none⟩ 1 1 [u] rfl
    (fun j y hj => by
      cases j with
      | zero => simp at hj; subst hj; rw [show (⟨H, 0, none⟩ : Addr).add 0 = ⟨H, 0, none⟩ from by unfold Addr.add; split <;> simp_all]; exact hc
      | succ j => simp at hj) (by simpa using hu) (by unfold maxLen; omega) (by omega) hB
  unfold Oper.wp execOp
  simp only [ho, resolve, invoke, builtin, Sem.run_bind, Sem.run_pure, Result.andThen_ok, List.map_toArray, List.map_cons, List.map_nil, hs, hx, hr]
  exact h v' w' h2 h3 h5
theorem step_grow1 {ops : Array Oper} {o : Oper} {a : Act} {W : World} {K : Act → World → Prop} {Q : Exit → Act → World → Prop} {E : Prop} (hgd : o.guard = none) (s x : Operand)
    (ho : o.op = .call { callee := .builtin .append, args := #[s, x], argTypes := #[22, 22] }) (B : Nat) (v : Value) (n : Nat) (xs : List Value) (u : Int) (hs : a.eval s = v) (H : Nat)
    (hx : a.eval x = .slice (some ⟨H, 0, none⟩) 1 1) (hc : W.cell? ⟨H, 0, none⟩ = some (.int .i64 u)) (hown : W.ownsRow B 3 1 v n xs) (hl : n ≤ 10000) (hB : B ≤ W.heap.size)
    (h : ∀ v' w', w'.ownsRow B 3 1 v' (n + 1) (xs ++ [.int .i64 u]) → W.grownBy w' v.ownBlock → (v'.ownBlock = v.ownBlock ∨ v'.ownBlock = some W.heap.size) → K (a.put o.dst v') w') :
    if Region.wanted o (yielded ops a.tmps) = true then Oper.wp Try.prog o a W K Q else E := by
  have hw : Region.wanted o (yielded ops a.tmps) = true := by simp [Region.wanted, hgd]
  rw [if_pos hw]
  exact wp_grow1 22 3 Try.underlying22 (.int .i64 0) 8 info_int rfl (by decide) s x ho B v n xs (.int .i64 u) hs H hx hc rfl hown hl hB h
theorem wpList_growL {ops : Array Oper} {rest : List Oper} {o : Oper} {a : Act} {W : World} {Q : Exit → Act → World → Prop} (hgd : o.guard = none) (s x : Operand)
    (ho : o.op = .call { callee := .builtin .append, args := #[s, x], argTypes := #[53, 53] }) (B : Nat) (v : Value) (n : Nat) (xs : List Value) (u : Value) (hs : a.eval s = v) (H : Nat)
    (hx : a.eval x = .slice (some ⟨H, 0, none⟩) 1 1) (hc : W.cell? ⟨H, 0, none⟩ = some u) (hu : u.oneCell' = true) (hown : W.ownsRow B 22 1 v n xs) (hl : n ≤ 10000) (hB : B ≤ W.heap.size)
    (h : ∀ v' w', w'.ownsRow B 22 1 v' (n + 1) (xs ++ [u]) → W.grownBy w' v.ownBlock → (v'.ownBlock = v.ownBlock ∨ v'.ownBlock = some W.heap.size) → wpList Try.prog ops Q rest (a.put o.dst v') w') :
    wpList Try.prog ops Q (o :: rest) a W :=
  wpList_plain hgd fun _ hK => wp_grow1 53 22 Try.underlying53 (.slice none 0 0) 24 info_ints rfl (by decide) s x ho B v n xs u hs H hx hc hu hown hl hB fun v' w' h1 h2 h3 => hK _ _ (h v' w' h1 h2 h3)

theorem ownsRow_below {w w' : World} {B B' n : Nat} {e : TypeId} {v : Value} {xs : List Value} (h : w.ownsRow B e 1 v n xs) (hb : Below B' w w') (hB : w.heap.size ≤ B') : w'.ownsRow B e 1 v n xs := by
  refine ⟨h.1, ?_⟩
  rcases h.2 with hn | ⟨g, cap, cur, rfl, hg, hgg, rest⟩
  · exact .inl hn
  · exact .inr ⟨g, cap, cur, rfl, hg, (hb.block g (by have := (Array.getElem?_eq_some_iff.1 hgg).1; omega)).trans hgg, rest⟩
theorem ownsRow_one {w : World} {B n : Nat} {v : Value} {xs : List Value} {e : TypeId} (h : w.ownsRow B e 1 v n xs) : v.oneCell' = true := by
  rcases h.2 with ⟨rfl, _⟩ | ⟨g, cap, cur, rfl, _⟩ <;> rfl
theorem ownsRow_slice {w : World} {B n : Nat} {v : Value} {xs : List Value} {e : TypeId} (h : w.ownsRow B e 1 v n xs) : ∃ A c, v = .slice A n c := by
  rcases h.2 with ⟨rfl, rfl⟩ | ⟨g, cap, cur, rfl, _⟩
  · exact ⟨none, 0, rfl⟩
  · exact ⟨_, _, rfl⟩
/-- What the system's rows so far are good for. -/
structure SysAt (S : FS) (B cols : Nat) (f : Nat → Nat → El S) (i : Nat) (v : Value) (vs : Nat → Value) (W : World) : Prop where
  out : W.ownsRow B 22 1 v i ((List.range i).map vs)
  row : ∀ j, j < i → W.ownsRow B 3 1 (vs j) cols (ints (S.row (f j) cols))
  ap : ∀ j, j < i → ∀ b, (vs j).ownBlock = some b → v.ownBlock ≠ some b
  inj : ∀ j k, j < i → k < i → j ≠ k → ∀ b, (vs j).ownBlock = some b → (vs k).ownBlock ≠ some b
namespace SysAt
variable {B cols : Nat} {f : Nat → Nat → El S} {i : Nat} {v : Value} {vs : Nat → Value} {W W' : World}
theorem zero (W : World) (f : Nat → Nat → El S) (vs : Nat → Value) : SysAt S B cols f 0 (.slice none 0 0) vs W :=
  ⟨World.ownsRow_nil _ _ _ _, fun _ h => absurd h (by omega), fun _ h => absurd h (by omega), fun _ _ h => absurd h (by omega)⟩
theorem below (h : SysAt S B cols f i v vs W) {B' : Nat} (hb : Below B' W W') (hB : W.heap.size ≤ B') : SysAt S B cols f i v vs W' :=
  ⟨ownsRow_below h.out hb hB, fun j hj => ownsRow_below (h.row j hj) hb hB, h.ap, h.inj⟩
theorem mono_row {w : World} {B B' n : Nat} {e : TypeId} {v : Value} {xs : List Value} (h : w.ownsRow B' e 1 v n xs) (hB : B ≤ B') : w.ownsRow B e 1 v n xs := by
  refine ⟨h.1, ?_⟩
  rcases h.2 with hn | ⟨g, cap, cur, rfl, hg, rest⟩
  · exact .inl hn
  · exact .inr ⟨g, cap, cur, rfl, by omega, rest⟩
/-- One row more: u is the new row, of blocks from B' on; v' is what the append leaves. -/
theorem next {W1 W2 : World} {B' : Nat} {u v' : Value} (h : SysAt S B cols f i v vs W) (hb : Below W.heap.size W W1) (hB : B ≤ B') (hB2 : W.heap.size ≤ B') (hu : W1.ownsRow B' 3 1 u cols (ints (S.row (f i) cols)))
    (hv : W2.ownsRow B 22 1 v' (i + 1) ((List.range i).map vs ++ [u])) (hg : W1.grownBy W2 v.ownBlock) (ho : v'.ownBlock = v.ownBlock ∨ ∃ k, W1.heap.size ≤ k ∧ v'.ownBlock = some k) :
    SysAt S B cols f (i + 1) v' (fun j => if j = i then u else vs j) W2 := by
  have h1 := h.below hb (Nat.le_refl _)
  have hvu : ∀ b, u.ownBlock = some b → v.ownBlock ≠ some b := fun b e1 e2 => by
    have := hu.lt b e1
    have := h.out.lt b e2
    omega
  have hold : ∀ j, j < i → ∀ b, (vs j).ownBlock = some b → b < W.heap.size := fun j hj b e => ((h.row j hj).lt b e).2
  have hkeep : ∀ (x : Value) (B0 n : Nat) (xs : List Value), W1.ownsRow B0 3 1 x n xs → (∀ b, x.ownBlock = some b → v.ownBlock ≠ some b) → W2.ownsRow B0 3 1 x n xs := by
    intro x B0 n xs hx hne
    refine hx.kept hg ?_
    cases e : x.ownBlock with
    | none => exact .inl rfl
    | some b => exact .inr fun e2 => hne b e e2.symm
  refine ⟨?_, fun j hj => ?_, fun j hj b e => ?_, fun j k hj hk hne b e => ?_⟩
  · have : (List.range (i + 1)).map (fun j => if j = i then u else vs j) = (List.range i).map vs ++ [u] := by
      rw [List.range_succ, List.map_append]
      congr 1
      · refine List.map_congr_left fun j hj => ?_
        have := List.mem_range.1 hj
        rw [if_neg (by omega)]
      · simp
    rw [this]; exact hv
  · show W2.ownsRow B 3 1 (if j = i then u else vs j) cols _
    by_cases e : j = i
    · rw [if_pos e, e]; exact hkeep _ _ _ _ (mono_row hu hB) hvu
    · rw [if_neg e]; exact hkeep _ _ _ _ (h1.row j (by omega)) (h1.ap j (by omega))
  · replace e : (if j = i then u else vs j).ownBlock = some b := e
    have hlt : b < W1.heap.size ∧ v.ownBlock ≠ some b := by
      by_cases e2 : j = i
      · rw [if_pos e2] at e; exact ⟨(hu.lt b e).2, hvu b e⟩
      · rw [if_neg e2] at e; exact ⟨((h1.row j (by omega)).lt b e).2, h1.ap j (by omega) b e⟩
    rcases ho with ho | ⟨k, hk, ho⟩
    · rw [ho]; exact hlt.2
    · rw [ho]; intro e3; have : k = b := by simpa using e3
      omega
  · replace e : (if j = i then u else vs j).ownBlock = some b := e
    show (if k = i then u else vs k).ownBlock ≠ some b
    by_cases e2 : j = i
    · rw [if_pos e2] at e
      rw [if_neg (by omega)]
      intro e3
      have := hu.lt b e
      have := hold k (by omega) b e3
      omega
    · rw [if_neg e2] at e
      by_cases e4 : k = i
      · rw [if_pos e4]
        intro e3
        have := hu.lt b e3
        have := hold j (by omega) b e
        omega
      · rw [if_neg e4]; exact h.inj j k (by omega) (by omega) hne b e
end SysAt
/-- Rows that rank may take: none at all, rows of no length, or a matrix in new memory. -/
def RowsAt (S : FS) (w0 W : World) (A : Option Addr) (m cols : Nat) (M : Nat → Nat → El S) : Prop :=
  m = 0 ∨ cols = 0 ∨ ∃ R b cp, A = some ⟨R, 0, none⟩ ∧ Mat S W R m cols b cp M ∧ w0.heap.size ≤ R ∧ R < W.heap.size ∧ ∀ i, i < m → w0.heap.size ≤ b i ∧ b i < W.heap.size
theorem RowsAt.below {w0 W W' : World} {A : Option Addr} {m cols : Nat} {M : Nat → Nat → El S} (h : RowsAt S w0 W A m cols M) (hb : Below W.heap.size W W') : RowsAt S w0 W' A m cols M := by
  rcases h with h | h | ⟨R, b, cp, h1, h2, h3, h4, h5⟩
  · exact .inl h
  · exact .inr (.inl h)
  · have := hb.size
    exact .inr (.inr ⟨R, b, cp, h1, h2.below hb, h3, by omega, fun i hi => ⟨(h5 i hi).1, by have := (h5 i hi).2; omega⟩⟩)
theorem RowsAt.old {w0 w1 W : World} {A : Option Addr} {m cols : Nat} {M : Nat → Nat → El S} (h : RowsAt S w0 W A m cols M) (hs : w1.heap.size ≤ w0.heap.size) : RowsAt S w1 W A m cols M := by
  rcases h with h | h | ⟨R, b, cp, h1, h2, h3, h4, h5⟩
  · exact .inl h
  · exact .inr (.inl h)
  · exact .inr (.inr ⟨R, b, cp, h1, h2, by omega, h4, fun i hi => ⟨by have := (h5 i hi).1; omega, (h5 i hi).2⟩⟩)
theorem SysAt.rows {w0 W : World} {B cols : Nat} {f : Nat → Nat → El S} {i : Nat} {v : Value} {vs : Nat → Value} (h : SysAt S B cols f i v vs W) (hB : w0.heap.size ≤ B) : ∃ A c, v = .slice A i c ∧ RowsAt S w0 W A i cols f := by
  rcases h.out.2 with ⟨rfl, rfl⟩ | ⟨R, cap, cur, rfl, hR, hgg, hcap, _⟩
  · exact ⟨none, 0, rfl, .inl rfl⟩
  · refine ⟨some ⟨R, 0, none⟩, cap, rfl, ?_⟩
    by_cases hc : cols = 0
    · exact .inr (.inl hc)
    · have hrow : ∀ j, ∃ p : Nat × Nat, j < i → vs j = .slice (some ⟨p.1, 0, none⟩) cols p.2 ∧ Own W p.1 p.2 (S.row (f j) cols) ∧ B ≤ p.1 := by
        intro j
        by_cases hj : j < i
        · have h1 := h.row j hj
          rcases h1 with ⟨e0, h2⟩
          rcases h2 with ⟨_, h2⟩ | ⟨g, cap', cur', e1, e2, e3⟩
          · exact absurd h2 hc
          · refine ⟨(g, cap'), fun _ => ⟨e1, ?_, e2⟩⟩
            unfold Own
            rw [FS.row_length]
            exact ⟨e0, .inr ⟨g, cap', cur', rfl, Nat.le_refl _, e3⟩⟩
        · exact ⟨(0, 0), fun h => absurd h hj⟩
      obtain ⟨p, hp⟩ := Classical.axiomOfChoice hrow
      refine .inr (.inr ⟨R, fun j => (p j).1, fun j => (p j).2, rfl, ⟨fun j hj => ?_, fun j _ => h.out.frozenAt j, fun j hj => (hp j hj).2.1, fun j hj => ?_, fun j k hj hk hne => ?_⟩, by omega, (Array.getElem?_eq_some_iff.1 hgg).1, fun j hj => ⟨by have := (hp j hj).2.2; show w0.heap.size ≤ (p j).1; omega, (hp j hj).2.1.lt⟩⟩)
      · have := h.out.cellAt j (by omega)
        rw [this, ← (hp j hj).1]
        simp [hj]
      · intro e
        have := h.ap j hj (p j).1 (by rw [(hp j hj).1]; rfl)
        rw [e] at this
        exact this rfl
      · intro e
        have := h.inj j k hj hk hne (p j).1 (by rw [(hp j hj).1]; rfl)
        rw [(hp k hk).1] at this
        exact this (by rw [e]; rfl)
theorem keepQG {W w1 w4 : World} {g : Nat} {a b c u : Value} {x : Addr} {p q r s : Prop} {row : Option Nat} (h3 : W.cell? x = some u) (h0 : W.cell? ⟨g, 0, none⟩ = some a) (h1 : W.cell? ⟨g, 1, none⟩ = some b) (h2 : W.cell? ⟨g, 2, none⟩ = some c) (h : p ∧ q ∧ r ∧ s ∧ Below W.heap.size W w1) (hg : w1.grownBy w4 row) (hr : ∀ k, row = some k → W.heap.size ≤ k) :
    w4.cell? x = some u ∧ w4.cell? ⟨g, 0, none⟩ = some a ∧ w4.cell? ⟨g, 1, none⟩ = some b ∧ w4.cell? ⟨g, 2, none⟩ = some c ∧ Below W.heap.size W w4 :=
  keepQ h3 h0 h1 h2 (h.2.2.2.2.grown hg h.2.2.2.2.size hr)
theorem keepQS {W w1 w4 : World} {g : Nat} {a b c u : Value} {x : Addr} {p q r s : Prop} (h3 : W.cell? x = some u) (h0 : W.cell? ⟨g, 0, none⟩ = some a) (h1 : W.cell? ⟨g, 1, none⟩ = some b) (h2 : W.cell? ⟨g, 2, none⟩ = some c) (h : p ∧ q ∧ r ∧ s ∧ Below W.heap.size W w1) (hb : Below w1.heap.size w1 w4) :
    w4.cell? x = some u ∧ w4.cell? ⟨g, 0, none⟩ = some a ∧ w4.cell? ⟨g, 1, none⟩ = some b ∧ w4.cell? ⟨g, 2, none⟩ = some c ∧ Below W.heap.size W w4 :=
  keepQ h3 h0 h1 h2 (below_step h.2.2.2.2 hb h.2.2.2.2.size)
theorem keepQA {W w1 : World} {g : Nat} {a b c u : Value} {x : Addr} {p q r s : Prop} {o : Obj} (h3 : W.cell? x = some u) (h0 : W.cell? ⟨g, 0, none⟩ = some a) (h1 : W.cell? ⟨g, 1, none⟩ = some b) (h2 : W.cell? ⟨g, 2, none⟩ = some c) (h : p ∧ q ∧ r ∧ s ∧ Below W.heap.size W w1) :
    (w1.alloc o).cell? x = some u ∧ (w1.alloc o).cell? ⟨g, 0, none⟩ = some a ∧ (w1.alloc o).cell? ⟨g, 1, none⟩ = some b ∧ (w1.alloc o).cell? ⟨g, 2, none⟩ = some c ∧ Below W.heap.size W (w1.alloc o) :=
  keepQ h3 h0 h1 h2 (h.2.2.2.2.alloc h.2.2.2.2.size o)
theorem FS.row_snoc (f : Nat → El S) (n : Nat) : S.row f (n + 1) = S.row f n ++ [(f n).1] := by
  unfold FS.row
  rw [List.range_succ, List.map_append]; rfl
theorem FS.ints_row_snoc (f : Nat → El S) (n : Nat) (x : Int) (h : x = (f n).1) : ints (S.row f n) ++ [.int .i64 x] = ints (S.row f (n + 1)) := by
  rw [FS.row_snoc, h]; simp [ints]

end Go.Proofs.Ytdbhhfhfjlpepaa
