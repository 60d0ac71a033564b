/- New of the package field: the field that it makes, as it lies in memory. -/
import Derived.Test.YtjbfccconjjofaaGener
import Derived.Laws.AppendOwnNone
import Derived.Deep.DeepCutAuto
import Derived.Deep.RegionLaw
namespace Go.Proofs.Ytjbfccconjjofaa
open Go.RowKit
attribute [local go_sem ↓] Go.wp_at_zero Go.wp_at_succ

theorem Rd.setOther {w : World} {A : Option Addr} {xs : List Int} (h : Rd w A xs) (p : Addr) (v : Value) (hne : ∀ ad, A = some ad → ad.block ≠ p.block) : Rd (w.setCell p v) A xs := by
  refine ⟨h.1, fun hp => ?_⟩
  obtain ⟨ad, e, hl, hc⟩ := h.2 hp
  refine ⟨ad, e, by simpa using hl, fun j hj => ?_⟩
  rw [World.cell?_setCell_other]
  · exact hc j hj
  · intro e2
    have h1 : (ad.add j).block = ad.block := by unfold Addr.add; split <;> rfl
    rw [← e2] at h1
    exact hne ad e h1.symm

/-- 'append([]int{}, mod...)': a copy, in a row of the call's own. -/
theorem wp_copied {o : Oper} {a : Act} {w : World} {K : Act → World → Prop} {Q : Exit → Act → World → Prop} (s x : Operand)
    (ho : o.op = .call { callee := .builtin .append, args := #[s, x], argTypes := #[22, 22] }) (b : Nat) (hs : a.eval s = .slice (some ⟨b, 0, none⟩) 0 0)
    (hblk : w.heap[b]? = some (.cells #[] 3 (0, 0))) (A : Option Addr) (n c : Nat) (mod : List Int) (hn : mod.length = n) (hx : a.eval x = .slice A n c) (hnil : A = none → c = 0) (hr : Rd w A mod) (hl : n ≤ 1000)
    (h : ∀ b' c' w', Own w' b' c' mod → w.grownBy w' (some b) → (b' = b ∨ b' = w.heap.size) → K (a.put o.dst (.slice (some ⟨b', 0, none⟩) n c')) w') :
    Oper.wp Try.prog o a w K Q := by
  obtain ⟨i0, hi, hz0, hz1, hz2⟩ := info_parts info_int
  have hlt : b < w.heap.size := (Array.getElem?_eq_some_iff.1 hblk).1
  have hown : w.ownsRow b 3 1 (.slice (some ⟨b, 0, none⟩) 0 0) 0 [] := ⟨by simp, .inr ⟨b, 0, #[], rfl, Nat.le_refl _, hblk, Nat.le_refl _, by unfold maxLen; omega, by simp, by simp⟩⟩
  subst hn
  cases A with
  | none =>
    have h0 : mod.length = 0 := by
      by_cases hp : 0 < mod.length
      · obtain ⟨ad, e, _⟩ := hr.2 hp; simp at e
      · omega
    obtain rfl := hnil rfl
    have hm : mod = [] := List.eq_nil_of_length_eq_zero h0
    rw [h0] at hx h
    have hrun := run_append_owned_none (P := Try.prog) (w := w) b 22 o.type 3 i0 1 Try.underlying22 hi (.slice (some ⟨b, 0, none⟩) 0 0) 0 [] hown
    unfold Oper.wp execOp
    simp only [ho, resolve, invoke, builtin, Sem.run_bind, Sem.run_pure, Result.andThen_ok, List.map_toArray, List.map_cons, List.map_nil, hs, hx, hrun]
    exact h b 0 w (by rw [hm]; exact hown) ⟨rfl, rfl, rfl, Nat.le_refl _, fun _ _ _ => rfl⟩ (.inl rfl)
  | some ad =>
    obtain ⟨v', w', hrun, h2, h3, _, h5⟩ := run_append_own_at (P := Try.prog) w b 22 o.type 3 i0 (.int .i64 0) 1 8 Try.underlying22 hi hz0 hz1 hz2 rfl (by decide) (.slice (some ⟨b, 0, none⟩) 0 0) 0 [] hown
      ad mod.length c (ints mod) (by simp [ints]) (fun j u hj => by
        have hj2 : j < mod.length := by have := (List.getElem?_eq_some_iff.1 hj).1; simpa [ints] using this
        obtain ⟨ad', e, _, hc⟩ := hr.2 (by omega)
        obtain rfl : ad = ad' := by simpa using e
        rw [hc j hj2]
        rw [← hj]
        simp [ints, List.getElem?_eq_getElem hj2, List.getD_eq_getElem?_getD]) (ints_one _) (by unfold maxLen; omega) (by omega) (by omega)
    have hv : ∃ b' c', v' = .slice (some ⟨b', 0, none⟩) mod.length c' ∧ Own w' b' c' mod := by
      rcases h2 with ⟨k1, k2⟩
      rcases k2 with ⟨rfl, k2⟩ | ⟨g, cap, cur, e1, e2, e3⟩
      · simp [Value.ownBlock] at h5
      · refine ⟨g, cap, by rw [e1, Nat.zero_add], ?_⟩
        rw [Nat.zero_add] at e3
        exact ⟨by simp [ints], .inr ⟨g, cap, cur, rfl, Nat.le_refl _, by simpa using e3⟩⟩
    obtain ⟨b', c', rfl, ho2⟩ := hv
    unfold Oper.wp execOp
    simp only [ho, resolve, invoke, builtin, Sem.run_bind, Sem.run_pure, Result.andThen_ok, List.map_toArray, List.map_cons, List.map_nil, hs, hx, hrun]
    exact h b' c' w' ho2 (by simpa [Value.ownBlock] using h3) (by simpa [Value.ownBlock] using h5)

theorem step_copied {ops : Array Oper} {o : Oper} {a : Act} {w : World} {K : Act → World → Prop} {Q : Exit → Act → World → Prop} {E : Prop} (hgd : o.guard = none) (s x : Operand)
    (ho : o.op = .call { callee := .builtin .append, args := #[s, x], argTypes := #[22, 22] }) (b : Nat) (hs : a.eval s = .slice (some ⟨b, 0, none⟩) 0 0)
    (hblk : w.heap[b]? = some (.cells #[] 3 (0, 0))) (A : Option Addr) (n c : Nat) (mod : List Int) (hn : mod.length = n) (hx : a.eval x = .slice A n c) (hnil : A = none → c = 0) (hr : Rd w A mod) (hl : n ≤ 1000)
    (h : ∀ b' c' w', Own w' b' c' mod → w.grownBy w' (some b) → (b' = b ∨ b' = w.heap.size) → K (a.put o.dst (.slice (some ⟨b', 0, none⟩) n c')) w') :
    if Region.wanted o (yielded ops a.tmps) = true then Oper.wp Try.prog o a w K Q else E := by
  have hw : Region.wanted o (yielded ops a.tmps) = true := by simp [Region.wanted, hgd]
  rw [if_pos hw]
  exact wp_copied s x ho b hs hblk A n c mod hn hx hnil hr hl h
theorem wpList_copied {ops : Array Oper} {rest : List Oper} {o : Oper} {a : Act} {w : World} {Q : Exit → Act → World → Prop} (hgd : o.guard = none) (s x : Operand)
    (ho : o.op = .call { callee := .builtin .append, args := #[s, x], argTypes := #[22, 22] }) (b : Nat) (hs : a.eval s = .slice (some ⟨b, 0, none⟩) 0 0)
    (hblk : w.heap[b]? = some (.cells #[] 3 (0, 0))) (A : Option Addr) (n c : Nat) (mod : List Int) (hn : mod.length = n) (hx : a.eval x = .slice A n c) (hnil : A = none → c = 0) (hr : Rd w A mod) (hl : n ≤ 1000)
    (h : ∀ b' c' w', Own w' b' c' mod → w.grownBy w' (some b) → (b' = b ∨ b' = w.heap.size) → wpList Try.prog ops Q rest (a.put o.dst (.slice (some ⟨b', 0, none⟩) n c')) w') :
    wpList Try.prog ops Q (o :: rest) a w :=
  wpList_plain hgd fun _ hK => wp_copied s x ho b hs hblk A n c mod hn hx hnil hr hl fun b' c' w' h1 h2 h3 => hK _ _ (h b' c' w' h1 h2 h3)

/-- A field lies at block g: its description, its order, the powers of a generator, their exponents. -/
def GFat (w : World) (g : Nat) (P : Int) (M : Nat) (mod : List Int) (q : Nat) (ex lg : List Int) : Prop :=
  ∃ A2 c2 A4 c4 A5 c5, w.heap[g]? = some (.cells #[.int .i64 P, .int .i64 M, .slice A2 mod.length c2, .int .i64 q, .slice A4 ex.length c4, .slice A5 lg.length c5] 71 (0, 0)) ∧ Rd w A2 mod ∧ Rd w A4 ex ∧ Rd w A5 lg ∧ (A2 = none → c2 = 0)
theorem GFat.lt {w : World} {g : Nat} {P : Int} {M : Nat} {mod : List Int} {q : Nat} {ex lg : List Int} (h : GFat w g P M mod q ex lg) : g < w.heap.size := by
  obtain ⟨A2, c2, A4, c4, A5, c5, hb, _⟩ := h
  exact (Array.getElem?_eq_some_iff.1 hb).1
theorem GFat.below {w w' : World} {g : Nat} {P : Int} {M : Nat} {mod : List Int} {q : Nat} {ex lg : List Int} (h : GFat w g P M mod q ex lg) (hb : Below w.heap.size w w') : GFat w' g P M mod q ex lg := by
  have hl := h.lt
  obtain ⟨A2, c2, A4, c4, A5, c5, h0, h1, h2, h3, h4⟩ := h
  exact ⟨A2, c2, A4, c4, A5, c5, (hb.block g hl).trans h0, h1.below hb (Nat.le_refl _), h2.below hb (Nat.le_refl _), h3.below hb (Nat.le_refl _), h4⟩

/-- The description is one of a field: in range, and there is a generator. -/
def Good (P M : Int) (mod : List Int) : Prop := ∃ m : Nat, M = m ∧ Shp P m mod ∧ ∃ (q : Nat) (x : Int), (q : Int) = P ^ m ∧ 1 ≤ x ∧ x < q ∧ IsGen (mulS P m (lowOf m mod)) q x
/-- A field that New makes. -/
structure Made (P : Int) (M : Nat) (mod : List Int) (q : Nat) (x : Int) (ex lg : List Int) : Prop where
  lgb : ∀ v, 0 ≤ lg.getD v 0 ∧ lg.getD v 0 < q
  shp : Shp P M mod
  hq : (q : Int) = P ^ M
  x1 : 1 ≤ x
  xq : x < q
  gen : IsGen (mulS P M (lowOf M mod)) q x
  hex : ex = pwL (mulS P M (lowOf M mod)) x (q - 1)
  lgl : lg.length = q
  hlg : ∀ i, i < q - 1 → ∃ v : Nat, v < q ∧ (v : Int) = pw (mulS P M (lowOf M mod)) x i ∧ lg.getD v 0 = i
theorem Made.good {P : Int} {M : Nat} {mod : List Int} {q : Nat} {x : Int} {ex lg : List Int} (h : Made P M mod q x ex lg) : Good P M mod := ⟨M, rfl, h.shp, q, x, h.hq, h.x1, h.xq, h.gen⟩
/-- What New returns. -/
def NewRet (P M : Int) (mod : List Int) (w : World) (e : Ending) (w' : World) : Prop :=
  ((e = .returned (.tuple #[.pointer none, .int .i64 1]) ∧ ¬ Good P M mod) ∨
   ∃ (g m q : Nat) (x : Int) (ex lg : List Int), e = .returned (.tuple #[.pointer (some ⟨g, 0, none⟩), .int .i64 0]) ∧ M = m ∧ w.heap.size ≤ g ∧ GFat w' g P m mod q ex lg ∧ Made P m mod q x ex lg) ∧ Below w.heap.size w w'
theorem NewRet.no {P M : Int} {mod : List Int} {w w' : World} (h : ¬ Good P M mod) (hb : Below w.heap.size w w') : NewRet P M mod w (.returned (.tuple #[.pointer none, .int .i64 1])) w' := ⟨.inl ⟨rfl, h⟩, hb⟩

/-- The field as it is made: its logarithms are still to come. -/
def FreshGF (w3 wx : World) (g : Nat) (P : Int) (m : Nat) (mod : List Int) (q n ge cape b' c' gl : Nat) : Prop :=
  wx.heap[g]? = some (.cells #[.int .i64 P, .int .i64 m, .slice (some ⟨b', 0, none⟩) n c', .int .i64 q, .slice (some ⟨ge, 0, none⟩) (q - 1) cape, .slice (some ⟨gl, 0, none⟩) q q] 71 (0, 0)) ∧
    Own wx b' c' mod ∧ Own wx gl q (List.replicate q 0) ∧ w3.heap.size ≤ g ∧ w3.heap.size ≤ gl ∧ w3.heap.size ≤ b' ∧ g ≠ gl ∧ g ≠ b' ∧ gl ≠ b' ∧ Below w3.heap.size w3 wx
theorem grown_drew {w w' : World} {r : Option Nat} (h : w.drew.grownBy w' r) : w.grownBy w' r := ⟨h.os, h.tape, h.output, h.size, h.block⟩
theorem heap_new2 (w : World) (o1 o2 : Obj) : ((w.alloc o1).alloc o2).heap[w.heap.size + 1]? = some o2 := by
  have := heap_alloc_new (w.alloc o1) o2
  rwa [World.size_alloc] at this
theorem fresh_mk {w3 wx : World} {P : Int} {m : Nat} {mod : List Int} {q n ge cape b' c' gl g : Nat} (hg : wx.heap.size = g) (h1 : Own wx b' c' mod) (h2 : Own wx gl q (List.replicate q 0)) (h3 : gl ≠ b') (h4 : Below w3.heap.size w3 wx) (h5 : w3.heap.size ≤ b') (h6 : w3.heap.size ≤ gl) :
    FreshGF w3 (wx.alloc (.cells #[.int .i64 P, .int .i64 m, .slice (some ⟨b', 0, none⟩) n c', .int .i64 q, .slice (some ⟨ge, 0, none⟩) (q - 1) cape, .slice (some ⟨gl, 0, none⟩) q q] 71)) g P m mod q n ge cape b' c' gl := by
  subst hg
  have := h1.lt
  have := h2.lt
  exact ⟨heap_alloc_new wx _, h1.alloc _, h2.alloc _, h4.size, h6, h5, by omega, by omega, h3, h4.alloc h4.size _⟩
theorem freshA {w3 w4 : World} {P : Int} {m : Nat} {mod : List Int} {q n ge cape b' c' : Nat} (hq : q ≤ 256) (ho : Own w4 b' c' mod) (hg : (w3.alloc (.cells #[] 3)).grownBy w4 (some w3.heap.size)) (hb : b' = w3.heap.size ∨ b' = w3.heap.size + 1) :
    FreshGF w3 ((w4.alloc (.cells (madeCells #[.int .i64 0] q) 3)).alloc (.cells #[.int .i64 P, .int .i64 m, .slice (some ⟨b', 0, none⟩) n c', .int .i64 q, .slice (some ⟨ge, 0, none⟩) (q - 1) cape, .slice (some ⟨w4.heap.size, 0, none⟩) q q] 71)) (w4.heap.size + 1) P m mod q n ge cape b' c' w4.heap.size := by
  have hl := ho.lt
  have h4 : Below w3.heap.size w3 w4 := ((Below.refl _ _).alloc (Nat.le_refl _) _).grown hg (by simp) (by intro k hk; have h5 : w3.heap.size = k := (by simpa using hk); omega)
  exact fresh_mk (by simp) (ho.alloc _) (Own.made w4 q (by omega)) (by omega) (h4.alloc h4.size _) (by omega) h4.size
theorem freshB {w3 w4 : World} {P : Int} {m : Nat} {mod : List Int} {q n ge cape b' c' : Nat} (hq : q ≤ 256) (ho : Own w4 b' c' mod) (hg : ((w3.alloc (.cells #[] 3)).alloc (.cells (madeCells #[.int .i64 0] q) 3)).grownBy w4 (some w3.heap.size)) (hb : b' = w3.heap.size ∨ b' = w3.heap.size + 1 + 1) :
    FreshGF w3 (w4.alloc (.cells #[.int .i64 P, .int .i64 m, .slice (some ⟨b', 0, none⟩) n c', .int .i64 q, .slice (some ⟨ge, 0, none⟩) (q - 1) cape, .slice (some ⟨w3.heap.size + 1, 0, none⟩) q q] 71)) w4.heap.size P m mod q n ge cape b' c' (w3.heap.size + 1) := by
  have hl := ho.lt
  have h4 : Below w3.heap.size w3 w4 := (((Below.refl _ _).alloc (Nat.le_refl _) _).alloc (by simp) _).grown hg (by simp; omega) (by intro k hk; have h5 : w3.heap.size = k := (by simpa using hk); omega)
  have h5 := Own.made (w3.alloc (.cells #[] 3)) q (by omega)
  rw [World.size_alloc] at h5
  exact fresh_mk rfl ho (h5.grown hg (by simp)) (by omega) h4 (by omega) (by omega)
theorem freshC {w3 w4 : World} {P : Int} {m : Nat} {mod : List Int} {q n ge cape b' c' : Nat} (hq : q ≤ 256) (ho : Own w4 b' c' mod) (hg : ((w3.alloc (.cells (madeCells #[.int .i64 0] q) 3)).alloc (.cells #[] 3)).grownBy w4 (some (w3.heap.size + 1))) (hb : b' = w3.heap.size + 1 ∨ b' = w3.heap.size + 1 + 1) :
    FreshGF w3 (w4.alloc (.cells #[.int .i64 P, .int .i64 m, .slice (some ⟨b', 0, none⟩) n c', .int .i64 q, .slice (some ⟨ge, 0, none⟩) (q - 1) cape, .slice (some ⟨w3.heap.size, 0, none⟩) q q] 71)) w4.heap.size P m mod q n ge cape b' c' w3.heap.size := by
  have hl := ho.lt
  have h4 : Below w3.heap.size w3 w4 := (((Below.refl _ _).alloc (Nat.le_refl _) _).alloc (by simp) _).grown hg (by simp; omega) (by intro k hk; have h5 : w3.heap.size + 1 = k := (by simpa using hk); omega)
  have h5 := (Own.made w3 q (by omega)).alloc (.cells #[] 3)
  exact fresh_mk rfl ho (h5.grown hg (by simp)) (by omega) h4 (by omega) (by omega)
theorem keepN {W w' : World} {g : Nat} {a b c : Value} {A : Option Addr} {mod : List Int} (h0 : W.cell? ⟨g, 0, none⟩ = some a) (h1 : W.cell? ⟨g, 1, none⟩ = some b) (h2 : W.cell? ⟨g, 2, none⟩ = some c) (hr : Rd W A mod) (hb : Below W.heap.size W w') :
    w'.cell? ⟨g, 0, none⟩ = some a ∧ w'.cell? ⟨g, 1, none⟩ = some b ∧ w'.cell? ⟨g, 2, none⟩ = some c ∧ Rd w' A mod ∧ Below W.heap.size W w' :=
  ⟨(hb.cell (World.block_lt_of_cell? W _ h0)).trans h0, (hb.cell (World.block_lt_of_cell? W _ h1)).trans h1, (hb.cell (World.block_lt_of_cell? W _ h2)).trans h2, hr.below hb (Nat.le_refl _), hb⟩
theorem keepA {W w1 : World} {p q r s : Prop} {o : Obj} (h : p ∧ q ∧ r ∧ s ∧ Below W.heap.size W w1) : Below W.heap.size W (w1.alloc o) := h.2.2.2.2.alloc h.2.2.2.2.size o
theorem keepR {w1 : World} {A : Option Addr} {mod : List Int} {p q r s : Prop} (h : p ∧ q ∧ r ∧ Rd w1 A mod ∧ s) : Rd w1 A mod := h.2.2.2.1
theorem keepG {W w1 w4 : World} {p q r s : Prop} {b : Nat} (h : p ∧ q ∧ r ∧ s ∧ Below W.heap.size W w1) (hg : w1.grownBy w4 (some b)) (hb : W.heap.size ≤ b) : Below W.heap.size W w4 :=
  h.2.2.2.2.grown hg h.2.2.2.2.size (by intro k hk; have h5 : b = k := (by simpa using hk); omega)
theorem heap_of_grown {w w' : World} {row : Option Nat} {k : Nat} {o : Obj} (h : w.grownBy w' row) (hk : w.heap[k]? = some o) (hne : some k ≠ row) : w'.heap[k]? = some o :=
  (h.block k (Array.getElem?_eq_some_iff.1 hk).1 hne).trans hk

set_option maxHeartbeats 2000000 in
theorem new_calls (P M : Int) (A : Option Addr) (c : Nat) (mod : List Int) (w : World) (hr : Rd w A mod) (hnil : A = none → c = 0) :
    Calls Try.prog 48 #[.agg #[.int .i64 P, .int .i64 M, .slice A mod.length c]] w fun e w' => NewRet P M mod w e w' := by
  have hu := Try.underlying24
  have HR := Lib.hid hr
  have HNIL := Lib.hid hnil
  clear hr hnil
  obtain ⟨n, HN⟩ : ∃ n, Hid (n = mod.length) := ⟨_, rfl⟩
  rw [← HN.out]
  have HSH : Hid (∀ W1 : World, Rd W1 A mod → Calls Try.prog 65 #[.agg #[.int .i64 P, .int .i64 M, .slice A n c]] W1 fun e w' => BoolIs (∃ m : Nat, M = m ∧ Shp P m mod) W1 e w') := by
    intro W1 h1; rw [HN.out]; exact shape_calls P M A c mod W1 h1
  go_enter Try.func48, Try.ntmps48
  go_wp2_with fail
  go_at_call 65
  refine (HSH.out _ (HR.out.alloc _)).mono ?_
  rintro e w1 ⟨b, rfl, hb, hb1⟩
  have HSB := Lib.hid hb
  obtain ⟨x0, x1, x2, hs1⟩ := box3 hb1
  clear hb
  cases b
  · go_wp2
    go_ret2
    refine NewRet.no ?_ (below_box hb1)
    rintro ⟨m, hm, hs, _⟩
    exact absurd (HSB.out.2 ⟨m, hm, hs⟩) (by simp)
  · obtain ⟨m, rfl, hs⟩ := HSB.out.1 rfl
    have HS := Lib.hid hs
    clear hs HSB
    obtain ⟨q, HQ⟩ : ∃ q : Nat, Hid ((q : Int) = P ^ m) := ⟨(P ^ m).toNat, Int.toNat_of_nonneg (by have := pow_ge P HS.out.p2 m; omega)⟩
    have hq2 : (q : Int) ≤ 256 := by rw [HQ.out]; exact HS.out.q
    have HORD : Hid (∀ W1 : World, Calls Try.prog 66 #[.int .i64 P, .int .i64 m] W1 fun e w' => e = .returned (.int .i64 q) ∧ Below W1.heap.size W1 w') := by
      intro W1
      have h := order_calls P m W1
      rw [HS.out.ord, ← HQ.out] at h
      exact h
    have HG : Hid (∀ W1 : World, Rd W1 A mod → Calls Try.prog 67 #[.agg #[.int .i64 P, .int .i64 m, .slice A n c], .int .i64 q] W1 fun e w' => GenRet (mulS P m (lowOf m mod)) q W1 e w') := by
      intro W1 h1; rw [HN.out]; exact generator_calls P m A mod c q W1 h1 HS.out HQ.out
    go_wp2_with fail
    go_at_call 66
    refine (HORD.out _).mono ?_
    rintro e w2 ⟨rfl, hb2⟩
    have hb3 := below_step hb1 hb2 hb1.size
    clear x0 x1 x2 hs1
    obtain ⟨x0, x1, x2, hs1⟩ := box3 hb3
    clear hb1 hb2
    go_wp2_with fail
    go_at_call 67
    refine (HG.out _ ((HR.out.alloc _).below hb3 (Nat.le_refl _))).mono ?_
    rintro e w3 ⟨hgr, hb4⟩
    have hb5 := below_step hb3 hb4 hb3.size
    clear x0 x1 x2
    obtain ⟨x0, x1, x2, hs2⟩ := box3 hb5
    rcases hgr with ⟨rfl, hno⟩ | ⟨x, ge, cape, hx1, hxq, hgen, rfl, hge, hoe⟩
    · have hnl := fun (w : World) (a : Option Addr) (n c n' c' : Nat) => Lib.run_eql_slice_nil (P := Try.prog) w 22 3 a n c n' c' Try.underlying22
      have HNO := Lib.hid hno
      clear hno hb3 hb4
      go_wp2
      go_ret2
      refine NewRet.no ?_ (below_box hb5)
      rintro ⟨m', hm', _, q', x, hq', h1, h2, h3⟩
      obtain rfl : m' = m := by omega
      obtain rfl : q' = q := by have := HQ.out; omega
      exact HNO.out x h1 h2 h3
    · have hnl := fun (w : World) (a : Option Addr) (n c n' c' : Nat) => Lib.run_eql_slice_nil (P := Try.prog) w 22 3 a n c n' c' Try.underlying22
      have HGEN := Lib.hid hgen
      have HOE := Lib.hid hoe
      have hle := hoe.lt
      clear hgen hoe hb3 hb4
      have hmk := makeInts q (by omega)
      go_wp2
      go_upto_region 7 with (fail)
      go_cut [6] (fun s6 wx => ∃ g b' c' gl, s6 = .pointer (some ⟨g, 0, none⟩) ∧ FreshGF w3 wx g P m mod q n ge cape b' c' gl)
      case first =>
        have hr3 := (HR.out.alloc _).below hb5 (Nat.le_refl _)
        have hlt3 : w.heap.size < w3.heap.size := by omega
        go_region_held3 (fun w' => w'.cell? ⟨w.heap.size, 0, none⟩ = some (.int .i64 P) ∧ w'.cell? ⟨w.heap.size, 1, none⟩ = some (.int .i64 m) ∧ w'.cell? ⟨w.heap.size, 2, none⟩ = some (.slice A n c) ∧ Rd w' A mod ∧ Below w3.heap.size w3 w')
          (first | (exact keepN x0 x1 x2 hr3 (Below.refl _ _).drew) | (exact keepN x0 x1 x2 hr3 (keepA (by assumption))) | (exact keepN x0 x1 x2 hr3 (keepG (by assumption) hg4 (by first | omega | (simp; done) | (simp; omega)))))
          ((refine step_copied rfl (.tmp 26) (.tmp 28) rfl _ rfl (by first | exact heap_alloc_new _ _ | exact (Below.heap_alloc (w3.alloc (.cells #[] 3)) _ _ (by simp)).trans (heap_alloc_new w3 _) | exact heap_new2 w3 _ _) A n c mod HN.out.symm rfl HNIL.out (keepR (by assumption)) (by rw [HN.out]; exact HS.out.modLen) ?_; intro b' c' w4 ho4 hg4 hb4))
        all_goals
          go_wp2_with fail
          go_meet
          first
          | exact ⟨_, _, _, _, rfl, freshA (by omega) ho4 (grown_drew hg4) (by simpa using hb4)⟩
          | exact ⟨_, _, _, _, rfl, freshB (by omega) ho4 (grown_drew hg4) (by simpa using hb4)⟩
          | exact ⟨_, _, _, _, rfl, freshC (by omega) ho4 (grown_drew hg4) (by simpa using hb4)⟩
      case rest =>
        obtain ⟨g, b', c', gl, rfl, hf0, hf1, hf2, hf3, hf4, hf5, hf6, hf7, hf8, hf9⟩ := hcut
        obtain ⟨mul, HM⟩ : ∃ mul, Hid (mul = mulS P m (lowOf m mod)) := ⟨_, rfl⟩
        have HOE2 := Lib.hid (HOE.out.below hf9 hle)
        rw [← HM.out] at HOE2 HGEN
        have HBX : Hid (∀ i, i < q → 0 ≤ pw mul x i ∧ pw mul x i < q) := fun i _ => pw_bd mul x q (by rw [HM.out, HQ.out]; exact mulS_bd HS.out) (by omega) (by omega) hxq i
        have HLE := Lib.hid hle
        clear hle hmk x0 x1 x2 hnl
        go_wp2
        go_loopg [39] (q - 1) (fun gq i wr => ∃ (k : Nat) (lg : List Int), k ≤ q - 1 ∧ gq = q - 1 - k ∧ i = .int .i64 k ∧ Own wr gl q lg ∧ Hid (LogIs (pw mul x) q k lg) ∧ Own wr b' c' mod ∧
          wr.heap[g]? = some (.cells #[.int .i64 P, .int .i64 m, .slice (some ⟨b', 0, none⟩) n c', .int .i64 q, .slice (some ⟨ge, 0, none⟩) (q - 1) cape, .slice (some ⟨gl, 0, none⟩) q q] 71 (0, 0)) ∧ Below w3.heap.size w3 wr)
        case atStart => exact ⟨0, List.replicate q 0, Nat.zero_le _, rfl, rfl, hf2, LogIs.start _ q (by omega), hf1, hf0, hf9⟩
        case round =>
          obtain ⟨k, lg, hk, HGQ, rfl, hl1, HLG, hl2, hl3, hl4⟩ := hrel
          replace HGQ := Lib.hid HGQ
          clear hf0 hf1 hf2 hf9
          by_cases hlt : k < q - 1
          · have hce := (HOE.out.below hl4 HLE.out).cell k (by rw [pwL_length]; exact hlt)
            rw [pwL_at _ _ _ _ hlt, ← HM.out] at hce
            obtain ⟨v, HV⟩ : ∃ v : Nat, Hid ((v : Int) = pw mul x k) := ⟨(pw mul x k).toNat, Int.toNat_of_nonneg (HBX.out k (by omega)).1⟩
            have hvq : v < q := by have := (HBX.out k (by omega)).2; rw [← HV.out] at this; omega
            rw [← HV.out] at hce
            have hcl := (cell_of_row wr g 5 _ _ _ hl3).trans rfl
            have hc2 := hl1.cell v (by rw [HLG.out.len]; exact hvq)
            have hf2 := hl1.free v
            have HS1 := Lib.hid (hl1.set v k)
            have HS2 := Lib.hid (hl2.setOther ⟨gl, v, none⟩ (by simpa using hf8) (.int .i64 k))
            have HS3 := Lib.hid ((heap_setCell_other wr ⟨gl, v, none⟩ g (.int .i64 k) (by simpa using hf6)).trans hl3)
            have HS4 := Lib.hid (hl4.setCell (p := ⟨gl, v, none⟩) hf4 (.int .i64 k))
            clear hl1 hl2 hl3 hl4
            go_wp2
            go_roundg (q - 1 - (k + 1))
            case measure => have := HGQ.out; omega
            case rel => exact ⟨k + 1, lg.set v k, by omega, rfl, by go_num, HS1.out, HLG.out.next hlt hvq HV.out HGEN.out.2.1, HS2.out, HS3.out, HS4.out⟩
          · obtain rfl : k = q - 1 := by omega
            have HO3 := Lib.hid (HOE.out.below hl4 HLE.out)
            have H1 := Lib.hid hl1
            have H2 := Lib.hid hl2
            have H3 := Lib.hid hl3
            have H4 := Lib.hid hl4
            clear hl1 hl2 hl3 hl4
            go_wp2
            go_ret2
            have hml := HS.out.modLen
            refine ⟨.inr ⟨g, m, q, x, pwL mul x (q - 1), lg, rfl, rfl, by omega, ⟨some ⟨b', 0, none⟩, c', some ⟨ge, 0, none⟩, cape, some ⟨gl, 0, none⟩, q, ?_, H2.out.rd (by omega), ?_, H1.out.rd (by rw [HLG.out.len]; omega), fun h => by simp at h⟩, ?_⟩, ?_⟩
            · have := H3.out
              rw [pwL_length, HLG.out.len, ← HN.out]
              exact this
            · rw [HM.out]; exact HO3.out.rd (by rw [pwL_length]; omega)
            · exact ⟨HLG.out.bd, HS.out, HQ.out, hx1, hxq, by rw [← HM.out]; exact HGEN.out, by rw [HM.out], HLG.out.len, by rw [← HM.out]; exact fun i hi => HLG.out.pos i hi⟩
            · exact below_box (below_step hb5 (H4.out) hb5.size)

end Go.Proofs.Ytjbfccconjjofaa
