/- powers and generator of the package field. -/
import Derived.Test.YtjbfccconjjofaaShape
import Derived.Test.YtjbfccconjjofaaPlainB
import Derived.Maps.AppendAt
import Derived.Deep.AppendLies
namespace Go.Proofs.Ytjbfccconjjofaa
open Go.RowKit
attribute [local go_sem ↓] Go.wp_at_zero Go.wp_at_succ

/-- Block g is a row of bools. -/
def OwnB (w : World) (g : Nat) (xs : List Bool) : Prop :=
  w.ownsRow g 4 1 (.slice (some ⟨g, 0, none⟩) xs.length xs.length) xs.length (xs.map Value.bool)
theorem OwnB.cell {w : World} {g : Nat} {xs : List Bool} (h : OwnB w g xs) (j : Nat) (hj : j < xs.length) : w.cell? ⟨g, j, none⟩ = some (.bool (xs.getD j true)) := by
  have := World.ownsRow.cellAt h j (by omega)
  rw [this]
  simp [List.getElem?_eq_getElem hj, List.getD_eq_getElem?_getD]
theorem OwnB.free {w : World} {g : Nat} {xs : List Bool} (h : OwnB w g xs) (j : Nat) : w.frozen? ⟨g, j, none⟩ = false := World.ownsRow.frozenAt h j
theorem OwnB.lt {w : World} {g : Nat} {xs : List Bool} (h : OwnB w g xs) : g < w.heap.size := (World.ownsRow.lt h g rfl).2
theorem OwnB.set {w : World} {g : Nat} {xs : List Bool} (h : OwnB w g xs) (j : Nat) (u : Bool) : OwnB (w.setCell ⟨g, j, none⟩ (.bool u)) g (xs.set j u) := by
  have := (World.ownsRow.stored h j (.bool u)).1
  unfold OwnB
  simpa [List.map_set] using this
theorem OwnB.grown {w w' : World} {row : Option Nat} {g : Nat} {xs : List Bool} (h : OwnB w g xs) (hg : w.grownBy w' row) (hne : row ≠ some g) : OwnB w' g xs :=
  World.ownsRow.kept h hg (.inr fun e => hne e.symm)
theorem grownBy_below {w w' : World} (hb : Below w.heap.size w w') : w.grownBy w' none := ⟨hb.os, hb.tape, hb.output, hb.size, fun i hi _ => hb.block i hi⟩
theorem grownBy_of {w w' : World} {B : Nat} (hb : Below B w w') (row : Option Nat) (h : B ≥ w.heap.size) : w.grownBy w' row := ⟨hb.os, hb.tape, hb.output, hb.size, fun i hi _ => hb.block i (by omega)⟩
theorem OwnB.made (W : World) (n : Nat) (h : n ≤ 140737488351232) : OwnB (W.alloc (.cells (madeCells #[.bool false] n) 4)) W.heap.size (List.replicate n false) := by
  have := World.ownsRow_lit (base := W.heap.size) (e := 4) (size := 1) W (madeCells #[.bool false] n) n (Nat.le_refl _) (by unfold maxLen; omega) (by simp [size_madeCells])
  unfold OwnB
  rw [List.length_replicate]
  rw [toList_madeCells_one] at this
  simpa using this
theorem info_bool : (Try.prog.info? 4).map (fun i => (i.zero, i.size, i.bytes)) = some (some (.bool false), 1, 1) := by kernel_rfl
theorem makeBools (m : Nat) (hn : m ≤ 1000000) :
    ∀ W : World, (Instr.makeSlice 77 (.int .i64 (m : Int)) (.int .i64 (m : Int))).run Try.prog W = .ok (.slice (some ⟨W.heap.size, 0, none⟩) m m) (W.alloc (.cells (madeCells #[.bool false] m) 4)) := by
  intro W
  obtain ⟨i, hi, hz0, hz1, hz2⟩ := info_parts info_bool
  have := run_make (P := Try.prog) W 77 4 i (.bool false) Try.underlying77 hi hz0 .i64 .i64 m m (by omega) (Int.le_refl _) (by rw [hz2]; omega) (by omega)
  rw [hz1, Nat.mul_one, Int.toNat_natCast] at this
  exact this
/-- What an append of one number leaves. -/
theorem Own.appended {w1 : World} {B n : Nat} {v' : Value} {xs : List Int} {y : Int} (h : w1.ownsRow B 3 1 v' (n + 1) (ints xs ++ [.int .i64 y])) :
    ∃ g cap, v' = .slice (some ⟨g, 0, none⟩) (n + 1) cap ∧ B ≤ g ∧ Own w1 g cap (xs ++ [y]) := by
  rcases h with ⟨h1, h2⟩
  rcases h2 with ⟨_, h2⟩ | ⟨g, cap, cur, e1, e2, e3, e4⟩
  · omega
  · have hl : (xs ++ [y]).length = n + 1 := by simp [ints] at h1; simp [h1]
    refine ⟨g, cap, e1, e2, ?_⟩
    unfold Own
    rw [hl]
    exact ⟨by simp [ints] at h1 ⊢; omega, .inr ⟨g, cap, cur, rfl, Nat.le_refl _, e3, by simpa [ints] using e4⟩⟩

/-- 'append(out, y)' onto a row that the call owns: one number more, in the same row or in a new one. -/
theorem wpList_push {ops : Array Oper} {rest : List Oper} {o : Oper} {a : Act} {Q : Exit → Act → World → Prop} (W : World) (hgd : o.guard = none) (s x : Operand)
    (ho : o.op = .call { callee := .builtin .append, args := #[s, x], argTypes := #[22, 22] }) (g cap n : Nat) (xs : List Int) (y : Int) (hn : xs.length = n)
    (hs : a.eval s = .slice (some ⟨g, 0, none⟩) n cap) (H : Nat) (hx : a.eval x = .slice (some ⟨H, 0, none⟩) 1 1) (hH : W.heap.size = H) (hown : Own W g cap xs) (hl : n ≤ 1000000)
    (h : ∀ g' cap' w', Own w' g' cap' (xs ++ [y]) → W.grownBy w' (some g) → (g' = g ∨ g' = H + 1) → wpList Try.prog ops Q rest (a.put o.dst (.slice (some ⟨g', 0, none⟩) (n + 1) cap')) w') :
    wpList Try.prog ops Q (o :: rest) a (W.alloc (.cells #[.int .i64 y] 3)) := by
  obtain ⟨i0, hi, hz0, hz1, hz2⟩ := info_parts info_int
  subst hn hH
  refine wpList_append_own_at (W.alloc (.cells #[.int .i64 y] 3)) hgd s x 22 ho g 3 i0 (.int .i64 0) 1 8 Try.underlying22 hi hz0 hz1 hz2 rfl (by decide)
    (.slice (some ⟨g, 0, none⟩) xs.length cap) xs.length (ints xs) hs (World.ownsRow.alloc hown _) ⟨W.heap.size, 0, none⟩ 1 1 [.int .i64 y] hx rfl
    (World.news_of_block (cs := #[.int .i64 y]) (t := 3) (fr := (0, 0)) (heap_alloc_new W _)) (by simp [Value.oneCell']) (by unfold maxLen; omega) (by omega) (by have := hown.lt; simp; omega) ?_
  intro v' w1 h1 h2 _ h3
  obtain ⟨g', cap', rfl, hb, ho2⟩ := Own.appended h1
  refine h g' cap' w1 ho2 ⟨h2.os, h2.tape, h2.output, Nat.le_trans (by simp) h2.size, fun k hk hne => ?_⟩ ?_
  · rw [h2.block k (by simp; omega) (by simpa [Value.ownBlock] using hne)]
    exact Below.heap_alloc W _ k hk
  · simpa [Value.ownBlock] using h3
/-- What 'powers' returns. -/
def PowRet (mul : Int → Int → Int) (x : Int) (q : Nat) (w : World) (e : Ending) (w' : World) : Prop :=
  ∃ g cap n, e = .returned (.slice (some ⟨g, 0, none⟩) (n + 1) cap) ∧ w.heap.size ≤ g ∧ Own w' g cap (pwL mul x (n + 1)) ∧ PowEnd mul x n ∧ n + 1 ≤ q ∧ Below w.heap.size w w'

theorem mulS_bd {P : Int} {M : Nat} {mod : List Int} (hs : Shp P M mod) (x y : Int) : 0 ≤ mulS P M (lowOf M mod) x y ∧ mulS P M (lowOf M mod) x y < P ^ M := by
  have := valL_bd P hs.p2 (hor P (lowOf M mod) (digs M x P) (digs M y P)) (hor_dig P (by have := hs.p2; omega) _ _ _)
  rw [hor_length _ _ _ _ (by rw [hs.lowLen]; exact hs.m1) (by rw [digs_length, hs.lowLen]), hs.lowLen] at this
  exact this

set_option maxHeartbeats 2000000 in
theorem powers_calls (P : Int) (M : Nat) (A : Option Addr) (mod : List Int) (c : Nat) (q : Nat) (x : Int) (w : World) (hr : Rd w A mod) (hs : Shp P M mod) (hq : (q : Int) = P ^ M) (hx : 1 ≤ x) (hx2 : x < q) :
    Calls Try.prog 70 #[.agg #[.int .i64 P, .int .i64 M, .slice A mod.length c], .int .i64 q, .int .i64 x] w fun e w' => PowRet (mulS P M (lowOf M mod)) x q w e w' := by
  have hu := Try.underlying24
  have HR := Lib.hid hr
  have HS := Lib.hid hs
  have HQ := Lib.hid hq
  obtain ⟨n, HN⟩ : ∃ n, Hid (n = mod.length) := ⟨_, rfl⟩
  have hq2 : (q : Int) ≤ 256 := by rw [hq]; exact hs.q
  clear hr hs hq
  rw [← HN.out]
  obtain ⟨mul, HM⟩ : ∃ mul, Hid (mul = mulS P M (lowOf M mod)) := ⟨_, rfl⟩
  rw [← HM.out]
  have HMB : Hid (∀ y x : Int, 0 ≤ mul y x ∧ mul y x < q) := by
    intro y x
    rw [HM.out, HQ.out]; exact mulS_bd HS.out y x
  have HC : Hid (∀ (W1 : World) (y x : Int), Rd W1 A mod → 0 ≤ y → y < q → 0 ≤ x → x < q → Calls Try.prog 71 #[.agg #[.int .i64 P, .int .i64 M, .slice A n c], .int .i64 y, .int .i64 x] W1 fun e w' => e = .returned (.int .i64 (mul y x)) ∧ Below W1.heap.size W1 w') := by
    intro W1 y x h1 h2 h3 h4 h5
    rw [HM.out, HN.out]
    exact multiply_calls P M A mod c y x W1 h1 HS.out h2 (by rw [← HQ.out]; exact h3) h4 (by rw [← HQ.out]; exact h5)
  have hmk := makeBools q (by omega)
  obtain ⟨i0, hi, hz0, hz1, hz2⟩ := info_parts info_int
  have hgs := (OwnB.made ((w.alloc (.cells #[.int .i64 P, .int .i64 M, .slice A n c] 24)).alloc (.cells #[.int .i64 1] 3)) q (by omega)).set 1 true
  have hgo : Own ((w.alloc (.cells #[.int .i64 P, .int .i64 M, .slice A n c] 24)).alloc (.cells #[.int .i64 1] 3)) (w.heap.size + 1) 1 [1] := by
    have := Own.of (w := (w.alloc (.cells #[.int .i64 P, .int .i64 M, .slice A n c] 24)).alloc (.cells #[.int .i64 1] 3)) (g := w.heap.size + 1) (xs := [1]) (by simpa [ints] using heap_alloc_new (w.alloc (.cells #[.int .i64 P, .int .i64 M, .slice A n c] 24)) (.cells #[.int .i64 1] 3)) (by simp)
    exact this
  have hm1 : (madeCells #[Value.bool false] q)[1]? = some (Value.bool false) := by
    have := toList_madeCells_one (Value.bool false) q
    rw [← Array.getElem?_toList, this, List.getElem?_replicate, if_pos (by omega)]
  rw [show ((w.alloc (.cells #[.int .i64 P, .int .i64 M, .slice A n c] 24)).alloc (.cells #[.int .i64 1] 3)).heap.size = w.heap.size + 1 + 1 from by simp] at hgs
  rw [World.setCell_alloc_at (w := (w.alloc (.cells #[.int .i64 P, .int .i64 M, .slice A n c] 24)).alloc (.cells #[.int .i64 1] 3)) (madeCells #[.bool false] q) 4 (w.heap.size + 1 + 1) 1 (.bool true) (by simp)] at hgs
  have HGS := Lib.hid hgs
  have HGO := Lib.hid hgo
  clear hgs hgo
  go_enter Try.func70, Try.ntmps70
  go_wp2
  clear hm1 hmk
  obtain ⟨xn, rfl⟩ : ∃ xn : Nat, x = xn := ⟨x.toNat, by omega⟩
  go_loopg [7, 9] q (fun g o y wr => ∃ (n2 gi cap yn : Nat) (seen : List Bool), g = q - n2 ∧ o = .slice (some ⟨gi, 0, none⟩) (n2 + 1) cap ∧ y = .int .i64 yn ∧ yn < q ∧ Hid ((yn : Int) = pw mul xn (n2 + 1)) ∧
      Own wr gi cap (pwL mul xn (n2 + 1)) ∧ w.heap.size + 1 ≤ gi ∧ gi ≠ w.heap.size + 1 + 1 ∧ OwnB wr (w.heap.size + 1 + 1) seen ∧ Hid (SeenIs mul xn q n2 seen) ∧ Below (w.alloc (.cells #[.int .i64 P, .int .i64 M, .slice A n c] 24)).heap.size (w.alloc (.cells #[.int .i64 P, .int .i64 M, .slice A n c] 24)) wr)
  case atStart =>
    refine ⟨0, w.heap.size + 1, 1, xn, (List.replicate q false).set 1 true, rfl, rfl, rfl, by omega, rfl, ?_, Nat.le_refl _, by omega, ?_, ?_, ?_⟩
    · exact HGO.out.alloc _
    · have := HGS.out; simpa using this
    · exact SeenIs.start mul xn q (by omega)
    · exact ((Below.refl _ _).alloc (Nat.le_refl _) _).alloc (by simp) _
  case round =>
    obtain ⟨n2, gi, cap, yn, seen, HG, rfl, rfl, hyq, HY, ho, hgi1, hgi2, hse, HSE, hb⟩ := hrel
    replace HG := Lib.hid HG
    clear HGS HGO
    obtain ⟨x0, x1, x2, hs1⟩ := box3 hb
    clear hs1
    by_cases hy0 : yn = 0
    · subst hy0
      have HO := Lib.hid ho
      have HB := Lib.hid hb
      clear ho hse hb
      go_wp2
      go_ret
      exact ⟨gi, cap, n2, rfl, by omega, HO.out, HSE.out.fin (.inl HY.out.symm), HSE.out.le, below_box HB.out⟩
    · have hy1 : ((yn : Int) != 0) = true := by simp; omega
      have hyc := hse.cell yn (by rw [HSE.out.len]; exact hyq)
      obtain ⟨sb, HSB⟩ : ∃ sb, Hid (sb = seen.getD yn true) := ⟨_, rfl⟩
      rw [← HSB.out] at hyc
      have hfr := hse.free yn
      have HO := Lib.hid ho
      have HB := Lib.hid hb
      have HSD := Lib.hid hse
      have HL : Hid (seen.length = q) := HSE.out.len
      have hi1 : (0 : Int) ≤ (yn : Int) := by omega
      have hi2 : (yn : Int) < (q : Int) := by omega
      clear ho hse hb
      cases sb
      · have hn2 : n2 + 1 < q := HSE.out.lt (yn := yn) hyq HSB.out.symm
        go_wp2_with (first | (at_builtin; refine wpList_push _ rfl (.tmp 32) (.tmp 34) rfl gi cap (n2 + 1) (pwL mul xn (n2 + 1)) yn (pwL_length _ _ _) rfl wr.heap.size rfl (by simp) (HO.out.setOther _ (by simp; omega) _) (by omega) ?_; intro g2 cap2 w2 ho2 hg2 hg3; have hb2 := (HB.out.setCell (p := ⟨w.heap.size + 1 + 1, yn, none⟩) (by simp) (.bool true)).grown hg2 (by have := HB.out.size; simpa using this) (by intro k hk; have h5 : gi = k := (by simpa using hk); rw [← h5]; simpa using hgi1); have HO2 := Lib.hid ho2; have HG2 := Lib.hid hg2; have HG3 := Lib.hid hg3; clear ho2 hg2 hg3 x0 x1 x2; obtain ⟨x0, x1, x2, hs2⟩ := box3 hb2) | (go_at_call 71; refine (HC.out _ yn xn ((HR.out.alloc _).below hb2 (Nat.le_refl _)) (by omega) (by omega) (by omega) (by omega)).mono ?_; rintro e w3 ⟨rfl, hb3⟩))
        go_roundg (q - (n2 + 1))
        case measure => have := HG.out; omega
        case rel =>
          have hv := HMB.out yn xn
          refine ⟨n2 + 1, g2, cap2, (mul yn xn).toNat, seen.set yn true, rfl, rfl, ?_, by omega, ?_, ?_, ?_, ?_, ?_, HSE.out.next hyq hy0 HSB.out.symm HY.out, below_step hb2 hb3 hb2.size⟩
          · rw [Int.toNat_of_nonneg hv.1]
          · unfold Hid; rw [Int.toNat_of_nonneg hv.1, pw_succ _ _ _ (by omega), ← HY.out]
          · rw [pwL_snoc, ← HY.out]; exact HO2.out.below hb3 HO2.out.lt
          · rcases HG3.out with e | e
            · omega
            · have := HB.out.size; simp at this; omega
          · rcases HG3.out with e | e
            · omega
            · have := HSD.out.lt; omega
          · have h1 := (HSD.out.set yn true).grown HG2.out (by simpa using hgi2)
            exact h1.grown (grownBy_below hb3) (by simp)
      · go_wp2
        go_ret
        exact ⟨gi, cap, n2, rfl, by omega, HO.out, HSE.out.fin (.inr (HSE.out.old hyq HSB.out.symm HY.out)), HSE.out.le, below_box HB.out⟩

end Go.Proofs.Ytjbfccconjjofaa
