/- Polynomials: trim, Canon. -/
import Derived.Test.YtdbhhfhfjlpepaaEl
namespace Go.Proofs.Ytdbhhfhfjlpepaa
open Go.RowKit
attribute [local go_sem ↓] Go.wp_at_zero Go.wp_at_succ

/-- What lies below a world's size lies there behind a call from the world, some draws later. -/
theorem below_in {W w1 w' : World} (h : Below w1.heap.size w1 w') (e : w1 = W ∨ w1 = W.drew ∨ w1 = W.drew.drew := by first | exact .inl rfl | exact .inr (.inl rfl) | exact .inr (.inr rfl)) : Below W.heap.size W w' := by
  rcases e with rfl | rfl | rfl
  · exact h
  · exact below_step (Below.refl _ W).drew h (Nat.le_refl _)
  · exact below_step (Below.refl _ W).drew.drew h (Nat.le_refl _)
theorem below_on {W w0 w1 w' : World} (h0 : Below W.heap.size W w0) (h : Below w1.heap.size w1 w') (e : w1 = w0 ∨ w1 = w0.drew ∨ w1 = w0.drew.drew := by first | exact .inl rfl | exact .inr (.inl rfl) | exact .inr (.inr rfl)) : Below W.heap.size W w' := by
  rcases e with rfl | rfl | rfl
  · exact below_step h0 h h0.size
  · exact below_step h0.drew h h0.size
  · exact below_step h0.drew.drew h h0.size
theorem keepCF0 {W w' : World} {a : Addr} {u : Value} (h1 : W.cell? a = some u) (h2 : W.frozen? a = false) (hb : Below W.heap.size W w') : w'.cell? a = some u ∧ w'.frozen? a = false ∧ Below W.heap.size W w' :=
  ⟨(hb.cell (World.block_lt_of_cell? W _ h1)).trans h1, (hb.frozen (World.block_lt_of_cell? W _ h1)).trans h2, hb⟩
theorem keepCF {W w1 w' : World} {a : Addr} {u : Value} {p q : Prop} (h1 : W.cell? a = some u) (h2 : W.frozen? a = false) (hb : Below w1.heap.size w1 w') (h : p ∧ q ∧ Below W.heap.size W w1) : w'.cell? a = some u ∧ w'.frozen? a = false ∧ Below W.heap.size W w' :=
  keepCF0 h1 h2 (below_step h.2.2 hb h.2.2.size)
/-- A list that a call hands back, in a block of its own. -/
def NewL (w : World) (e : Ending) (w' : World) (L : List Int) : Prop :=
  ∃ A c, e = .returned (.slice A L.length c) ∧ Rd w' A L ∧ L.length ≤ c ∧ (A = none → c = 0) ∧ (∀ ad, A = some ad → w.heap.size ≤ ad.block) ∧ Below w.heap.size w w'

theorem Rd.take {w : World} {A : Option Addr} {l : List Int} (h : Rd w A l) (k : Nat) (hk : k ≤ l.length) : Rd w A (l.take k) := by
  have e : (l.take k).length = k := by rw [List.length_take]; omega
  refine ⟨by rw [e]; have := h.1; omega, fun hp => ?_⟩
  rw [e] at hp ⊢
  obtain ⟨ad, h1, h2, h3⟩ := h.2 (by omega)
  refine ⟨ad, h1, h2, fun j hj => ?_⟩
  rw [h3 j (by omega)]
  simp [List.getD_eq_getElem?_getD, hj]

set_option maxHeartbeats 1000000 in
theorem trim_calls (A : Option Addr) (c : Nat) (l : List Int) (w : World) (hr : Rd w A l) (hc : l.length ≤ c) :
    Calls Try.prog 56 #[.slice A l.length c] w fun e w' => e = .returned (.slice A (trimL l).length c) ∧ Below w.heap.size w w' := by
  have hb0 := hr.1
  obtain ⟨n, HN⟩ : ∃ n, Hid (n = l.length) := ⟨_, rfl⟩
  have HR := Lib.hid hr
  rw [← HN.out] at hc hb0 ⊢
  clear hr
  go_enter Try.func56, Try.ntmps56
  go_wp2
  go_loopg [0] n (fun g2 s wr => ∃ k : Nat, k ≤ n ∧ g2 = k ∧ s = .slice A k c ∧ trimL (l.take k) = trimL l ∧ Below w.heap.size w wr)
  case atStart => exact ⟨n, Nat.le_refl _, rfl, rfl, by rw [HN.out, List.take_length], Below.refl _ _⟩
  case round =>
    obtain ⟨k, hk, HGQ, rfl, ht, hb⟩ := hrel
    replace HGQ := Lib.hid HGQ
    have HT := Lib.hid ht
    have HB := Lib.hid hb
    clear ht hb
    cases k with
    | zero =>
      have HE : Hid (trimL l = []) := by have := HT.out; rw [List.take_zero] at this; exact this.symm
      go_wp2
      go_ret
      exact ⟨by rw [HE.out]; rfl, HB.out⟩
    | succ k =>
      obtain ⟨ad, rfl, hcell⟩ := (HR.out.below HB.out (Nat.le_refl _)).get k (by rw [← HN.out]; omega)
      obtain ⟨u, HU⟩ : ∃ z, Hid (z = l.getD k 0) := ⟨_, rfl⟩
      rw [← HU.out] at hcell
      have HS : Hid (l.take (k + 1) = l.take k ++ [u]) := by unfold Hid; rw [HU.out]; exact take_succ_getD l k (by rw [← HN.out]; omega)
      by_cases hu : u = 0
      · subst hu
        have HT2 : Hid (trimL (l.take k) = trimL l) := by have := HT.out; rw [HS.out, trimL_zero] at this; exact this
        go_wp2
        go_roundg k
        case measure => have := HGQ.out; omega
        case rel => exact ⟨k, by omega, rfl, rfl, HT2.out, HB.out⟩
      · have HE : Hid ((trimL l).length = k + 1) := by
          unfold Hid
          rw [← HT.out, HS.out, trimL_keep _ _ hu, ← HS.out, List.length_take, ← HN.out]; omega
        have hu0 : (u == 0) = false := by simp [hu]
        go_wp2
        go_ret
        exact ⟨by rw [HE.out]; rfl, HB.out⟩

end Go.Proofs.Ytdbhhfhfjlpepaa

/- Polynomials: Canon; registers: isRegister, gap. -/
namespace Go.Proofs.Ytdbhhfhfjlpepaa
open Go.RowKit
attribute [local go_sem ↓] Go.wp_at_zero Go.wp_at_succ

/-- The first k of a list's elements, as numbers. -/
def FS.nums (S : FS) (l : List Int) (k : Nat) : List Int := (List.range k).map fun i => (S.sq l i).1
theorem FS.nums_length (S : FS) (l : List Int) (k : Nat) : (S.nums l k).length = k := by simp [FS.nums]
theorem FS.nums_snoc (S : FS) (l : List Int) (k : Nat) : S.nums l (k + 1) = S.nums l k ++ [(S.sq l k).1] := by simp [FS.nums, List.range_succ]
theorem FS.sq_no (S : FS) (l : List Int) (k : Nat) (h : ¬ (0 ≤ l.getD k 0 ∧ l.getD k 0 < S.q)) : (S.sq l k).1 = 0 := by
  show inn S.q (l.getD k 0) = 0
  exact inn_no h
theorem FS.sq_yes (S : FS) (l : List Int) (k : Nat) (h : 0 ≤ l.getD k 0 ∧ l.getD k 0 < S.q) : (S.sq l k).1 = l.getD k 0 := inn_yes h.1 h.2

set_option maxHeartbeats 1000000 in
theorem canon_calls (g : Nat) (S : FS) (A : Option Addr) (c : Nat) (l : List Int) (w : World) (hf : FldAt w g S) (hr : Rd w A l) (hl : l.length ≤ 5000) :
    Calls Try.prog 34 #[.pointer (some ⟨g, 0, none⟩), .slice A l.length c] w fun e w' => NewL w e w' (S.canL l) := by
  have HF := Lib.hid hf
  have HR := Lib.hid hr
  clear hf hr
  obtain ⟨n, HN⟩ : ∃ n, Hid (n = l.length) := ⟨_, rfl⟩
  rw [← HN.out] at hl ⊢
  have hmk := makeInts n (by omega)
  have hmade := Own.made w n (by omega)
  go_enter Try.func34, Try.ntmps34
  go_wp2
  go_loopg [13] n (fun g2 i wr => ∃ k : Nat, k ≤ n ∧ g2 = n - k ∧ i = .int .i64 k ∧ Own wr w.heap.size n (S.nums l k ++ List.replicate (n - k) 0) ∧ Below w.heap.size w wr)
  case atStart => exact ⟨0, Nat.zero_le _, rfl, rfl, by simpa [FS.nums] using hmade, (Below.refl _ _).alloc (Nat.le_refl _) _⟩
  case round =>
    obtain ⟨k, hk, HGQ, rfl, hown, hb⟩ := hrel
    replace HGQ := Lib.hid HGQ
    clear hmk hmade
    by_cases hlt : k < n
    · obtain ⟨ad, rfl, hc⟩ := (HR.out.below hb (Nat.le_refl _)).get k (by rw [← HN.out]; exact hlt)
      have HY := Lib.hid (S.sq_yes l k)
      have HO1 := Lib.hid (S.sq_no l k)
      obtain ⟨u, HU⟩ : ∃ z, Hid (z = l.getD k 0) := ⟨_, rfl⟩
      rw [← HU.out] at hc HY HO1
      have HBL := Lib.hid hb
      have HO := Lib.hid hown
      clear hb hown
      go_wp2_with fail
      go_at_call 55
      refine (eIs g S u _ (HF.out.below HBL.out)).mono ?_
      rintro e w3 ⟨b, rfl, hbi, hb3⟩
      have HB3 := Lib.hid (below_step HBL.out hb3 HBL.out.size)
      have ho3 := HO.out.below hb3 HO.out.lt
      have hcc := ho3.cell k (by simp [FS.nums_length]; omega)
      have hf := ho3.free k
      cases b
      · have HZ : Hid ((S.sq l k).1 = 0) := HO1.out fun h => by have := hbi.2 h; cases this
        have HK := Lib.hid ho3
        clear hb3 hc ho3 hcc hf hbi
        go_wp2
        go_roundg (n - (k + 1))
        case measure => have := HGQ.out; omega
        case rel =>
          refine ⟨k + 1, by omega, rfl, by go_num, ?_, HB3.out⟩
          rw [S.nums_snoc, HZ.out, List.append_assoc]
          have := HK.out
          rwa [show n - k = n - (k + 1) + 1 by omega, List.replicate_succ] at this
      · have HZ : Hid ((S.sq l k).1 = u) := HY.out (hbi.1 rfl)
        have HS := Lib.hid (ho3.set k u)
        clear hb3 hc ho3 hbi
        go_wp2
        go_roundg (n - (k + 1))
        case measure => have := HGQ.out; omega
        case rel =>
          refine ⟨k + 1, by omega, rfl, by go_num, ?_, HB3.out.setCell (Nat.le_refl _) _⟩
          have := HS.out
          rw [set_fill _ k n _ (S.nums_length _ _) hlt, ← HZ.out, ← S.nums_snoc] at this
          rw [← HZ.out]; exact this
    · obtain rfl : k = n := by omega
      have HBL := Lib.hid hb
      have HRD : Hid (Rd wr (some ⟨w.heap.size, 0, none⟩) (S.nums l k)) := by
        have := hown.rdTake k (by simp [FS.nums_length]) (by omega)
        rw [List.take_append_of_le_length (by rw [S.nums_length]; omega), List.take_of_length_le (by rw [S.nums_length]; omega)] at this
        exact this
      clear hb hown
      have CT : Hid (Calls Try.prog 56 #[.slice (some ⟨w.heap.size, 0, none⟩) k k] wr fun e w' => e = .returned (.slice (some ⟨w.heap.size, 0, none⟩) (S.canL l).length k) ∧ Below wr.heap.size wr w') := by
        have := trim_calls (some ⟨w.heap.size, 0, none⟩) k (S.nums l k) wr HRD.out (by rw [S.nums_length]; omega)
        rw [S.nums_length] at this
        rw [show S.canL l = trimL (S.nums l k) by unfold FS.canL FS.nums; rw [HN.out]]
        exact this
      go_wp2_with fail
      go_at_call 56
      refine CT.out.mono ?_
      rintro e w4 ⟨rfl, hb4⟩
      go_wp2
      go_ret
      refine ⟨_, _, rfl, ?_, ?_, fun h => (by cases h), fun ad h => (by cases h; exact Nat.le_refl _), below_step HBL.out hb4 HBL.out.size⟩
      · rw [show S.canL l = trimL (S.nums l k) by unfold FS.canL FS.nums; rw [HN.out]]
        obtain ⟨j, e, hj, _⟩ := trimL_spec (S.nums l k)
        rw [e]
        exact (HRD.out.take j hj).below hb4 (Nat.le_refl _)
      · rw [show S.canL l = trimL (S.nums l k) by unfold FS.canL FS.nums; rw [HN.out]]
        have := trimL_len (S.nums l k)
        rw [S.nums_length] at this
        exact this

end Go.Proofs.Ytdbhhfhfjlpepaa

/- Registers: isRegister, gap. -/
namespace Go.Proofs.Ytdbhhfhfjlpepaa
open Go.RowKit
attribute [local go_sem ↓] Go.wp_at_zero Go.wp_at_succ

theorem add_nought (a : Addr) : a.add 0 = a := Addr.add_zero' a
set_option maxHeartbeats 1000000 in
theorem isReg_calls (A : Option Addr) (c : Nat) (l : List Int) (L : Int) (w : World) (hr : Rd w A l) :
    Calls Try.prog 35 #[.slice A l.length c, .int .i64 L] w fun e w' => BoolIs (0 ≤ L ∧ 0 < l.length ∧ l.getD 0 0 = 1 ∧ (l.length : Int) - 1 ≤ L) w e w' := by
  have hb0 := hr.1
  have HR := Lib.hid hr
  clear hr
  obtain ⟨n, HN⟩ : ∃ n, Hid (n = l.length) := ⟨_, rfl⟩
  rw [← HN.out] at hb0 ⊢
  obtain ⟨p, HP⟩ : ∃ p : Prop, Hid (p ↔ (0 ≤ L ∧ 0 < n ∧ l.getD 0 0 = 1 ∧ (n : Int) - 1 ≤ L)) := ⟨_, Iff.rfl⟩
  rw [← propext HP.out]
  go_enter Try.func35, Try.ntmps35
  by_cases h1 : 0 ≤ L
  · by_cases h2 : 0 < n
    · obtain ⟨ad, rfl, hcell⟩ := HR.out.get 0 (by rw [← HN.out]; exact h2)
      obtain ⟨u, hu⟩ : ∃ z, z = l.getD 0 0 := ⟨_, rfl⟩
      rw [← hu] at hcell HP
      clear hu
      have hcell0 : w.cell? ad = some (.int .i64 u) := (congrArg w.cell? (add_nought ad)).symm.trans hcell
      clear hcell
      have hn0 : ((n : Int) - 1) = ((n - 1 : Nat) : Int) := by omega
      by_cases h3 : u = 1
      · subst h3
        by_cases h4 : (n : Int) - 1 ≤ L
        · go_wp2
          go_ret
          refine ⟨_, rfl, ⟨fun _ => HP.out.2 ⟨h1, h2, by simp, h4⟩, fun _ => ?_⟩, Below.refl _ _⟩
          simp; omega
        · go_wp2
          go_ret
          refine ⟨_, rfl, ⟨fun h => ?_, fun h => absurd (HP.out.1 h).2.2.2 (by omega)⟩, Below.refl _ _⟩
          simp at h; omega
      · have h3' : (u == 1) = false := by simp [h3]
        go_wp2
        go_ret
        refine ⟨_, rfl, ⟨fun h => ?_, fun h => absurd (HP.out.1 h).2.2.1 h3⟩, Below.refl _ _⟩
        simp at h
    · obtain rfl : n = 0 := by omega
      go_wp2
      go_ret
      refine ⟨_, rfl, ⟨fun h => ?_, fun h => absurd (HP.out.1 h).2.1 h2⟩, Below.refl _ _⟩
      simp at h
  · go_wp2
    go_ret
    refine ⟨_, rfl, ⟨fun h => ?_, fun h => absurd (HP.out.1 h).1 (by omega)⟩, Below.refl _ _⟩
    simp at h

set_option maxHeartbeats 1000000 in
theorem gap_calls (g : Nat) (S : FS) (A : Option Addr) (c : Nat) (l : List Int) (B : Option Addr) (d : Nat) (s : List Int) (j : Nat) (w : World) (hf : FldAt w g S) (hr : Rd w A l) (hs : Rd w B s) (hl : l.length ≤ 5000) (hj : j < s.length) (hsl : s.length ≤ 5000) :
    Calls Try.prog 38 #[.pointer (some ⟨g, 0, none⟩), .slice A l.length c, .slice B s.length d, .int .i64 j] w fun e w' => e = .returned (.int .i64 (El.cv (S.sq l) (S.sq s) j).1) ∧ Below w.heap.size w w' := by
  have HF := Lib.hid hf
  have HR := Lib.hid hr
  have HS := Lib.hid hs
  clear hf hr hs
  obtain ⟨n, HN⟩ : ∃ n, Hid (n = l.length) := ⟨_, rfl⟩
  obtain ⟨m, HM⟩ : ∃ m, Hid (m = s.length) := ⟨_, rfl⟩
  rw [← HM.out] at hj hsl
  rw [← HN.out] at hl
  obtain ⟨T, HT⟩ : ∃ T : Nat → El S, Hid (∀ k, T k = El.sm (fun i => if i ≤ j then S.sq l i * S.sq s (j - i) else 0) k) := ⟨_, fun _ => rfl⟩
  have HE : Hid (El.cv (S.sq l) (S.sq s) j = T n) := by
    unfold Hid
    rw [HT.out]
    exact El.cv_le _ _ _ _ fun i _ h => S.sq_far l i (by rw [← HN.out]; exact h)
  have HT0 : Hid (T 0 = 0) := HT.out 0
  have HTY : Hid (∀ k, k ≤ j → T (k + 1) = T k + S.sq l k * S.sq s (j - k)) := by
    intro k hk
    rw [HT.out, HT.out, El.sm, if_pos hk]
  have HTN : Hid (∀ k, ¬ k ≤ j → T (k + 1) = T k) := by
    intro k hk
    rw [HT.out, HT.out, El.sm, if_neg hk, El.add_zero]
  rw [← HN.out, ← HM.out, HE.out]
  clear HT HE
  go_enter Try.func38, Try.ntmps38
  go_wp2
  go_loopg [9, 14] n (fun g2 u i wr => ∃ k : Nat, k ≤ n ∧ g2 = n - k ∧ i = .int .i64 k ∧ u = .int .i64 (T k).1 ∧ Below w.heap.size w wr)
  case atStart => exact ⟨0, Nat.zero_le _, rfl, rfl, by rw [HT0.out]; rfl, Below.refl _ _⟩
  case round =>
    obtain ⟨k, hk, HGQ, rfl, rfl, hb⟩ := hrel
    replace HGQ := Lib.hid HGQ
    obtain ⟨t, HTT⟩ : ∃ t, Hid (t = (T k).1) := ⟨_, rfl⟩
    rw [← HTT.out]
    by_cases hlt : k < n
    · obtain ⟨ad, rfl, hc⟩ := (HR.out.below hb (Nat.le_refl _)).get k (by rw [← HN.out]; exact hlt)
      obtain ⟨u, HU⟩ : ∃ z, Hid (z = l.getD k 0) := ⟨_, rfl⟩
      rw [← HU.out] at hc
      have HBL := Lib.hid hb
      by_cases hkj : k ≤ j
      · obtain ⟨bd, rfl, hd⟩ := (HS.out.below hb (Nat.le_refl _)).get (j - k) (by rw [← HM.out]; omega)
        obtain ⟨v, HV⟩ : ∃ z, Hid (z = s.getD (j - k) 0) := ⟨_, rfl⟩
        rw [← HV.out] at hd
        have hjk : ((j : Int) - (k : Int)) = ((j - k : Nat) : Int) := by omega
        have hjm : j - k < m := by omega
        clear hb
        go_wp2_with fail
        go_at_call 58
        refine (eMul g S u v _ (HF.out.below HBL.out)).mono ?_
        rintro e w3 ⟨rfl, hb3⟩
        have HB3 := Lib.hid (below_step HBL.out hb3 HBL.out.size)
        clear hb3 hc hd
        go_wp2_with fail
        go_at_call 36
        refine (eAdd g S t (S.el u * S.el v).1 _ (HF.out.below HB3.out)).mono ?_
        rintro e w4 ⟨rfl, hb4⟩
        have HB4 := Lib.hid (below_step HB3.out hb4 HB3.out.size)
        have HZ : Hid (S.el t + S.el (S.el u * S.el v).1 = T (k + 1)) := by
          unfold Hid
          rw [HTY.out k hkj, S.el_of, HTT.out, S.el_of, HU.out, HV.out]; rfl
        rw [HZ.out]
        clear hb4
        go_wp2
        go_roundg (n - (k + 1))
        case measure => have := HGQ.out; omega
        case rel => exact ⟨k + 1, by omega, rfl, by go_num, rfl, HB4.out⟩
      · clear hb
        go_wp2
        go_roundg (n - (k + 1))
        case measure => have := HGQ.out; omega
        case rel => exact ⟨k + 1, by omega, rfl, by go_num, by rw [HTN.out k hkj, HTT.out], HBL.out⟩
    · obtain rfl : k = n := by omega
      have HBL := Lib.hid hb
      clear hb
      go_wp2
      go_ret
      exact ⟨by rw [← HTT.out]; rfl, HBL.out⟩

end Go.Proofs.Ytdbhhfhfjlpepaa

/- Polynomials: combine, Sub. -/
namespace Go.Proofs.Ytdbhhfhfjlpepaa
open Go.RowKit
attribute [local go_sem ↓] Go.wp_at_zero Go.wp_at_succ

/-- The first k of p with a times o added, the others p's own. -/
def FS.mixed (S : FS) (p : List Int) (a : El S) (o : List Int) (n k : Nat) : List Int := (List.range n).map fun i => if i < k then (S.sq p i + a * S.sq o i).1 else (S.sq p i).1
theorem FS.mixed_length (S : FS) (p : List Int) (a : El S) (o : List Int) (n k : Nat) : (S.mixed p a o n k).length = n := by simp [FS.mixed]
theorem FS.mixed_at (S : FS) (p : List Int) (a : El S) (o : List Int) (n k i : Nat) (h : i < n) : (S.mixed p a o n k).getD i 0 = if i < k then (S.sq p i + a * S.sq o i).1 else (S.sq p i).1 := by
  simp [FS.mixed, List.getD_eq_getElem?_getD, h]
theorem FS.mixed_zero (S : FS) (p : List Int) (a : El S) (o : List Int) (n : Nat) (h : p.length ≤ n) : S.nums p p.length ++ List.replicate (n - p.length) 0 = S.mixed p a o n 0 := by
  refine List.ext_getElem (by simp [FS.nums, FS.mixed]; omega) fun i h1 h2 => ?_
  by_cases hi : i < p.length
  · simp [FS.nums, FS.mixed, hi]
  · simp [FS.nums, FS.mixed, List.getElem_append, hi, S.sq_far p i (by omega)]; rfl
theorem FS.mixed_all (S : FS) (p : List Int) (a : El S) (o : List Int) (n : Nat) (_h : o.length ≤ n) : S.mixed p a o n o.length = S.comb0 p a o n := by
  refine List.map_congr_left fun i hi => ?_
  by_cases h : i < o.length
  · simp [h]
  · simp only [h]
    rw [S.sq_far o i (by omega), El.mul_zero, El.add_zero]; rfl
theorem FS.mixed_set (S : FS) (p : List Int) (a : El S) (o : List Int) (n k : Nat) (_h : k < n) : (S.mixed p a o n k).set k (S.sq p k + a * S.sq o k).1 = S.mixed p a o n (k + 1) := by
  refine List.ext_getElem (by simp [FS.mixed]) fun i h1 h2 => ?_
  rw [List.getElem_set]
  by_cases hi : k = i
  · subst hi; simp [FS.mixed]
  · rw [if_neg hi]
    by_cases h3 : i < k
    · simp [FS.mixed, h3, show i < k + 1 by omega]
    · simp [FS.mixed, h3, show ¬ i < k + 1 by omega]

set_option maxHeartbeats 2000000 in
theorem combine_calls (g : Nat) (S : FS) (A : Option Addr) (c : Nat) (l : List Int) (a : Int) (B : Option Addr) (d : Nat) (o : List Int) (w : World) (hf : FldAt w g S) (hr : Rd w A l) (ho : Rd w B o) (hl : l.length ≤ 5000) (hol : o.length ≤ 5000) :
    Calls Try.prog 70 #[.pointer (some ⟨g, 0, none⟩), .slice A l.length c, .int .i64 a, .slice B o.length d] w fun e w' => NewL w e w' (S.combL l (S.el a) o) := by
  have HF := Lib.hid hf
  have HR := Lib.hid hr
  have HO := Lib.hid ho
  clear hf hr ho
  obtain ⟨n, HN⟩ : ∃ n, Hid (n = l.length) := ⟨_, rfl⟩
  obtain ⟨m, HM⟩ : ∃ m, Hid (m = o.length) := ⟨_, rfl⟩
  obtain ⟨t, HT⟩ : ∃ t, Hid (t = max n m) := ⟨_, rfl⟩
  rw [← HN.out] at hl ⊢
  rw [← HM.out] at hol ⊢
  have htn : n ≤ t := by rw [HT.out]; exact Nat.le_max_left _ _
  have htm : m ≤ t := by rw [HT.out]; exact Nat.le_max_right _ _
  have htl : t ≤ 5000 := by rw [HT.out]; exact Nat.max_le.2 ⟨hl, hol⟩
  have hmax : ∀ (ts : Array TypeId) (ty : TypeId) (W : World), (Builtin.max_ ts ty #[.int .i64 n, .int .i64 m]).run Try.prog W = .ok (.int .i64 t) W := fun ts ty W => by
    rw [run_max_int2, HT.out, show (if (m : Int) > (n : Int) then (m : Int) else n) = ((max n m : Nat) : Int) by split <;> omega]
  have hmk := makeInts t (by omega)
  have hmade := Own.made w t (by omega)
  go_enter Try.func70, Try.ntmps70
  go_wp2
  go_loopg [22] n (fun g2 i wr => ∃ k : Nat, k ≤ n ∧ g2 = n - k ∧ i = .int .i64 k ∧ Own wr w.heap.size t (S.nums l k ++ List.replicate (t - k) 0) ∧ Below w.heap.size w wr)
  case atStart => exact ⟨0, Nat.zero_le _, rfl, rfl, by simpa [FS.nums] using hmade, (Below.refl _ _).alloc (Nat.le_refl _) _⟩
  case round =>
    obtain ⟨k, hk, HGQ, rfl, hown, hb⟩ := hrel
    replace HGQ := Lib.hid HGQ
    clear hmk hmade
    by_cases hlt : k < n
    · obtain ⟨ad, rfl, hc⟩ := (HR.out.below hb (Nat.le_refl _)).get k (by rw [← HN.out]; exact hlt)
      obtain ⟨u, HU⟩ : ∃ z, Hid (z = l.getD k 0) := ⟨_, rfl⟩
      rw [← HU.out] at hc
      have HBL := Lib.hid hb
      have HOW := Lib.hid hown
      have HZ : Hid (S.el u + S.el 0 = S.sq l k) := by unfold Hid; rw [S.el_0, El.add_zero, HU.out]; rfl
      clear hb hown
      go_wp2_with fail
      go_at_call 36
      refine (eAdd g S u 0 _ (HF.out.below HBL.out)).mono ?_
      rw [HZ.out]
      rintro e w3 ⟨rfl, hb3⟩
      have HB3 := Lib.hid (below_step HBL.out hb3 HBL.out.size)
      have ho3 := HOW.out.below hb3 HOW.out.lt
      have hcc := ho3.cell k (by simp [FS.nums_length]; omega)
      have hf := ho3.free k
      have hkt : k < t := by omega
      have HS := Lib.hid (ho3.set k (S.sq l k).1)
      clear hb3 hc ho3
      go_wp2
      go_roundg (n - (k + 1))
      case measure => have := HGQ.out; omega
      case rel =>
        refine ⟨k + 1, by omega, rfl, by go_num, ?_, HB3.out.setCell (Nat.le_refl _) _⟩
        have := HS.out
        rw [set_fill _ k t _ (S.nums_length _ _) hkt, ← S.nums_snoc] at this
        exact this
    · obtain rfl : k = n := by omega
      have HBL := Lib.hid hb
      have HOW : Hid (Own wr w.heap.size t (S.mixed l (S.el a) o t 0)) := by
        unfold Hid; rw [← S.mixed_zero l (S.el a) o t (by rw [← HN.out]; exact htn), ← HN.out]; exact hown
      clear hb hown
      go_wp2
      go_loopg [36] m (fun g2 i wr => ∃ k : Nat, k ≤ m ∧ g2 = m - k ∧ i = .int .i64 k ∧ Own wr w.heap.size t (S.mixed l (S.el a) o t k) ∧ Below w.heap.size w wr)
      case atStart => exact ⟨0, Nat.zero_le _, rfl, rfl, HOW.out, HBL.out⟩
      case round =>
        obtain ⟨k2, hk2, HGQ2, rfl, hown, hb⟩ := hrel
        replace HGQ2 := Lib.hid HGQ2
        by_cases hlt2 : k2 < m
        · obtain ⟨bd, rfl, hc⟩ := (HO.out.below hb (Nat.le_refl _)).get k2 (by rw [← HM.out]; exact hlt2)
          obtain ⟨u, HU⟩ : ∃ z, Hid (z = o.getD k2 0) := ⟨_, rfl⟩
          rw [← HU.out] at hc
          have hkt : k2 < t := by omega
          have HBB := Lib.hid hb
          have HOO := Lib.hid hown
          obtain ⟨x, HX⟩ : ∃ x, Hid (x = (S.sq l k2).1) := ⟨_, rfl⟩
          have hcc := hown.cell k2 (by rw [S.mixed_length]; exact hkt)
          rw [S.mixed_at _ _ _ _ _ _ hkt, if_neg (Nat.lt_irrefl _), ← HX.out] at hcc
          have hcu := hcc
          obtain ⟨v, HV⟩ : ∃ v, Hid (v = (S.el a * S.el u).1) := ⟨_, rfl⟩
          have CM : Hid (∀ W, Below wr.heap.size wr W → Calls Try.prog 58 #[.pointer (some ⟨g, 0, none⟩), .int .i64 a, .int .i64 u] W fun e w' => e = .returned (.int .i64 v) ∧ Below W.heap.size W w') := by
            intro W hW; rw [HV.out]; exact eMul g S a u W (HF.out.below (below_step HBB.out hW HBB.out.size))
          have CA : Hid (∀ W, Below wr.heap.size wr W → Calls Try.prog 36 #[.pointer (some ⟨g, 0, none⟩), .int .i64 x, .int .i64 v] W fun e w' => e = .returned (.int .i64 (S.el x + S.el v).1) ∧ Below W.heap.size W w') := by
            intro W hW; exact eAdd g S x v W (HF.out.below (below_step HBB.out hW HBB.out.size))
          have HZ : Hid (S.el x + S.el v = S.sq l k2 + S.el a * S.sq o k2) := by
            unfold Hid; rw [HX.out, HV.out, S.el_of, S.el_of, HU.out]; rfl
          have hfz := hown.free k2
          have hkt0 : (k2 : Int) < (t : Int) := by omega
          have hk0 : (0 : Int) ≤ (k2 : Int) := by omega
          clear hb hown
          go_wp2
          go_region_with (first | (go_at_call 58; refine (CM.out _ (by first | exact Below.refl _ _ | exact (Below.refl _ _).drew | exact (Below.refl _ _).drew.drew)).mono ?_; rintro e w3 ⟨rfl, hb3⟩; replace hb3 : Below wr.heap.size wr w3 := below_in hb3; obtain ⟨hc3, hf3, hb3⟩ := keepCF0 hcu hfz hb3) | (go_at_call 36; refine (CA.out _ (by first | exact hb3 | exact hb3.drew | exact hb3.drew.drew)).mono ?_; rintro e w4 ⟨rfl, hb4⟩; replace hb4 : Below wr.heap.size wr w4 := below_on hb3 hb4; obtain ⟨hc4, hf4, hb4⟩ := keepCF0 hcu hfz hb4))
          all_goals
            have HS := Lib.hid ((HOO.out.below hb4 HOO.out.lt).set k2 (S.el x + S.el v).1)
            have HB4 := Lib.hid (below_step HBB.out hb4 HBB.out.size)
            clear hcc hcu hc3 hf3 hb3 hc4 hf4 hb4 hfz hkt0 hk0
            go_wp2
            go_roundg (m - (k2 + 1))
            case measure => have := HGQ2.out; omega
            case rel =>
              refine ⟨k2 + 1, by omega, rfl, by go_num, ?_, HB4.out.setCell (Nat.le_refl _) _⟩
              have := HS.out
              rw [HZ.out, S.mixed_set _ _ _ _ _ hkt] at this
              rw [HZ.out]; exact this
        · obtain rfl : k2 = m := by omega
          have HBB := Lib.hid hb
          have HRD : Hid (Rd wr (some ⟨w.heap.size, 0, none⟩) (S.comb0 l (S.el a) o t)) := by
            have := hown.rdTake t (by rw [S.mixed_length]; exact Nat.le_refl _) (by omega)
            rw [List.take_of_length_le (by rw [S.mixed_length]; exact Nat.le_refl _), HM.out, S.mixed_all _ _ _ _ (by rw [← HM.out]; exact htm)] at this
            exact this
          have hcl : (S.comb0 l (S.el a) o t).length = t := by simp [FS.comb0]
          have HE : Hid (S.combL l (S.el a) o = trimL (S.comb0 l (S.el a) o t)) := by unfold Hid FS.combL; rw [HT.out, HN.out, HM.out]
          clear hb hown
          have CT : Hid (Calls Try.prog 56 #[.slice (some ⟨w.heap.size, 0, none⟩) t t] wr fun e w' => e = .returned (.slice (some ⟨w.heap.size, 0, none⟩) (S.combL l (S.el a) o).length t) ∧ Below wr.heap.size wr w') := by
            have := trim_calls (some ⟨w.heap.size, 0, none⟩) t (S.comb0 l (S.el a) o t) wr HRD.out (by omega)
            rw [hcl, ← HE.out] at this
            exact this
          go_wp2_with fail
          go_at_call 56
          refine CT.out.mono ?_
          rintro e w4 ⟨rfl, hb4⟩
          go_wp2
          go_ret
          refine ⟨_, _, rfl, ?_, ?_, fun h => (by cases h), fun ad h => (by cases h; exact Nat.le_refl _), below_step HBB.out hb4 HBB.out.size⟩
          · rw [HE.out]
            obtain ⟨j, e, hj, _⟩ := trimL_spec (S.comb0 l (S.el a) o t)
            rw [e]
            exact (HRD.out.take j hj).below hb4 (Nat.le_refl _)
          · rw [HE.out]
            have := trimL_len (S.comb0 l (S.el a) o t)
            omega

set_option maxHeartbeats 1000000 in
theorem polySub_calls (g : Nat) (S : FS) (A : Option Addr) (c : Nat) (l : List Int) (B : Option Addr) (d : Nat) (o : List Int) (w : World) (hf : FldAt w g S) (hr : Rd w A l) (ho : Rd w B o) (hl : l.length ≤ 5000) (hol : o.length ≤ 5000) :
    Calls Try.prog 62 #[.pointer (some ⟨g, 0, none⟩), .slice A l.length c, .slice B o.length d] w fun e w' => NewL w e w' (S.combL l (-1) o) := by
  have HF := Lib.hid hf
  have CC : Hid (∀ W, Below w.heap.size w W → Calls Try.prog 70 #[.pointer (some ⟨g, 0, none⟩), .slice A l.length c, .int .i64 (-(S.el 1)).1, .slice B o.length d] W fun e w' => NewL W e w' (S.combL l (-1) o)) := by
    intro W h
    have := combine_calls g S A c l (-(S.el 1)).1 B d o W (hf.below h) (hr.below h (Nat.le_refl _)) (ho.below h (Nat.le_refl _)) hl hol
    have e : S.el (-(S.el 1)).1 = -1 := by rw [S.el_of (-(S.el 1)), S.el_1]
    rw [e] at this
    exact this
  clear hf hr ho
  obtain ⟨n, HN⟩ : ∃ n, Hid (n = l.length) := ⟨_, rfl⟩
  obtain ⟨m, HM⟩ : ∃ m, Hid (m = o.length) := ⟨_, rfl⟩
  rw [← HN.out, ← HM.out] at CC ⊢
  go_enter Try.func62, Try.ntmps62
  go_wp2_with fail
  go_at_call 37
  refine (eNeg g S 1 _ HF.out).mono ?_
  rintro e w1 ⟨rfl, hb1⟩
  go_wp2_with fail
  go_at_call 70
  refine (CC.out _ hb1).mono ?_
  rintro e w2 ⟨A2, c2, rfl, h1, h2, h3, h4, hb2⟩
  go_wp2
  go_ret
  exact ⟨A2, c2, rfl, h1, h2, h3, fun ad h => Nat.le_trans hb1.size (h4 ad h), below_step hb1 hb2 hb1.size⟩

end Go.Proofs.Ytdbhhfhfjlpepaa

/- 'append(a, b...)' onto a row of the call's own. -/
namespace Go.Proofs.Ytdbhhfhfjlpepaa
open Go.RowKit

theorem wp_joined {o : Oper} {a : Act} {w : World} {K : Act → World → Prop} {Q : Exit → Act → World → Prop} (s x : Operand)
    (ho : o.op = .call { callee := .builtin .append, args := #[s, x], argTypes := #[22, 22] }) (b m c0 : Nat) (hs : a.eval s = .slice (some ⟨b, 0, none⟩) m c0) (ys : List Int) (hm : ys.length = m) (hown : Own w b c0 ys)
    (ad : Addr) (n c : Nat) (l : List Int) (hn : l.length = n) (hx : a.eval x = .slice (some ad) n c) (hr : Rd w (some ad) l) (hl : m + n ≤ 20000)
    (h : ∀ b' c' w', Own w' b' c' (ys ++ l) → w.grownBy w' (some b) → (b' = b ∨ b' = w.heap.size) → K (a.put o.dst (.slice (some ⟨b', 0, none⟩) (m + n) c')) w') :
    Oper.wp Try.prog o a w K Q := by
  obtain ⟨i0, hi, hz0, hz1, hz2⟩ := info_parts info_int
  have hlt : b < w.heap.size := hown.lt
  subst hn
  subst hm
  obtain ⟨v', w', hrun, h2, h3, _, h5⟩ := run_append_own_at (P := Try.prog) w b 22 o.type 3 i0 (.int .i64 0) 1 8 Try.underlying22 hi hz0 hz1 hz2 rfl (by decide) (.slice (some ⟨b, 0, none⟩) ys.length c0) ys.length (ints ys) hown
    ad l.length c (ints l) (by simp [ints]) (fun j u hj => by
      have hj2 : j < l.length := by have := (List.getElem?_eq_some_iff.1 hj).1; simpa [ints] using this
      obtain ⟨ad', e, _, hc⟩ := hr.2 (by omega)
      obtain rfl : ad = ad' := by simpa using e
      rw [hc j hj2]
      rw [← hj]
      simp [ints, List.getElem?_eq_getElem hj2, List.getD_eq_getElem?_getD]) (ints_one _) (by unfold maxLen; omega) (by omega) (by omega)
  have hv : ∃ b' c', v' = .slice (some ⟨b', 0, none⟩) (ys.length + l.length) c' ∧ Own w' b' c' (ys ++ l) := by
    rcases h2 with ⟨k1, k2⟩
    rcases k2 with ⟨rfl, k2⟩ | ⟨g, cap, cur, e1, e2, e3⟩
    · simp [Value.ownBlock] at h5
    · refine ⟨g, cap, e1, ?_⟩
      exact ⟨by simp [ints], .inr ⟨g, cap, cur, by simp, Nat.le_refl _, by simpa [ints] using e3⟩⟩
  obtain ⟨b', c', rfl, ho2⟩ := hv
  unfold Oper.wp execOp
  simp only [ho, resolve, invoke, builtin, Sem.run_bind, Sem.run_pure, Result.andThen_ok, List.map_toArray, List.map_cons, List.map_nil, hs, hx, hrun]
  exact h b' c' w' ho2 (by simpa [Value.ownBlock] using h3) (by simpa [Value.ownBlock] using h5)

theorem step_joined {ops : Array Oper} {o : Oper} {a : Act} {w : World} {K : Act → World → Prop} {Q : Exit → Act → World → Prop} {E : Prop} (hgd : o.guard = none) (s x : Operand)
    (ho : o.op = .call { callee := .builtin .append, args := #[s, x], argTypes := #[22, 22] }) (b m c0 : Nat) (hs : a.eval s = .slice (some ⟨b, 0, none⟩) m c0) (ys : List Int) (hm : ys.length = m) (hown : Own w b c0 ys)
    (ad : Addr) (n c : Nat) (l : List Int) (hn : l.length = n) (hx : a.eval x = .slice (some ad) n c) (hr : Rd w (some ad) l) (hl : m + n ≤ 20000)
    (h : ∀ b' c' w', Own w' b' c' (ys ++ l) → w.grownBy w' (some b) → (b' = b ∨ b' = w.heap.size) → K (a.put o.dst (.slice (some ⟨b', 0, none⟩) (m + n) c')) w') :
    if Region.wanted o (yielded ops a.tmps) = true then Oper.wp Try.prog o a w K Q else E := by
  have hw : Region.wanted o (yielded ops a.tmps) = true := by simp [Region.wanted, hgd]
  rw [if_pos hw]
  exact wp_joined s x ho b m c0 hs ys hm hown ad n c l hn hx hr hl h
theorem wpList_joined {ops : Array Oper} {rest : List Oper} {o : Oper} {a : Act} {w : World} {Q : Exit → Act → World → Prop} (hgd : o.guard = none) (s x : Operand)
    (ho : o.op = .call { callee := .builtin .append, args := #[s, x], argTypes := #[22, 22] }) (b m c0 : Nat) (hs : a.eval s = .slice (some ⟨b, 0, none⟩) m c0) (ys : List Int) (hm : ys.length = m) (hown : Own w b c0 ys)
    (ad : Addr) (n c : Nat) (l : List Int) (hn : l.length = n) (hx : a.eval x = .slice (some ad) n c) (hr : Rd w (some ad) l) (hl : m + n ≤ 20000)
    (h : ∀ b' c' w', Own w' b' c' (ys ++ l) → w.grownBy w' (some b) → (b' = b ∨ b' = w.heap.size) → wpList Try.prog ops Q rest (a.put o.dst (.slice (some ⟨b', 0, none⟩) (m + n) c')) w') :
    wpList Try.prog ops Q (o :: rest) a w :=
  wpList_plain hgd fun _ hK => wp_joined s x ho b m c0 hs ys hm hown ad n c l hn hx hr hl fun b' c' w' h1 h2 h3 => hK _ _ (h b' c' w' h1 h2 h3)

/-- A list lies apart from two blocks. -/
def Sep (A : Option Addr) (l : List Int) (ob b : Nat) : Prop := 0 < l.length → ∀ ad, A = some ad → ad.block ≠ ob ∧ ad.block ≠ b
theorem World.cell?_blk {W W' : World} {p : Addr} (h : W'.heap[p.block]? = W.heap[p.block]?) : W'.cell? p = W.cell? p := World.cell?_of_block (w := W) h
theorem Rd.past {W W' : World} {A : Option Addr} {l : List Int} {ob b : Nat} (h : Rd W A l) (hs : Sep A l ob b) (hk : ∀ k, k < W.heap.size → k ≠ ob → k ≠ b → W'.heap[k]? = W.heap[k]?) (hsz : W.heap.size ≤ W'.heap.size) : Rd W' A l := by
  refine ⟨h.1, fun hp => ?_⟩
  obtain ⟨ad, e, hl, hc⟩ := h.2 hp
  refine ⟨ad, e, by omega, fun j hj => ?_⟩
  have h2 := hc j hj
  have hb : (ad.add j).block = ad.block := by unfold Addr.add; split <;> rfl
  rw [← h2]
  refine World.cell?_blk ?_
  rw [hb]
  exact hk _ hl (hs hp ad e).1 (hs hp ad e).2
theorem Sep.past {W : World} {A : Option Addr} {l : List Int} {ob b b' : Nat} (hs : Sep A l ob b) (h : Rd W A l) (hb : b' = b ∨ W.heap.size ≤ b') : Sep A l ob b' := by
  intro hp ad e
  obtain ⟨ad', e', hl, _⟩ := h.2 hp
  obtain rfl : ad = ad' := by rw [e] at e'; exact Option.some.inj e'
  refine ⟨(hs hp ad e).1, ?_⟩
  rcases hb with rfl | hb
  · exact (hs hp ad e).2
  · omega
theorem Sep.new {A : Option Addr} {l : List Int} {ob b n : Nat} (h : ∀ ad, A = some ad → n ≤ ad.block) (h1 : ob < n) (h2 : b < n) : Sep A l ob b := fun _ ad e => by have := h ad e; omega

end Go.Proofs.Ytdbhhfhfjlpepaa

/- What the two walks of the algorithm share. -/
namespace Go.Proofs.Ytdbhhfhfjlpepaa
open Go.RowKit

/-- What a function that is called after each entry must do: it may turn the blocks ob and b alone. -/
def AfterRet (n₀ ob : Nat) (J : List Int → Nat → World → Prop) (W : World) (pre : List Int) (b l : Nat) (e : Ending) (W' : World) : Prop :=
  (∃ v, e = .returned v) ∧ ∃ b', J (pre ++ [(l : Int)]) b' W' ∧ (b' = b ∨ W.heap.size ≤ b') ∧ Below n₀ W W' ∧ W.heap.size ≤ W'.heap.size ∧ ∀ k, k < W.heap.size → k ≠ ob → k ≠ b → W'.heap[k]? = W.heap[k]?
/-- What the algorithm hands back. -/
def RunRet (n₀ : Nat) (S : FS) (s : List Int) (J : List Int → Nat → World → Prop) (w : World) (e : Ending) (w' : World) : Prop :=
  ∃ A c b, e = .returned (.tuple #[.slice A (BM.run S s s.length).c.length c, .int .i64 (BM.run S s s.length).l]) ∧ Rd w' A (BM.run S s s.length).c ∧ J ((List.range s.length).map fun i => ((BM.run S s (i + 1)).l : Int)) b w' ∧ Below n₀ w w'

theorem rd_one (w : World) (a : Int) : Rd (w.alloc (.cells #[.int .i64 a] 3)) (some ⟨w.heap.size, 0, none⟩) [a] := by
  refine ⟨by simp, fun _ => ⟨_, rfl, by simp, fun j hj => ?_⟩⟩
  have h := heap_alloc_new w (.cells #[.int .i64 a] 3)
  obtain rfl : j = 0 := by simp at hj; omega
  exact (cell_of_row _ _ 0 _ _ _ h).trans rfl
/-- What the loop holds: both polynomials, what has been told, what lies as it lay. -/
def Bun (n₀ : Nat) (w : World) (ob : Nat) (J : List Int → Nat → World → Prop) (ls c old : List Int) (A1 A2 : Option Addr) (b : Nat) (wr : World) : Prop :=
  Rd wr A1 c ∧ Rd wr A2 old ∧ Sep A1 c ob b ∧ Sep A2 old ob b ∧ J ls b wr ∧ Below n₀ w wr
theorem Own.rdAll {w : World} {g cap : Nat} {xs : List Int} (h : Own w g cap xs) (hl : xs.length ≤ 140737488351232) : Rd w (some ⟨g, 0, none⟩) xs := by
  have := h.rdTake xs.length (Nat.le_refl _) hl
  rwa [List.take_length] at this

end Go.Proofs.Ytdbhhfhfjlpepaa
