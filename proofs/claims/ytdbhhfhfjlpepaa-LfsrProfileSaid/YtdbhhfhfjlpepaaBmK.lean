/- What the algorithm's register is good for; lfsr.Holds. -/
import Derived.Test.YtdbhhfhfjlpepaaGen
import Derived.Test.YtdbhhfhfjlpepaaLfF
namespace Go.Proofs.Ytdbhhfhfjlpepaa
namespace FS
variable (S : FS)
theorem bm_gen (hI : S.Inverts) (s : List Int) : S.IsGen (S.bm s).c (S.bm s).l s := by
  obtain ⟨K, ol, h⟩ := BM.run_ok hI s s.length
  exact ⟨_, rfl, h.gen⟩
theorem bm_min (hI : S.Inverts) (s : List Int) (c : List Int) (L : Int) (hg : S.IsGen c L s) : ((S.bm s).l : Int) ≤ L := by
  obtain ⟨K, ol, h⟩ := BM.run_ok hI s s.length
  obtain ⟨l, rfl, hg⟩ := hg
  have := h.min _ _ hg
  show ((BM.run S s s.length).l : Int) ≤ l
  omega
theorem bm_can (hI : S.Inverts) (s : List Int) : S.Can (S.bm s).c := by
  obtain ⟨K, ol, h⟩ := BM.run_ok hI s s.length
  exact h.can
theorem bm_len (hI : S.Inverts) (s : List Int) : (S.bm s).c.length ≤ (S.bm s).l + 1 ∧ (S.bm s).l ≤ s.length := by
  obtain ⟨K, ol, h⟩ := BM.run_ok hI s s.length
  exact ⟨h.clen, h.ln⟩
theorem bm_only (hI : S.Inverts) (s c : List Int) (h2 : 2 * (S.bm s).l ≤ s.length) (hg : S.IsGen c (S.bm s).l s) : S.canL c = (S.bm s).c := by
  obtain ⟨K, ol, h⟩ := BM.run_ok hI s s.length
  obtain ⟨l, e, hg⟩ := hg
  obtain rfl : (S.bm s).l = l := by omega
  refine (S.can_can c).eq (S.bm_can hI s) ?_
  rw [S.sq_can]
  exact El.uniq hI hg h.gen h.min h2
theorem bm_least (hI : S.Inverts) (s : List Int) (c : Nat → El S) (l : Nat) (hg : El.Gen c l (S.sq s) s.length) : (S.bm s).l ≤ l := by
  obtain ⟨K, ol, h⟩ := BM.run_ok hI s s.length
  exact h.min _ _ hg
theorem gen_same {c s t : Nat → El S} {l n : Nat} (h : El.Gen c l s n) (he : ∀ i, i < n → s i = t i) : El.Gen c l t n :=
  ⟨h.1, fun j h1 h2 => by rw [← El.cv_congr j (fun i _ => rfl) fun i hi => he i (by omega)]; exact h.2 j h1 h2⟩
theorem bm_has (hI : S.Inverts) (s : List Int) : El.Gen (S.sq (S.bm s).c) (S.bm s).l (S.sq s) s.length := by
  obtain ⟨K, ol, h⟩ := BM.run_ok hI s s.length
  exact h.gen
/-- The length of a sum, of a multiple. -/
theorem bm_sum (hI : S.Inverts) (s t u : List Int) (h1 : t.length = s.length) (h2 : u.length = s.length) (h : ∀ i, i < s.length → S.sq u i = S.sq s i + S.sq t i) : (S.bm u).l ≤ (S.bm s).l + (S.bm t).l := by
  have g1 := S.bm_has hI s
  have g2 := S.bm_has hI t
  rw [h1] at g2
  refine S.bm_least hI u (El.cv (S.sq (S.bm s).c) (S.sq (S.bm t).c)) _ ?_
  rw [h2]
  exact S.gen_same (El.gen_sum g1 g2) fun i hi => (h i hi).symm
theorem bm_scale (hI : S.Inverts) (a : El S) (ha : a ≠ 0) (s u : List Int) (h2 : u.length = s.length) (h : ∀ i, i < s.length → S.sq u i = a * S.sq s i) : (S.bm u).l = (S.bm s).l := by
  have g1 := S.bm_has hI s
  have g2 := S.bm_has hI u
  refine Nat.le_antisymm ?_ ?_
  · refine S.bm_least hI u (S.sq (S.bm s).c) _ ?_
    rw [h2]
    exact S.gen_same (El.gen_scale a g1) fun i hi => (h i hi).symm
  · refine S.bm_least hI s (S.sq (S.bm u).c) _ ?_
    rw [h2] at g2
    refine S.gen_same (El.gen_scale (S.inv a) g2) fun i hi => ?_
    rw [h i hi, ← El.mul_assoc, hI a ha, El.one_mul]
theorem bm_none (hI : S.Inverts) (u : List Int) (h : ∀ i, i < u.length → S.sq u i = 0) : (S.bm u).l = 0 := by
  have := S.bm_least hI u (S.sq [1]) 0 ⟨⟨S.el_1, fun i hi => S.sq_far _ _ (by simp; omega)⟩, fun j _ hj => El.sm_zero _ fun i hi => by rw [h (j - i) (by omega), El.mul_zero]⟩
  omega
/-- The first k of a sequence, as numbers. -/
def pf (f : Nat → El S) (k : Nat) : List Int := (List.range k).map fun i => (f i).1
theorem pf_length (f : Nat → El S) (k : Nat) : (S.pf f k).length = k := by simp [pf]
theorem pf_snoc (f : Nat → El S) (k : Nat) : S.pf f (k + 1) = S.pf f k ++ [(f k).1] := by simp [pf, List.range_succ]
theorem sq_pf (f : Nat → El S) (k i : Nat) (h : i < k) : S.sq (S.pf f k) i = f i := by
  have := S.sq_map f k i
  rwa [if_pos h] at this
end FS
end Go.Proofs.Ytdbhhfhfjlpepaa
namespace Go.Proofs.Ytdbhhfhfjlpepaa
open Go.RowKit
attribute [local go_sem ↓] Go.wp_at_zero Go.wp_at_succ

set_option maxHeartbeats 2000000 in
theorem lfHolds (g : Nat) (S : FS) (A : Option Addr) (c : Nat) (l : List Int) (L : Int) (B : Option Addr) (d : Nat) (s : List Int) (w : World) (hf : FldAt w g S) (hr : Rd w A l) (hs : Rd w B s) (hl : l.length ≤ 1000) (hsl : s.length ≤ 1000) :
    Calls Try.prog 31 #[.pointer (some ⟨g, 0, none⟩), .slice A l.length c, .int .i64 L, .slice B s.length d] w fun e w' => BoolIs (S.IsGen l L s) w e w' := by
  have HF := Lib.hid hf
  have HR := Lib.hid hr
  have HS := Lib.hid hs
  clear hf hr hs
  obtain ⟨n, HN⟩ : ∃ n, Hid (n = l.length) := ⟨_, rfl⟩
  obtain ⟨m, HM⟩ : ∃ m, Hid (m = s.length) := ⟨_, rfl⟩
  have CC : Hid (Calls Try.prog 34 #[.pointer (some ⟨g, 0, none⟩), .slice A n c] w fun e w' => NewL w e w' (S.canL l)) := by
    rw [HN.out]; exact canon_calls g S A c l w HF.out HR.out (by omega)
  have CR : Hid (∀ (W : World) (A1 : Option Addr) (c1 : Nat), Rd W A1 (S.canL l) → Calls Try.prog 35 #[.slice A1 (S.canL l).length c1, .int .i64 L] W fun e w' => BoolIs (S.IsReg l L) W e w') := fun W A1 c1 h => by
    rw [propext (S.isReg_own l L)]; exact isReg_calls A1 c1 (S.canL l) L W h
  have CG : Hid (∀ (W : World) (A1 : Option Addr) (c1 : Nat) (j : Nat), Below w.heap.size w W → Rd W A1 (S.canL l) → j < m → Calls Try.prog 38 #[.pointer (some ⟨g, 0, none⟩), .slice A1 (S.canL l).length c1, .slice B m d, .int .i64 j] W fun e w' => e = .returned (.int .i64 (El.cv (S.sq l) (S.sq s) j).1) ∧ Below W.heap.size W w') := by
    intro W A1 c1 j hW h1 h2
    have hcl : (S.canL l).length ≤ l.length := by have := trimL_len (S.nums l l.length); rwa [S.nums_length] at this
    have := gap_calls g S A1 c1 (S.canL l) B d s j W (HF.out.below hW) h1 (HS.out.below hW (Nat.le_refl _)) (by omega) (by rw [← HM.out]; exact h2) (by omega)
    rw [S.sq_can, ← HM.out] at this
    exact this
  obtain ⟨p, HP0⟩ : ∃ p : Prop, Hid (p ↔ S.IsGen l L s) := ⟨_, Iff.rfl⟩
  rw [← propext HP0.out]
  rw [← HN.out] at hl ⊢
  rw [← HM.out] at hsl ⊢
  obtain ⟨nc, HNC⟩ : ∃ nc, Hid (nc = (S.canL l).length) := ⟨_, rfl⟩
  rw [← HNC.out] at CR CG
  go_enter Try.func31, Try.ntmps31
  go_wp2_with fail
  go_at_call 34
  refine CC.out.mono ?_
  rintro e w1 ⟨A1, c1, rfl, hr1, _, _, _, hb1⟩
  rw [← HNC.out]
  have HR1 := Lib.hid hr1
  have HB1 := Lib.hid hb1
  clear hr1 hb1
  go_wp2_with fail
  go_at_call 35
  refine (CR.out _ A1 c1 HR1.out).mono ?_
  rintro e w2 ⟨b, rfl, hbi, hb2⟩
  have HB2 := Lib.hid (below_step HB1.out hb2 HB1.out.size)
  have HR2 := Lib.hid (HR1.out.below hb2 (Nat.le_refl _))
  have HBI := Lib.hid hbi
  clear hbi hb2
  cases b
  · go_wp2
    go_ret
    refine BoolIs.no (fun h => ?_) HB2.out
    obtain ⟨k, e, hg⟩ := HP0.out.1 h
    have := HBI.out.2 ⟨k, e, hg.1⟩
    cases this
  · obtain ⟨L, rfl, hreg⟩ := HBI.out.1 rfl
    have HREG := Lib.hid hreg
    clear hreg HBI
    have HPY : Hid ((∀ j, L ≤ j → j < m → El.cv (S.sq l) (S.sq s) j = 0) → p) := fun h => HP0.out.2 ⟨L, rfl, HREG.out, by rw [← HM.out]; exact h⟩
    have HPN : Hid (∀ j, L ≤ j → j < m → El.cv (S.sq l) (S.sq s) j ≠ 0 → ¬ p) := fun j h1 h2 h3 h => by
      obtain ⟨k, e, hg⟩ := HP0.out.1 h
      obtain rfl : L = k := by omega
      exact h3 (hg.2 j h1 (by rw [← HM.out]; exact h2))
    clear HP0
    go_wp2
    go_loopg [9] (m - L) (fun g2 t wr => ∃ j : Nat, L ≤ j ∧ g2 = m - j ∧ t = .int .i64 j ∧ (∀ k, L ≤ k → k < j → El.cv (S.sq l) (S.sq s) k = 0) ∧ Below w2.heap.size w2 wr)
    case atStart => exact ⟨L, Nat.le_refl _, rfl, rfl, fun k h1 h2 => by omega, Below.refl _ _⟩
    case round =>
      obtain ⟨j, hj, HGQ, rfl, hz, hb⟩ := hrel
      replace HGQ := Lib.hid HGQ
      have HBB := Lib.hid hb
      have HB3 := Lib.hid (below_step HB2.out hb HB2.out.size)
      have HZ := Lib.hid hz
      clear hb hz
      by_cases hlt : j < m
      · have hlt0 : (j : Int) < (m : Int) := by omega
        have hjb : j ≤ 1000 := by omega
        obtain ⟨x, HX⟩ : ∃ x : El S, Hid (x = El.cv (S.sq l) (S.sq s) j) := ⟨_, rfl⟩
        obtain ⟨v, HV⟩ : ∃ v, Hid (v = x.1) := ⟨_, rfl⟩
        have CG2 : Hid (Calls Try.prog 38 #[.pointer (some ⟨g, 0, none⟩), .slice A1 nc c1, .slice B m d, .int .i64 j] wr fun e w' => e = .returned (.int .i64 v) ∧ Below wr.heap.size wr w') := by
          rw [HV.out, HX.out]; exact CG.out wr A1 c1 j HB3.out (HR2.out.below HBB.out (Nat.le_refl _)) hlt
        go_wp2_with fail
        go_at_call 38
        refine CG2.out.mono ?_
        rintro e w4 ⟨rfl, hb4⟩
        have HB4 := Lib.hid (below_step HBB.out hb4 HBB.out.size)
        have HB5 := Lib.hid (below_step HB3.out hb4 HB3.out.size)
        clear hb4
        by_cases hv : v = 0
        · have HCV : Hid (El.cv (S.sq l) (S.sq s) j = 0) := by unfold Hid; rw [← HX.out]; exact El.eq (by rw [← HV.out, hv]; rfl)
          subst hv
          go_wp2
          go_roundg (m - (j + 1))
          case measure => have := HGQ.out; omega
          case rel =>
            refine ⟨j + 1, by omega, rfl, by go_num, fun i h1 h2 => ?_, HB4.out⟩
            by_cases e : i = j
            · subst e; exact HCV.out
            · exact HZ.out i h1 (by omega)
        · have HNP := Lib.hid (HPN.out j hj hlt fun h => hv (by rw [HV.out, HX.out, h]; rfl))
          have hv0 : (v == 0) = false := by simp [hv]
          go_wp2
          go_ret
          exact BoolIs.no HNP.out HB5.out
      · have HPP := Lib.hid (HPY.out fun i h1 h2 => HZ.out i h1 (by omega))
        have hlt0 : ¬ (j : Int) < (m : Int) := by omega
        go_wp2
        go_ret
        exact BoolIs.yes HPP.out HB3.out

end Go.Proofs.Ytdbhhfhfjlpepaa
