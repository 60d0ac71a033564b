/- Sums, scaled lists and inner products of any lists are those of their entries: the walk of the law. -/
import Derived.Test.YtjbfccconjjofaaLstB
namespace Go.Proofs.Ytjbfccconjjofaa
theorem Made.gcomm {P : Int} {M : Nat} {mod : List Int} {q : Nat} {p : Int} {ex lg : List Int} (h : Made P M mod q p ex lg) (u v : Int) : gmul q ex lg (inn q u) (inn q v) = gmul q ex lg (inn q v) (inn q u) := by
  rw [h.mulv, h.mulv, El.mul_comm]
theorem Made.dot_comm {P : Int} {M : Nat} {mod : List Int} {q : Nat} {p : Int} {ex lg : List Int} (h : Made P M mod q p ex lg) (l o : List Int) (k : Nat) : dotN P M q ex lg o l k = dotN P M q ex lg l o k := by
  induction k with
  | zero => rfl
  | succ k ih => rw [dotN, dotN, ih, h.gcomm]
/-- Two lists, in one order or the other. -/
def Pair (A : Option Addr) (n c : Nat) (B : Option Addr) (n' d : Nat) (A1 : Option Addr) (n1 c1 : Nat) (A2 : Option Addr) (n2 c2 : Nat) : Prop :=
  (A1 = A ∧ n1 = n ∧ c1 = c ∧ A2 = B ∧ n2 = n' ∧ c2 = d) ∨ (A1 = B ∧ n1 = n' ∧ c1 = d ∧ A2 = A ∧ n2 = n ∧ c2 = c)
theorem box2 {w w1 : World} {a b : Value} {t : TypeId} (h : Go.RowKit.Below (w.alloc (.cells #[a, b] t)).heap.size (w.alloc (.cells #[a, b] t)) w1) :
    w1.cell? ⟨w.heap.size, 0, none⟩ = some a ∧ w1.cell? ⟨w.heap.size, 1, none⟩ = some b :=
  ⟨(h.cell (by simp)).trans (by simp), (h.cell (by simp)).trans (by simp)⟩
end Go.Proofs.Ytjbfccconjjofaa
namespace Go.Proofs.Ytjbfccconjjofaa
open Go.RowKit
attribute [local go_sem ↓] Go.wp_at_zero Go.wp_at_succ

set_option maxHeartbeats 2000000 in
theorem lawLists (P M : Int) (A : Option Addr) (c : Nat) (mod : List Int) (a : Int) (L : Option Addr) (lc : Nat) (l : List Int) (O : Option Addr) (oc : Nat) (o : List Int) (w : World) (hr : Rd w A mod) (hnil : A = none → c = 0) (hrl : Rd w L l) (hro : Rd w O o) :
    Calls Try.prog 15 #[.agg #[.int .i64 P, .int .i64 M, .slice A mod.length c], .int .i64 a, .agg #[.slice L l.length lc, .slice O o.length oc]] w fun e w' => e = .returned (.bool true) ∧ Below w.heap.size w w' := by
  have hu := Try.underlying24
  have HR := Lib.hid hr
  have HNIL := Lib.hid hnil
  have HRL := Lib.hid hrl
  have HRO := Lib.hid hro
  have hln := hrl.1
  have hon := hro.1
  clear hr hnil hrl hro
  obtain ⟨nl, HNL⟩ : ∃ n, Hid (n = l.length) := ⟨_, rfl⟩
  obtain ⟨no, HNO⟩ : ∃ n, Hid (n = o.length) := ⟨_, rfl⟩
  rw [← HNL.out] at hln ⊢
  rw [← HNO.out] at hon ⊢
  obtain ⟨n, HN⟩ : ∃ n, Hid (n = mod.length) := ⟨_, rfl⟩
  rw [← HN.out]
  have HMADE : Hid (∀ W1 : World, Rd W1 A mod → Calls Try.prog 18 #[.agg #[.int .i64 P, .int .i64 M, .slice A n c]] W1 fun e w' => MadeRet P M mod W1 e w') := by
    intro W1 h1; rw [HN.out]; exact made_calls P M A c mod W1 h1 HNIL.out
  have HNONE : Hid (∀ W1 : World, Rd W1 A mod → ¬ RefGood P M mod → Calls Try.prog 19 #[.agg #[.int .i64 P, .int .i64 M, .slice A n c]] W1 fun e w' => e = .returned (.bool true) ∧ Below W1.heap.size W1 w') := by
    intro W1 h1 h2; rw [HN.out]; exact none_calls P M A c mod W1 h1 HNIL.out h2
  go_enter Try.func15, Try.ntmps15
  go_wp2_with fail
  go_at_call 17
  refine (alive_calls _).mono ?_
  rintro e w1 ⟨rfl, hb1⟩
  have hb0 := below_box hb1
  obtain ⟨k0, k1, k2, _⟩ := box3 hb0
  have hy := box2 hb1
  rw [World.size_alloc] at hy
  obtain ⟨y0, y1⟩ := hy
  have kb := below_box hb0
  have HR1 := Lib.hid ((HR.out.alloc _).below hb0 (Nat.le_refl _))
  clear hb1 hb0
  have HBQ := Lib.hid (fun k => below_drewN (Below.refl w1.heap.size w1) k)
  go_wp2
  go_quiet (fail)
  clear y0 y1
  go_wp2_with fail
  go_at_call 18
  refine (HMADE.out _ (HR1.out.below (HBQ.out _) (Nat.le_refl _))).mono ?_
  rintro e w2 ⟨hret, hb2⟩
  replace hb2 := below_step (HBQ.out _) hb2 (HBQ.out _).size
  have HR3 := Lib.hid (HR1.out.below hb2 (Nat.le_refl _))
  (have hk := keepS k0 k1 k2 hb2; replace kb := below_step kb hb2 kb.size; clear k0 k1 k2 hb2; obtain ⟨k0, k1, k2, _⟩ := hk)
  have HB := Lib.hid kb
  have HL2 := Lib.hid (HRL.out.below kb (Nat.le_refl _))
  have HO2 := Lib.hid (HRO.out.below kb (Nat.le_refl _))
  clear kb
  rcases hret with ⟨v, rfl, hno⟩ | ⟨g, m, q, p, ex, lg, rfl, rfl, hg1, hg2, hg3⟩
  · have HNO := Lib.hid hno
    clear hno
    go_wp2_with fail
    go_at_call 19
    refine (HNONE.out _ HR3.out HNO.out).mono ?_
    rintro e w3 ⟨rfl, hb4⟩
    go_wp2
    go_ret
    exact ⟨rfl, below_step HB.out hb4 HB.out.size⟩
  · have HG2 := Lib.hid hg2
    have HG3 := Lib.hid hg3
    clear hg1 hg2 hg3
    by_cases hbig : 300 < nl
    · go_wp2
      go_ret
      exact ⟨by first | rfl | simp, HB.out⟩
    by_cases hbig2 : 300 < no
    · go_wp2
      go_ret
      exact ⟨by first | rfl | simp, HB.out⟩
    have hl300 : nl ≤ 300 := by omega
    have ho300 : no ≤ 300 := by omega
    clear hbig hbig2 hln hon
    have hp2 := HG3.out.shp.p256
    have HARGS := Lib.hid (And.intro HG3.out.shp.p2 (And.intro HG3.out.shp.m8 (And.intro HG3.out.shp.q HG3.out.shp.m1)))
    obtain ⟨f, HF⟩ : ∃ f : Nat → Int, Hid (f = sumN P m q l) := ⟨_, rfl⟩
    have HF0 : Hid (f 0 = 0) := by unfold Hid; rw [HF.out]; rfl
    obtain ⟨t, HT⟩ : ∃ t : Nat → Int, Hid (∀ k, t k = gmul q ex lg (inn q a) (inn q (l.getD k 0))) := ⟨_, fun _ => rfl⟩
    obtain ⟨z, HZ⟩ : ∃ z, Hid (z = dotN P m q ex lg l o (min nl no)) := ⟨_, rfl⟩
    have C1 : Hid (∀ W1 : World, Below w2.heap.size w2 W1 → Calls Try.prog 52 #[.pointer (some ⟨g, 0, none⟩), .int .i64 a, .slice L nl lc] W1 fun e w' => ∃ gs, e = .returned (.slice (some ⟨gs, 0, none⟩) nl nl) ∧ W1.heap.size ≤ gs ∧ Own w' gs nl (scN q ex lg a l nl) ∧ Below W1.heap.size W1 w') := by
      intro W1 h; rw [HNL.out]; exact gfScale_calls g P m mod q ex lg p a L lc l W1 (HG2.out.below h) HG3.out (HL2.out.below h (Nat.le_refl _)) (by rw [← HNL.out]; omega)
    have C2 : Hid (∀ W1 : World, Below w2.heap.size w2 W1 → Calls Try.prog 53 #[.pointer (some ⟨g, 0, none⟩), .slice L nl lc] W1 fun e w' => e = .returned (.int .i64 (f nl)) ∧ Below W1.heap.size W1 w') := by
      intro W1 h; rw [HF.out, HNL.out]; exact gfSum_calls g P m mod q ex lg p L lc l W1 (HG2.out.below h) HG3.out (HL2.out.below h (Nat.le_refl _)) (by rw [← HNL.out]; omega)
    have C3 : Hid (∀ (W1 : World) (A1 : Option Addr) (n1 c1 : Nat) (A2 : Option Addr) (n2 c2 : Nat), Below w2.heap.size w2 W1 → Pair L nl lc O no oc A1 n1 c1 A2 n2 c2 → Calls Try.prog 54 #[.pointer (some ⟨g, 0, none⟩), .slice A1 n1 c1, .slice A2 n2 c2] W1 fun e w' => e = .returned (.int .i64 z) ∧ Below W1.heap.size W1 w') := by
      intro W1 A1 n1 c1 A2 n2 c2 h h2
      rcases h2 with ⟨rfl, rfl, rfl, rfl, rfl, rfl⟩ | ⟨rfl, rfl, rfl, rfl, rfl, rfl⟩
      · rw [HZ.out, HNL.out, HNO.out]; exact gfDot_calls g P m mod q ex lg p _ _ l _ _ o W1 (HG2.out.below h) HG3.out (HL2.out.below h (Nat.le_refl _)) (HO2.out.below h (Nat.le_refl _)) (by rw [← HNL.out]; omega) (by rw [← HNO.out]; omega)
      · rw [HZ.out, HNL.out, HNO.out, ← HG3.out.dot_comm, Nat.min_comm]; exact gfDot_calls g P m mod q ex lg p _ _ o _ _ l W1 (HG2.out.below h) HG3.out (HO2.out.below h (Nat.le_refl _)) (HL2.out.below h (Nat.le_refl _)) (by rw [← HNO.out]; omega) (by rw [← HNL.out]; omega)
    have C4 : Hid (∀ W1 : World, Below w2.heap.size w2 W1 → Calls Try.prog 55 #[.agg #[.int .i64 P, .int .i64 m, .slice A n c], .slice L nl lc, .slice O no oc] W1 fun e w' => e = .returned (.int .i64 z) ∧ Below W1.heap.size W1 w') := by
      intro W1 h; rw [HZ.out, HNL.out, HNO.out, HN.out]; exact refDot_calls P m mod q ex lg p A c L lc l O oc o W1 HG3.out (HR3.out.below h (Nat.le_refl _)) (HL2.out.below h (Nat.le_refl _)) (HO2.out.below h (Nat.le_refl _)) (by rw [← HNL.out]; omega) (by rw [← HNO.out]; omega)
    have C5 : Hid (∀ (W1 : World) (k : Nat) (u : Int), u = l.getD k 0 → Calls Try.prog 28 #[.agg #[.int .i64 P, .int .i64 m, .slice A n c], .int .i64 (f k), .int .i64 u] W1 fun e w' => e = .returned (.int .i64 (f (k + 1))) ∧ Below W1.heap.size W1 w') := by
      intro W1 k u hu2
      have h := refAdd_calls P m A n c (f k) u W1 HARGS.out.1 hp2 HARGS.out.2.1 HARGS.out.2.2.1 HARGS.out.2.2.2
      have e : addS P m (inn (P ^ m) (f k)) (inn (P ^ m) u) = f (k + 1) := by rw [← HG3.out.hq, HF.out, hu2]; rfl
      rw [e] at h
      exact h
    have C6 : Hid (∀ (W1 : World) (k : Nat) (u : Int), Below w2.heap.size w2 W1 → u = l.getD k 0 → Calls Try.prog 21 #[.agg #[.int .i64 P, .int .i64 m, .slice A n c], .int .i64 a, .int .i64 u] W1 fun e w' => e = .returned (.int .i64 (t k)) ∧ Below W1.heap.size W1 w') := by
      intro W1 k u h hu2; rw [HT.out, HG3.out.mulr, ← hu2, HN.out]; exact refMul_calls P m A mod c a u W1 (HR3.out.below h (Nat.le_refl _)) HG3.out.shp
    have HSC : Hid (∀ k, k < nl → (scN q ex lg a l nl).getD k 0 = t k) := by intro k hk; rw [HT.out, scN_at _ _ _ _ _ _ _ hk]
    have HSL : Hid ((scN q ex lg a l nl).length = nl) := scN_length _ _ _ _ _ _
    obtain ⟨sc, HSCN⟩ : ∃ s, Hid (s = scN q ex lg a l nl) := ⟨_, rfl⟩
    rw [← HSCN.out] at C1 HSC HSL
    clear HF HT HZ HSCN hp2
    go_wp2_with fail
    go_at_call 52
    refine (C1.out _ (Below.refl _ _)).mono ?_
    rintro e w3 ⟨gs, rfl, hgs, ho3, hb3⟩
    have HO3 := Lib.hid ho3
    have hk3 := keepS k0 k1 k2 hb3
    clear k0 k1 k2 hb3 ho3 hgs
    obtain ⟨k0, k1, k2, kb⟩ := hk3
    have HB3 := Lib.hid kb
    clear kb
    go_wp2
    go_loopg [11, 54] nl (fun g2 s i wr => ∃ k : Nat, k ≤ nl ∧ g2 = nl - k ∧ s = .int .i64 (f k) ∧ i = .int .i64 k ∧ Below w3.heap.size w3 wr)
    case atStart => exact ⟨0, Nat.zero_le _, rfl, by rw [HF0.out], rfl, Below.refl _ _⟩
    case round =>
      obtain ⟨k, hk, HGQ, rfl, rfl, hb⟩ := hrel
      replace HGQ := Lib.hid HGQ
      obtain ⟨x0, x1, x2, _⟩ := keepS k0 k1 k2 hb
      have HBR := Lib.hid hb
      have HBS := Lib.hid (below_step HB3.out hb HB3.out.size)
      clear k0 k1 k2
      by_cases hlt : k < nl
      · obtain ⟨ad, rfl, hc⟩ := (HL2.out.below HBS.out (Nat.le_refl _)).get k (by rw [← HNL.out]; exact hlt)
        obtain ⟨u, HU⟩ : ∃ z, Hid (z = l.getD k 0) := ⟨_, rfl⟩
        rw [← HU.out] at hc
        have ho4 := HO3.out.below hb HO3.out.lt
        clear hb
        go_wp2_with fail
        go_at_call 28
        refine (C5.out _ k u HU.out).mono ?_
        rintro e w4 ⟨rfl, hb4⟩
        have hk4 := keepS x0 x1 x2 hb4
        have ho5 := ho4.below hb4 ho4.lt
        have hcc := ho5.cell k (by rw [HSL.out]; exact hlt)
        rw [HSC.out k hlt] at hcc
        have HB5 := Lib.hid (below_step HBR.out hb4 HBR.out.size)
        have HB6 := Lib.hid (below_step HBS.out hb4 HBS.out.size)
        clear x0 x1 x2 hc hb4 ho4 ho5
        obtain ⟨x0, x1, x2, _⟩ := hk4
        have i0 : (k : Int) < (nl : Int) := by omega
        have i2 : (0 : Int) ≤ (k : Int) := by omega
        go_wp2
        go_region_held3 (fun wx => (wx.cell? ⟨gs, k, none⟩ = some (.int .i64 (t k)) ∧ wx.cell? ⟨gs, k, none⟩ = some (.int .i64 (t k))) ∧ wx.cell? ⟨w.heap.size, 0, none⟩ = some (.int .i64 P) ∧ wx.cell? ⟨w.heap.size, 1, none⟩ = some (.int .i64 m) ∧ wx.cell? ⟨w.heap.size, 2, none⟩ = some (.slice A n c) ∧ Below w4.heap.size w4 wx)
          (first | (exact keepFive x0 x1 x2 hcc hcc (below_step (belowFive (by assumption)) (by assumption) (belowFive (by assumption)).size)) | (exact keepFive x0 x1 x2 hcc hcc (Below.refl _ _).drew))
          (first | (go_at_call 21; refine (C6.out _ k u (below_step HB6.out (belowFive (by assumption)) HB6.out.size) HU.out).mono ?_; rintro e w5 ⟨rfl, hb5⟩))
        rename_i hS
        have HB7 := Lib.hid (below_step HB5.out (belowFive hS) HB5.out.size)
        clear hcc i0 i2 hS x0 x1 x2
        go_wp2
        go_roundg (nl - (k + 1))
        case measure => have := HGQ.out; omega
        case rel => exact ⟨k + 1, by omega, rfl, rfl, by go_num, HB7.out⟩
      · obtain rfl : k = nl := by omega
        clear hb
        go_wp2
        go_region_held3 (fun wx => wx.cell? ⟨w.heap.size, 0, none⟩ = some (.int .i64 P) ∧ wx.cell? ⟨w.heap.size, 1, none⟩ = some (.int .i64 m) ∧ wx.cell? ⟨w.heap.size, 2, none⟩ = some (.slice A n c) ∧ Below wr.heap.size wr wx)
          (first | (exact keepC x0 x1 x2 (by assumption) (by assumption)) | (exact keepS x0 x1 x2 (Below.refl _ _).drew))
          (first | (go_at_call 53; refine (C2.out _ (below_step HBS.out (belowS (by assumption)) HBS.out.size)).mono ?_; rintro e w5 ⟨rfl, hb5⟩) | (go_at_call 54; refine (C3.out _ _ _ _ _ _ _ (below_step HBS.out (belowS (by assumption)) HBS.out.size) (by first | exact Or.inl ⟨rfl, rfl, rfl, rfl, rfl, rfl⟩ | exact Or.inr ⟨rfl, rfl, rfl, rfl, rfl, rfl⟩)).mono ?_; rintro e w5 ⟨rfl, hb5⟩) | (go_at_call 55; refine (C4.out _ (below_step HBS.out (belowS (by assumption)) HBS.out.size)).mono ?_; rintro e w5 ⟨rfl, hb5⟩))
        go_wp2
        go_ret
        rename_i hS
        exact ⟨by first | rfl | simp, below_step HB.out (below_step HBS.out hS.2.2.2 HBS.out.size) HB.out.size⟩

end Go.Proofs.Ytjbfccconjjofaa
