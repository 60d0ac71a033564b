/- Multiples of lists; the reference's inner product. -/
import Derived.Test.YtjbfccconjjofaaLst
import Derived.Test.YtjbfccconjjofaaRefMul
namespace Go.Proofs.Ytjbfccconjjofaa
open Go.RowKit
attribute [local go_sem ↓] Go.wp_at_zero Go.wp_at_succ

/-- The first k, each multiplied. -/
def scN (q : Nat) (ex lg : List Int) (a : Int) (l : List Int) (k : Nat) : List Int := (List.range k).map fun j => gmul q ex lg (inn q a) (inn q (l.getD j 0))
theorem scN_length (q : Nat) (ex lg : List Int) (a : Int) (l : List Int) (k : Nat) : (scN q ex lg a l k).length = k := by simp [scN]
theorem scN_snoc (q : Nat) (ex lg : List Int) (a : Int) (l : List Int) (k : Nat) : scN q ex lg a l (k + 1) = scN q ex lg a l k ++ [gmul q ex lg (inn q a) (inn q (l.getD k 0))] := by simp [scN, List.range_succ]
theorem scN_at (q : Nat) (ex lg : List Int) (a : Int) (l : List Int) (k j : Nat) (h : j < k) : (scN q ex lg a l k).getD j 0 = gmul q ex lg (inn q a) (inn q (l.getD j 0)) := by
  simp [scN, List.getD_eq_getElem?_getD, h]

set_option maxHeartbeats 1000000 in
theorem gfScale_calls (g : Nat) (P : Int) (M : Nat) (mod : List Int) (q : Nat) (ex lg : List Int) (p a : Int) (A : Option Addr) (c : Nat) (l : List Int) (w : World) (hg : GFat w g P M mod q ex lg) (hm : Made P M mod q p ex lg) (hr : Rd w A l) (hl : l.length ≤ 1000) :
    Calls Try.prog 52 #[.pointer (some ⟨g, 0, none⟩), .int .i64 a, .slice A l.length c] w fun e w' => ∃ gs, e = .returned (.slice (some ⟨gs, 0, none⟩) l.length l.length) ∧ w.heap.size ≤ gs ∧ Own w' gs l.length (scN q ex lg a l l.length) ∧ Below w.heap.size w w' := by
  have HG := Lib.hid hg
  have HM := Lib.hid hm
  have HR := Lib.hid hr
  clear hg hm hr
  obtain ⟨n, HN⟩ : ∃ n, Hid (n = l.length) := ⟨_, rfl⟩
  rw [← HN.out] at hl ⊢
  have hmk := makeInts n (by omega)
  have hmade := Own.made w n (by omega)
  go_enter Try.func52, Try.ntmps52
  go_wp2
  go_loopg [15] n (fun g2 i wr => ∃ k : Nat, k ≤ n ∧ g2 = n - k ∧ i = .int .i64 k ∧ Own wr w.heap.size n (scN q ex lg a l k ++ List.replicate (n - k) 0) ∧ Below w.heap.size w wr)
  case atStart => exact ⟨0, Nat.zero_le _, rfl, rfl, by simpa [scN] using hmade, (Below.refl _ _).alloc (Nat.le_refl _) _⟩
  case round =>
    obtain ⟨k, hk, HGQ, rfl, hown, hb⟩ := hrel
    replace HGQ := Lib.hid HGQ
    clear hmk hmade
    by_cases hlt : k < n
    · obtain ⟨ad, rfl, hc⟩ := (HR.out.below hb (Nat.le_refl _)).get k (by rw [← HN.out]; exact hlt)
      obtain ⟨u, HU⟩ : ∃ z, Hid (z = l.getD k 0) := ⟨_, rfl⟩
      rw [← HU.out] at hc
      have HBL := Lib.hid hb
      have HO := Lib.hid hown
      clear hb hown
      obtain ⟨z, HZ⟩ : ∃ z, Hid (z = gmul q ex lg (inn q a) (inn q u)) := ⟨_, rfl⟩
      go_wp2_with fail
      go_at_call 20
      refine (gfMul_calls g P M mod q ex lg p a u _ (HG.out.below HBL.out) HM.out).mono ?_
      rw [← HZ.out]
      rintro e w3 ⟨rfl, hb3⟩
      have HB3 := Lib.hid (below_step HBL.out hb3 HBL.out.size)
      have ho3 := HO.out.below hb3 HO.out.lt
      have hcc := ho3.cell k (by simp [scN_length]; omega)
      have hf := ho3.free k
      have HS := Lib.hid (ho3.set k z)
      clear hb3 hc ho3
      go_wp2
      go_roundg (n - (k + 1))
      case measure => have := HGQ.out; omega
      case rel =>
        refine ⟨k + 1, by omega, rfl, by go_num, ?_, HB3.out.setCell (Nat.le_refl _) _⟩
        have := HS.out
        rw [set_fill _ k n _ (scN_length _ _ _ _ _ _) hlt, HZ.out, HU.out, ← scN_snoc] at this
        rw [HZ.out, HU.out]; exact this
    · obtain rfl : k = n := by omega
      have HBL := Lib.hid hb
      have HO := Lib.hid hown
      clear hb hown
      go_wp2
      go_ret
      exact ⟨w.heap.size, rfl, Nat.le_refl _, by simpa using HO.out, HBL.out⟩

theorem keepFive {W w' : World} {g : Nat} {a b c u v : Value} {x y : Addr} (h0 : W.cell? ⟨g, 0, none⟩ = some a) (h1 : W.cell? ⟨g, 1, none⟩ = some b) (h2 : W.cell? ⟨g, 2, none⟩ = some c) (h3 : W.cell? x = some u) (h4 : W.cell? y = some v) (hb : Below W.heap.size W w') :
    (w'.cell? x = some u ∧ w'.cell? y = some v) ∧ w'.cell? ⟨g, 0, none⟩ = some a ∧ w'.cell? ⟨g, 1, none⟩ = some b ∧ w'.cell? ⟨g, 2, none⟩ = some c ∧ Below W.heap.size W w' :=
  ⟨⟨(keepTw0 h3 h4 hb).1, (keepTw0 h3 h4 hb).2.1⟩, keepS h0 h1 h2 hb⟩
theorem belowFive {W w1 : World} {p q r s : Prop} (h : p ∧ q ∧ r ∧ s ∧ Below W.heap.size W w1) : Below W.heap.size W w1 := h.2.2.2.2
set_option maxHeartbeats 2000000 in
theorem refDot_calls (P : Int) (M : Nat) (mod : List Int) (q : Nat) (ex lg : List Int) (p : Int) (A0 : Option Addr) (c0 : Nat) (A : Option Addr) (c : Nat) (l : List Int) (B : Option Addr) (d : Nat) (o : List Int) (w : World) (hm : Made P M mod q p ex lg) (hr0 : Rd w A0 mod) (hr : Rd w A l) (hr' : Rd w B o) (hl : l.length ≤ 1000) (hl' : o.length ≤ 1000) :
    Calls Try.prog 55 #[.agg #[.int .i64 P, .int .i64 M, .slice A0 mod.length c0], .slice A l.length c, .slice B o.length d] w fun e w' => e = .returned (.int .i64 (dotN P M q ex lg l o (min l.length o.length))) ∧ Below w.heap.size w w' := by
  have hu := Try.underlying24
  have HM := Lib.hid hm
  have HR0 := Lib.hid hr0
  have HR := Lib.hid hr
  have HR' := Lib.hid hr'
  have hp2 := hm.shp.p256
  have HARGS := Lib.hid (And.intro hm.shp.p2 (And.intro hm.shp.m8 (And.intro hm.shp.q hm.shp.m1)))
  clear hm hr hr' hr0
  obtain ⟨nm, HNM⟩ : ∃ n, Hid (n = mod.length) := ⟨_, rfl⟩
  obtain ⟨n, HN⟩ : ∃ n, Hid (n = l.length) := ⟨_, rfl⟩
  obtain ⟨n', HN'⟩ : ∃ n, Hid (n = o.length) := ⟨_, rfl⟩
  rw [← HN.out] at hl ⊢
  rw [← HN'.out] at hl' ⊢
  rw [← HNM.out]
  obtain ⟨mn, HMN⟩ : ∃ k, Hid (k = min n n') := ⟨_, rfl⟩
  have hmn : mn ≤ n := by rw [HMN.out]; exact Nat.min_le_left _ _
  have hmn' : mn ≤ n' := by rw [HMN.out]; exact Nat.min_le_right _ _
  obtain ⟨f, HF⟩ : ∃ f : Nat → Int, Hid (f = dotN P M q ex lg l o) := ⟨_, rfl⟩
  obtain ⟨t, HT⟩ : ∃ t : Nat → Int, Hid (∀ k, t k = gmul q ex lg (inn q (l.getD k 0)) (inn q (o.getD k 0))) := ⟨_, fun _ => rfl⟩
  have HF0 : Hid (f 0 = 0) := by unfold Hid; rw [HF.out]; rfl
  have CM : Hid (∀ (W1 : World) (k : Nat) (u v : Int), Below w.heap.size w W1 → u = l.getD k 0 → v = o.getD k 0 → Calls Try.prog 21 #[.agg #[.int .i64 P, .int .i64 M, .slice A0 nm c0], .int .i64 u, .int .i64 v] W1 fun e w' => e = .returned (.int .i64 (t k)) ∧ Below W1.heap.size W1 w') := by
    intro W1 k u v h1 h2 h3; rw [HT.out, HM.out.mulr, ← h2, ← h3, HNM.out]; exact refMul_calls P M A0 mod c0 u v W1 (HR0.out.below h1 (Nat.le_refl _)) HM.out.shp
  have CA : Hid (∀ (W1 : World) (k : Nat), Calls Try.prog 28 #[.agg #[.int .i64 P, .int .i64 M, .slice A0 nm c0], .int .i64 (f k), .int .i64 (t k)] W1 fun e w' => e = .returned (.int .i64 (f (k + 1))) ∧ Below W1.heap.size W1 w') := by
    intro W1 k
    have h := refAdd_calls P M A0 nm c0 (f k) (t k) W1 HARGS.out.1 hp2 HARGS.out.2.1 HARGS.out.2.2.1 HARGS.out.2.2.2
    have e : addS P M (inn (P ^ M) (f k)) (inn (P ^ M) (t k)) = f (k + 1) := by
      rw [← HM.out.hq, HF.out, HT.out]; rfl
    rw [e] at h
    exact h
  rw [← HF.out, ← HMN.out]
  clear HF HT hp2
  have hcase : (n ≤ n' ∧ n ≤ mn) ∨ (n' < n ∧ n' ≤ mn) := by rw [HMN.out]; omega
  rcases hcase with ⟨hle, hle2⟩ | ⟨hle, hle2⟩
  all_goals
    go_enter Try.func55, Try.ntmps55
    go_wp2
    go_loopg [7, 8] mn (fun g2 s i wr => ∃ k : Nat, k ≤ mn ∧ g2 = mn - k ∧ s = .int .i64 (f k) ∧ i = .int .i64 k ∧ Below (w.alloc (.cells #[.int .i64 P, .int .i64 M, .slice A0 nm c0] 24)).heap.size (w.alloc (.cells #[.int .i64 P, .int .i64 M, .slice A0 nm c0] 24)) wr)
    case atStart => exact ⟨0, Nat.zero_le _, rfl, by rw [HF0.out], rfl, Below.refl _ _⟩
    case round =>
      obtain ⟨k, hk, HGQ, rfl, rfl, hb⟩ := hrel
      replace HGQ := Lib.hid HGQ
      obtain ⟨x0, x1, x2, _⟩ := box3 hb
      have HBX := Lib.hid (below_box hb)
      have HBB := Lib.hid hb
      clear hb
      by_cases hlt : k < mn
      · have hr1 := HR.out.below HBX.out (Nat.le_refl _)
        have hr2 := HR'.out.below HBX.out (Nat.le_refl _)
        obtain ⟨ad, rfl, hc⟩ := hr1.get k (by rw [← HN.out]; omega)
        obtain ⟨ad', rfl, hc'⟩ := hr2.get k (by rw [← HN'.out]; omega)
        obtain ⟨u, HU⟩ : ∃ z, Hid (z = l.getD k 0) := ⟨_, rfl⟩
        obtain ⟨v, HV⟩ : ∃ z, Hid (z = o.getD k 0) := ⟨_, rfl⟩
        rw [← HU.out] at hc
        rw [← HV.out] at hc'
        have i0 : (k : Int) < (n : Int) := by omega
        have i1 : (k : Int) < (n' : Int) := by omega
        have i2 : (0 : Int) ≤ (k : Int) := by omega
        clear hr1 hr2
        go_wp2
        go_region_held3 (fun wx => (wx.cell? (ad.add k) = some (.int .i64 u) ∧ wx.cell? (ad'.add k) = some (.int .i64 v)) ∧ wx.cell? ⟨w.heap.size, 0, none⟩ = some (.int .i64 P) ∧ wx.cell? ⟨w.heap.size, 1, none⟩ = some (.int .i64 M) ∧ wx.cell? ⟨w.heap.size, 2, none⟩ = some (.slice A0 nm c0) ∧ Below wr.heap.size wr wx)
          (first | (exact keepFive x0 x1 x2 hc hc' (below_step (belowFive (by assumption)) (by assumption) (belowFive (by assumption)).size)) | (exact keepFive x0 x1 x2 hc hc' (Below.refl _ _).drew))
          (first | (go_at_call 21; refine (CM.out _ k u v (below_step HBX.out (belowFive (by assumption)) HBX.out.size) HU.out HV.out).mono ?_; rintro e w3 ⟨rfl, hb3⟩) | (go_at_call 28; refine (CA.out _ k).mono ?_; rintro e w4 ⟨rfl, hb4⟩))
        rename_i hS
        have HB3 := Lib.hid (below_step HBB.out (belowFive hS) HBB.out.size)
        clear hc hc' i0 i1 i2 hS x0 x1 x2
        go_wp2
        go_roundg (mn - (k + 1))
        case measure => have := HGQ.out; omega
        case rel => exact ⟨k + 1, by omega, rfl, rfl, by go_num, HB3.out⟩
      · obtain rfl : k = mn := by omega
        go_wp2
        go_ret
        exact ⟨rfl, HBX.out⟩

end Go.Proofs.Ytjbfccconjjofaa
