/- The multiplicative order: the field's and the reference's. -/
import Derived.Test.YtjbfccconjjofaaMathI
import Derived.Test.YtjbfccconjjofaaLawKit
import Derived.Test.YtjbfccconjjofaaRefPow
namespace Go.Proofs.Ytjbfccconjjofaa
open Go.RowKit
attribute [local go_sem ↓] Go.wp_at_zero Go.wp_at_succ

theorem gfOrder_calls (g : Nat) (P : Int) (M : Nat) (mod : List Int) (q : Nat) (ex lg : List Int) (w : World) (hg : GFat w g P M mod q ex lg) :
    Calls Try.prog 41 #[.pointer (some ⟨g, 0, none⟩)] w fun e w' => e = .returned (.int .i64 q) ∧ Below w.heap.size w w' := by
  have hu := Try.underlying71
  obtain ⟨A2, c2, A4, c4, A5, c5, x0, x1, x2, x3, x4, x5, _⟩ := hg.cells
  clear hg x0 x1 x2 x4 x5
  go_enter Try.func41, Try.ntmps41
  go_wp2
  go_ret
  exact ⟨rfl, Below.refl _ _⟩
theorem gfOrd0_calls (g : Nat) (P : Int) (M : Nat) (mod : List Int) (q : Nat) (ex lg : List Int) (x : Int) (w : World) (hg : GFat w g P M mod q ex lg) (h0 : inn q x = 0) :
    Calls Try.prog 33 #[.pointer (some ⟨g, 0, none⟩), .int .i64 x] w fun e w' => e = .returned (.tuple #[.int .i64 0, .int .i64 7]) ∧ Below w.heap.size w w' := by
  have HG := Lib.hid hg
  have H0 := Lib.hid h0
  clear hg h0
  go_enter Try.func33, Try.ntmps33
  go_wp2_with fail
  go_at_call 58
  refine (gfin_calls g P M mod q ex lg x _ HG.out).mono ?_
  rintro e w1 ⟨rfl, hb1⟩
  rw [H0.out]
  go_wp2
  go_ret2
  exact ⟨rfl, hb1⟩
set_option maxHeartbeats 1000000 in
theorem gfOrd_calls (g : Nat) (P : Int) (M : Nat) (mod : List Int) (q : Nat) (ex lg : List Int) (p x : Int) (i : Nat) (w : World) (hg : GFat w g P M mod q ex lg) (hm : Made P M mod q p ex lg) (h0 : inn q x ≠ 0) (hi : i < q - 1) (hlog : lg.getD (inn q x).toNat 0 = i) :
    Calls Try.prog 33 #[.pointer (some ⟨g, 0, none⟩), .int .i64 x] w fun e w' => e = .returned (.tuple #[.int .i64 ((q - 1) / Nat.gcd (q - 1) i : Nat), .int .i64 0]) ∧ Below w.heap.size w w' := by
  have hu := Try.underlying71
  have hq := hm.q256
  have bx := inn_bd (q := (q : Int)) (x := x) (by omega)
  obtain ⟨X, HX⟩ : ∃ X : Nat, Hid ((X : Int) = inn q x) := ⟨(inn q x).toNat, Int.toNat_of_nonneg bx.1⟩
  rw [← HX.out] at bx h0 hlog
  rw [Int.toNat_natCast] at hlog
  have h0 : X ≠ 0 := fun e => h0 (by rw [e]; rfl)
  have HG := Lib.hid hg
  have HLG := Lib.hid hm.lgl
  clear hg hm
  obtain ⟨nl, HNL⟩ : ∃ n, Hid (n = lg.length) := ⟨_, rfl⟩
  go_enter Try.func33, Try.ntmps33
  go_wp2_with fail
  go_at_call 58
  refine (gfin_calls g P M mod q ex lg x _ HG.out).mono ?_
  rintro e w1 ⟨rfl, hb3⟩
  rw [← HX.out]
  have HG2 := Lib.hid (HG.out.below hb3)
  have hX' : ((X : Int) == 0) = false := by simp; omega
  obtain ⟨A2, c2, A4, c4, A5, c5, x0, x1, x2, x3, x4, x5, r2, r4, r5, _⟩ := HG2.out.cells
  obtain ⟨ad5, rfl, hl1⟩ := r5.get X (by rw [HLG.out]; omega)
  rw [hlog] at hl1
  clear hlog
  rw [← HNL.out] at x5
  have i1 : (X : Int) < (nl : Int) := by rw [HNL.out, HLG.out]; omega
  have i4 : (0 : Int) ≤ (X : Int) := by omega
  have e2 : IntKind.i64.wrap ((q : Int) - 1) = (q : Int) - 1 := IntWalk.i64_in _ (by omega)
  clear r2 r4 r5 x0 x1 x2 x4
  go_wp2
  go_quiet (fail)
  clear e2 x3 x5 hl1 i1 i4 hX'
  rename_i nq
  have hb4 := below_drewN hb3 nq
  have HGX := Lib.hid (HG.out.below hb4)
  clear hb3
  go_wp2
  go_loopw [6, 7] (fun a b wr => ∃ an bn : Nat, a = .int .i64 an ∧ b = .int .i64 bn ∧ an ≤ 256 ∧ bn ≤ 256 ∧ 1 ≤ an ∧ Hid (Nat.gcd an bn = Nat.gcd (q - 1) i) ∧ Below w.heap.size w wr) (fun _ b _ => (intOf b).toNat)
  case atStart => exact ⟨q - 1, i, by rw [show ((q - 1 : Nat) : Int) = (q : Int) - 1 from by omega], rfl, by omega, by omega, by omega, rfl, hb4⟩
  case round =>
    obtain ⟨an, bn, rfl, rfl, ha, hb, ha1, HGC, hbl⟩ := hrel
    clear hb4
    by_cases hlt : 0 < bn
    · have hlt' : (0 : Int) < (bn : Int) := by omega
      have hbd : ((bn : Int) == 0) = false := by simp; omega
      have hbn : ¬ (bn : Int) = 0 := by omega
      have e1 : (an : Int).tmod (bn : Int) = ((an % bn : Nat) : Int) := by rw [Int.tmod_eq_emod_of_nonneg (by omega), Int.natCast_emod]
      have hml := Nat.mod_lt an hlt
      obtain ⟨r, HR⟩ : ∃ r, Hid (r = an % bn) := ⟨_, rfl⟩
      rw [← HR.out] at e1 hml
      have HGC2 : Hid (Nat.gcd bn r = Nat.gcd (q - 1) i) := by unfold Hid; rw [← HGC.out, HR.out, Nat.gcd_comm an bn, Nat.gcd_rec bn an, Nat.gcd_comm]
      have HBL := Lib.hid hbl
      clear hbl
      go_wp2
      go_quiet (fail)
      go_wp2
      go_roundw
      case rel => exact ⟨bn, r, rfl, rfl, by omega, by omega, by omega, HGC2.out, by first | exact HBL.out | exact below_drewN HBL.out _⟩
      case measure => simp [intOf]; omega
    · obtain rfl : bn = 0 := by omega
      have HA : Hid (an = Nat.gcd (q - 1) i) := by unfold Hid; rw [← HGC.out, Nat.gcd_zero_right]
      have HBL := Lib.hid hbl
      obtain ⟨A2', c2', A4', c4', A5', c5', x0, x1, x2, x3, x4, x5, _⟩ := (HG.out.below hbl).cells
      clear x0 x1 x2 x4 x5 hbl
      have e2 : IntKind.i64.wrap ((q : Int) - 1) = (q : Int) - 1 := IntWalk.i64_in _ (by omega)
      have had : ((an : Int) == 0) = false := by simp; omega
      have han : ¬ (an : Int) = 0 := by omega
      obtain ⟨o, HO⟩ : ∃ o : Nat, Hid (o = (q - 1) / an) := ⟨_, rfl⟩
      have ho : o ≤ 256 := by rw [HO.out]; exact Nat.le_trans (Nat.div_le_self _ _) (by omega)
      have e3 : ((q : Int) - 1).tdiv (an : Int) = (o : Int) := by
        rw [HO.out, Int.tdiv_eq_ediv_of_nonneg (by omega), show (q : Int) - 1 = ((q - 1 : Nat) : Int) from by omega, ← Int.natCast_ediv]
      have e4 : IntKind.i64.wrap (o : Int) = (o : Int) := IntWalk.i64_in _ (by omega)
      go_wp2
      go_ret2
      exact ⟨by rw [HO.out, HA.out]; rfl, HBL.out⟩

theorem refOrd0_calls (P : Int) (M : Nat) (A : Option Addr) (n c : Nat) (x : Int) (w : World) (h0 : inn (ord P M) x = 0) :
    Calls Try.prog 40 #[.agg #[.int .i64 P, .int .i64 M, .slice A n c], .int .i64 x] w fun e w' => e = .returned (.int .i64 0) ∧ Below w.heap.size w w' := by
  have hu := Try.underlying24
  have H0 := Lib.hid h0
  clear h0
  go_enter Try.func40, Try.ntmps40
  go_wp2_with fail
  go_at_call 23
  refine (refIn_calls P M A n c x _).mono ?_
  rw [H0.out]
  rintro e w1 ⟨rfl, hb1⟩
  go_wp2
  go_ret
  exact ⟨rfl, below_box hb1⟩
set_option maxHeartbeats 1000000 in
theorem refOrd_calls (P : Int) (M : Nat) (A : Option Addr) (c : Nat) (mod : List Int) (q : Nat) (ex lg : List Int) (p x : Int) (o : Nat) (w : World) (hr : Rd w A mod) (hm : Made P M mod q p ex lg) (h0 : inn q x ≠ 0) (ho : El.IsOrd (hm.el x) o) (hoq : o < q) :
    Calls Try.prog 40 #[.agg #[.int .i64 P, .int .i64 M, .slice A mod.length c], .int .i64 x] w fun e w' => e = .returned (.int .i64 o) ∧ Below w.heap.size w w' := by
  have hu := Try.underlying24
  have hq := hm.q256
  have ho1 := ho.pos
  obtain ⟨f, HF⟩ : ∃ f : Nat → Int, Hid (∀ k, f k = (El.pow (hm.el x) k).1) := ⟨_, fun _ => rfl⟩
  obtain ⟨X, HX⟩ : ∃ X, Hid (X = inn q x) := ⟨_, rfl⟩
  have HF1 : Hid (f 1 = X) := by unfold Hid; rw [HF.out, El.pow_one, HX.out]; rfl
  have HFO : Hid (f o = 1) := by unfold Hid; rw [HF.out, ho.one]; rfl
  have HFN : Hid (∀ k, 1 ≤ k → k < o → f k ≠ 1) := by
    intro k h1 h2 e
    rw [HF.out] at e
    have := Nat.le_of_dvd (by omega) (ho.dvd k (El.eq e))
    omega
  obtain ⟨nn, HN⟩ : ∃ n, Hid (n = mod.length) := ⟨_, rfl⟩
  have HORD := Lib.hid hm.ordq
  have HR := Lib.hid hr
  have HS := Lib.hid hm.shp
  have HST : Hid (∀ k, refMul P M mod (inn (P ^ M) (f k)) (inn (P ^ M) X) = f (k + 1)) := by
    intro k; rw [HF.out, HF.out, HX.out]; exact hm.refstep x k
  have CM : Hid (∀ (W1 : World) (k : Nat), Below w.heap.size w W1 → Calls Try.prog 21 #[.agg #[.int .i64 P, .int .i64 M, .slice A nn c], .int .i64 (f k), .int .i64 X] W1 fun e w' => e = .returned (.int .i64 (f (k + 1))) ∧ Below W1.heap.size W1 w') := by
    intro W1 k h1; rw [← HST.out, HN.out]; exact refMul_calls P M A mod c (f k) X W1 (HR.out.below h1 (Nat.le_refl _)) HS.out
  have CI : Hid (∀ W1 : World, Calls Try.prog 23 #[.agg #[.int .i64 P, .int .i64 M, .slice A nn c], .int .i64 x] W1 fun e w' => e = .returned (.int .i64 X) ∧ Below W1.heap.size W1 w') := by
    intro W1; rw [HX.out, ← HORD.out]; exact refIn_calls P M A nn c x W1
  have hXd : (X == 0) = false := by rw [HX.out]; simpa using h0
  rw [← HN.out]
  clear h0 HF ho hm hr
  go_enter Try.func40, Try.ntmps40
  go_wp2_with fail
  go_at_call 23
  refine (CI.out _).mono ?_
  rintro e w1 ⟨rfl, hb1⟩
  go_wp2
  clear hXd
  go_loopg [5, 6] (o - 1) (fun g n y wr => ∃ k : Nat, 1 ≤ k ∧ k ≤ o ∧ g = o - k ∧ n = .int .i64 k ∧ y = .int .i64 (f k) ∧ Below (w.alloc (.cells #[.int .i64 P, .int .i64 M, .slice A nn c] 24)).heap.size (w.alloc (.cells #[.int .i64 P, .int .i64 M, .slice A nn c] 24)) wr)
  case atStart => exact ⟨1, Nat.le_refl _, ho1, rfl, rfl, by rw [HF1.out], hb1⟩
  case round =>
    obtain ⟨k, hk1, hk, HGQ, rfl, rfl, hb⟩ := hrel
    replace HGQ := Lib.hid HGQ
    clear hb1
    obtain ⟨x0, x1, x2, _⟩ := box3 hb
    by_cases hlt : k < o
    · have hfd : (f k == 1) = false := by simpa using HFN.out k hk1 hlt
      have hfn := HFN.out k hk1 hlt
      go_wp2_with fail
      go_at_call 21
      refine (CM.out _ k (below_box hb)).mono ?_
      rintro e w4 ⟨rfl, hb4⟩
      have HB5 := Lib.hid (below_step hb hb4 hb.size)
      clear hb hb4 x0 x1 x2 hfd hfn
      go_wp2
      go_roundg (o - (k + 1))
      case rel => exact ⟨k + 1, by omega, by omega, rfl, by go_num, rfl, HB5.out⟩
      case measure => have := HGQ.out; omega
    · obtain rfl : k = o := by omega
      have HB5 := Lib.hid hb
      rw [HFO.out]
      clear hb
      go_wp2
      go_ret
      exact ⟨rfl, below_box HB5.out⟩

end Go.Proofs.Ytjbfccconjjofaa
