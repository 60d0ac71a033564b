/- The P-th power of a sum is the sum of the P-th powers: the walk of the law. -/
import Derived.Test.YtjbfccconjjofaaMathJ
import Derived.Test.YtjbfccconjjofaaOrd
namespace Go.Proofs.Ytjbfccconjjofaa
open Go.RowKit
theorem Made.frobs {P : Int} {M : Nat} {mod : List Int} {q : Nat} {p : Int} {ex lg : List Int} (h : Made P M mod q p ex lg) (x y : Int) : ∃ va vb vs vc : Int, (El.pow (h.el x) P.toNat).1 = va ∧ (El.pow (h.el y) P.toNat).1 = vb ∧ addS P M (inn q x) (inn q y) = vs ∧ (El.pow (h.el vs) P.toNat).1 = vc ∧
    addS P M (inn q va) (inn q vb) = vc ∧ (El.pow (h.el x) q).1 = inn q x := by
  refine ⟨_, _, (h.el x + h.el y).1, (El.pow (h.el x + h.el y) P.toNat).1, rfl, rfl, h.addv x y, by rw [h.el_of], ?_, ?_⟩
  · rw [h.addr _ _ _ _ (h.el_of _) (h.el_of _)]
    exact congrArg Subtype.val (El.frob (h.el x) (h.el y)).symm
  · exact congrArg Subtype.val (h.pow_q (h.el x))
theorem gfPowN_calls (g : Nat) (P : Int) (M : Nat) (mod : List Int) (q : Nat) (ex lg : List Int) (p x n : Int) (w : World) (hg : GFat w g P M mod q ex lg) (hm : Made P M mod q p ex lg) (hn : 1 ≤ n) :
    Calls Try.prog 45 #[.pointer (some ⟨g, 0, none⟩), .int .i64 x, .int .i64 n] w fun e w' => e = .returned (.tuple #[.int .i64 (El.pow (hm.el x) n.toNat).1, .int .i64 0]) ∧ Below w.heap.size w w' := by
  by_cases h0 : inn q x = 0
  · have h := gfPowZ_calls g P M mod q ex lg x n w hg (by omega) h0
    rw [if_neg (by omega)] at h
    have e0 : hm.el x = 0 := El.eq h0
    obtain ⟨k, hk⟩ : ∃ k, n.toNat = k + 1 := ⟨n.toNat - 1, by omega⟩
    rw [e0, hk, El.pow, El.mul_zero]
    exact h
  · have h := gfPow_calls g P M mod q ex lg p x n w hg hm (by omega) h0
    have hq := hm.q256
    have e1 : (n % ((q : Int) - 1)).toNat = n.toNat % (q - 1) := by
      obtain ⟨k, rfl⟩ := Int.eq_ofNat_of_zero_le (show 0 ≤ n by omega)
      have e2 : (q : Int) - 1 = ((q - 1 : Nat) : Int) := by omega
      rw [e2, ← Int.natCast_emod, Int.toNat_natCast, Int.toNat_natCast]
    have e3 := hm.pow_mod1 (hm.el x) (fun e => h0 (congrArg Subtype.val e)) n.toNat
    rw [e1, e3] at h
    exact h
end Go.Proofs.Ytjbfccconjjofaa
namespace Go.Proofs.Ytjbfccconjjofaa
open Go.RowKit
attribute [local go_sem ↓] Go.wp_at_zero Go.wp_at_succ

set_option maxHeartbeats 2000000 in
theorem lawFrobenius (P M : Int) (A : Option Addr) (c : Nat) (mod : List Int) (x y : Int) (w : World) (hr : Rd w A mod) (hnil : A = none → c = 0) :
    Calls Try.prog 13 #[.agg #[.int .i64 P, .int .i64 M, .slice A mod.length c], .int .i64 x, .int .i64 y] w fun e w' => e = .returned (.bool true) ∧ Below w.heap.size w w' := by
  have hu := Try.underlying24
  have HR := Lib.hid hr
  have HNIL := Lib.hid hnil
  clear hr hnil
  obtain ⟨n, HN⟩ : ∃ n, Hid (n = mod.length) := ⟨_, rfl⟩
  rw [← HN.out]
  have HMADE : Hid (∀ W1 : World, Rd W1 A mod → Calls Try.prog 18 #[.agg #[.int .i64 P, .int .i64 M, .slice A n c]] W1 fun e w' => MadeRet P M mod W1 e w') := by
    intro W1 h1; rw [HN.out]; exact made_calls P M A c mod W1 h1 HNIL.out
  have HNONE : Hid (∀ W1 : World, Rd W1 A mod → ¬ RefGood P M mod → Calls Try.prog 19 #[.agg #[.int .i64 P, .int .i64 M, .slice A n c]] W1 fun e w' => e = .returned (.bool true) ∧ Below W1.heap.size W1 w') := by
    intro W1 h1 h2; rw [HN.out]; exact none_calls P M A c mod W1 h1 HNIL.out h2
  go_enter Try.func13, Try.ntmps13
  go_wp2_with fail
  go_at_call 17
  refine (alive_calls _).mono ?_
  rintro e w1 ⟨rfl, hb1⟩
  obtain ⟨x0, x1, x2, hs1⟩ := box3 hb1
  go_wp2_with fail
  go_at_call 18
  refine (HMADE.out _ ((HR.out.alloc _).below hb1 (Nat.le_refl _))).mono ?_
  rintro e w2 ⟨hret, hb2⟩
  have hb3 := below_step hb1 hb2 hb1.size
  clear x0 x1 x2 hs1
  obtain ⟨x0, x1, x2, hs1⟩ := box3 hb3
  have HR3 := Lib.hid ((HR.out.alloc _).below hb3 (Nat.le_refl _))
  have HB := Lib.hid (below_box hb3)
  clear hb1 hb2 hb3
  rcases hret with ⟨v, rfl, hno⟩ | ⟨g, m, q, p, ex, lg, rfl, rfl, hg1, hg2, hg3⟩
  · have HNO := Lib.hid hno
    clear hno
    go_wp2_with fail
    go_at_call 19
    refine (HNONE.out _ HR3.out HNO.out).mono ?_
    rintro e w3 ⟨rfl, hb4⟩
    go_wp2
    go_ret
    exact ⟨rfl, below_step HB.out hb4 HB.out.size⟩
  · have HG2 := Lib.hid hg2
    have HG3 := Lib.hid hg3
    clear hg1 hg2 hg3
    have hp := HG3.out.shp.p2
    have hq := HG3.out.q256
    have HFR := Lib.hid (HG3.out.frobs x y)
    obtain ⟨X, HX⟩ : ∃ z, Hid (z = inn q x) := ⟨_, rfl⟩
    obtain ⟨va, vb, vs, vc, HE⟩ : ∃ va vb vs vc : Int, Hid ((El.pow (HG3.out.el x) P.toNat).1 = va ∧ (El.pow (HG3.out.el y) P.toNat).1 = vb ∧ addS P m (inn q x) (inn q y) = vs ∧ (El.pow (HG3.out.el vs) P.toNat).1 = vc ∧
        addS P m (inn q va) (inn q vb) = vc ∧ (El.pow (HG3.out.el x) q).1 = X) := by
      unfold Hid; rw [HX.out]; exact HFR.out
    clear HFR
    have CP : Hid (∀ (W1 : World) (u n r : Int), Below w2.heap.size w2 W1 → 1 ≤ n → (El.pow (HG3.out.el u) n.toNat).1 = r → Calls Try.prog 45 #[.pointer (some ⟨g, 0, none⟩), .int .i64 u, .int .i64 n] W1 fun e w' => e = .returned (.tuple #[.int .i64 r, .int .i64 0]) ∧ Below W1.heap.size W1 w') := by
      intro W1 u n r h1 h2 h3; rw [← h3]; exact gfPowN_calls g P m mod q ex lg p u n W1 (HG2.out.below h1) HG3.out h2
    have CA : Hid (∀ (W1 : World) (u v r : Int), Below w2.heap.size w2 W1 → addS P m (inn q u) (inn q v) = r → Calls Try.prog 22 #[.pointer (some ⟨g, 0, none⟩), .int .i64 u, .int .i64 v] W1 fun e w' => e = .returned (.int .i64 r) ∧ Below W1.heap.size W1 w') := by
      intro W1 u v r h1 h2; rw [← h2]; exact gfAdd_calls g P m mod q ex lg p u v W1 (HG2.out.below h1) HG3.out
    have CI : Hid (∀ W1 : World, Calls Try.prog 23 #[.agg #[.int .i64 P, .int .i64 m, .slice A n c], .int .i64 x] W1 fun e w' => e = .returned (.int .i64 X) ∧ Below W1.heap.size W1 w') := by
      intro W1; rw [HX.out, ← HG3.out.ordq]; exact refIn_calls P m A n c x W1
    have P1 := Lib.hid (fun W1 h => CP.out W1 x P va h (by omega) HE.out.1)
    have P2 := Lib.hid (fun W1 h => CP.out W1 y P vb h (by omega) HE.out.2.1)
    have P3 := Lib.hid (fun W1 h => CP.out W1 vs P vc h (by omega) HE.out.2.2.2.1)
    have P4 := Lib.hid (fun W1 h => CP.out W1 x (q : Int) X h (by omega) HE.out.2.2.2.2.2)
    have A1 := Lib.hid (fun W1 h => CA.out W1 x y vs h HE.out.2.2.1)
    have A2 := Lib.hid (fun W1 h => CA.out W1 va vb vc h HE.out.2.2.2.2.1)
    clear CP CA HE hp hq
    go_wp2_with fail
    go_at_call 45
    refine (P1.out _ (Below.refl _ _)).mono ?_
    rintro e w3 ⟨rfl, hb3⟩
    obtain ⟨k0, k1, k2, kb⟩ := keepS x0 x1 x2 hb3
    clear x0 x1 x2 hb3
    go_wp2_with fail
    go_at_call 45
    refine (P2.out _ kb).mono ?_
    rintro e w4 ⟨rfl, hb4⟩
    (have hk := keepS k0 k1 k2 hb4; replace kb := below_step kb hb4 kb.size; clear k0 k1 k2 hb4; obtain ⟨k0, k1, k2, _⟩ := hk)
    have HK4 := Lib.hid kb
    clear kb
    go_wp2
    go_region_held3 (fun wx => wx.cell? ⟨w.heap.size, 0, none⟩ = some (.int .i64 P) ∧ wx.cell? ⟨w.heap.size, 1, none⟩ = some (.int .i64 m) ∧ wx.cell? ⟨w.heap.size, 2, none⟩ = some (.slice A n c) ∧ Below w4.heap.size w4 wx)
      (first | (exact keepC k0 k1 k2 (by assumption) (by assumption)) | (exact keepS k0 k1 k2 (Below.refl _ _).drew))
      (first | (go_at_call 22; refine (A1.out _ (below_step HK4.out (belowS (by assumption)) HK4.out.size)).mono ?_; rintro e w5 ⟨rfl, hb5⟩) | (go_at_call 45; refine (P3.out _ (below_step HK4.out (belowS (by assumption)) HK4.out.size)).mono ?_; rintro e w6 ⟨rfl, hb6⟩))
    rename_i hS
    clear k0 k1 k2
    obtain ⟨k0, k1, k2, kb⟩ := hS
    replace kb := below_step HK4.out kb HK4.out.size
    go_wp2_with fail
    go_at_call 41
    refine (gfOrder_calls g P m mod q ex lg _ (HG2.out.below kb)).mono ?_
    rintro e w7 ⟨rfl, hb7⟩
    (have hk := keepS k0 k1 k2 hb7; replace kb := below_step kb hb7 kb.size; clear k0 k1 k2 hb7; obtain ⟨k0, k1, k2, _⟩ := hk)
    go_wp2_with fail
    go_at_call 45
    refine (P4.out _ kb).mono ?_
    rintro e w8 ⟨rfl, hb8⟩
    (have hk := keepS k0 k1 k2 hb8; replace kb := below_step kb hb8 kb.size; clear k0 k1 k2 hb8; obtain ⟨k0, k1, k2, _⟩ := hk)
    go_wp2_with fail
    go_at_call 22
    refine (A2.out _ kb).mono ?_
    rintro e w9 ⟨rfl, hb9⟩
    (have hk := keepS k0 k1 k2 hb9; replace kb := below_step kb hb9 kb.size; clear k0 k1 k2 hb9; obtain ⟨k0, k1, k2, _⟩ := hk)
    go_wp2_with fail
    go_at_call 23
    refine (CI.out _).mono ?_
    rintro e w10 ⟨rfl, hb10⟩
    (have hk := keepS k0 k1 k2 hb10; replace kb := below_step kb hb10 kb.size; clear k0 k1 k2 hb10; obtain ⟨k0, k1, k2, _⟩ := hk)
    go_wp2
    go_ret
    exact ⟨by first | rfl | simp, below_step HB.out kb HB.out.size⟩

end Go.Proofs.Ytjbfccconjjofaa
