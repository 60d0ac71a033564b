/- For each divisor n of Q-1 there are phi(n) elements of the order n: the walk of the law. -/
import Derived.Test.YtjbfccconjjofaaMathL
import Derived.Test.YtjbfccconjjofaaOrd
namespace Go.Proofs.Ytjbfccconjjofaa
theorem cop_pos (n k : Nat) (h : 1 ≤ k) : 1 ≤ cop n k := by
  induction k with
  | zero => omega
  | succ k ih =>
    rw [cop]
    rcases Nat.eq_zero_or_pos k with h0 | h0
    · subst h0; simp
    · have := ih h0; omega
end Go.Proofs.Ytjbfccconjjofaa
namespace Go.Proofs.Ytjbfccconjjofaa
open Go.RowKit
attribute [local go_sem ↓] Go.wp_at_zero Go.wp_at_succ

set_option maxHeartbeats 2000000 in
theorem lawCounts (P M : Int) (A : Option Addr) (c : Nat) (mod : List Int) (z : Int) (w : World) (hr : Rd w A mod) (hnil : A = none → c = 0) :
    Calls Try.prog 8 #[.agg #[.int .i64 P, .int .i64 M, .slice A mod.length c], .int .i64 z] w fun e w' => e = .returned (.bool true) ∧ Below w.heap.size w w' := by
  have hu := Try.underlying24
  have HR := Lib.hid hr
  have HNIL := Lib.hid hnil
  clear hr hnil
  obtain ⟨n, HN⟩ : ∃ n, Hid (n = mod.length) := ⟨_, rfl⟩
  rw [← HN.out]
  have HMADE : Hid (∀ W1 : World, Rd W1 A mod → Calls Try.prog 18 #[.agg #[.int .i64 P, .int .i64 M, .slice A n c]] W1 fun e w' => MadeRet P M mod W1 e w') := by
    intro W1 h1; rw [HN.out]; exact made_calls P M A c mod W1 h1 HNIL.out
  have HNONE : Hid (∀ W1 : World, Rd W1 A mod → ¬ RefGood P M mod → Calls Try.prog 19 #[.agg #[.int .i64 P, .int .i64 M, .slice A n c]] W1 fun e w' => e = .returned (.bool true) ∧ Below W1.heap.size W1 w') := by
    intro W1 h1 h2; rw [HN.out]; exact none_calls P M A c mod W1 h1 HNIL.out h2
  go_enter Try.func8, Try.ntmps8
  go_wp2_with fail
  go_at_call 17
  refine (alive_calls _).mono ?_
  rintro e w1 ⟨rfl, hb1⟩
  obtain ⟨x0, x1, x2, hs1⟩ := box3 hb1
  go_wp2_with fail
  go_at_call 18
  refine (HMADE.out _ ((HR.out.alloc _).below hb1 (Nat.le_refl _))).mono ?_
  rintro e w2 ⟨hret, hb2⟩
  have hb3 := below_step hb1 hb2 hb1.size
  clear x0 x1 x2 hs1
  obtain ⟨x0, x1, x2, hs1⟩ := box3 hb3
  have HR3 := Lib.hid ((HR.out.alloc _).below hb3 (Nat.le_refl _))
  have HB := Lib.hid (below_box hb3)
  clear hb1 hb2 hb3
  rcases hret with ⟨v, rfl, hno⟩ | ⟨g, m, q, p, ex, lg, rfl, rfl, hg1, hg2, hg3⟩
  · have HNO := Lib.hid hno
    clear hno
    go_wp2_with fail
    go_at_call 19
    refine (HNONE.out _ HR3.out HNO.out).mono ?_
    rintro e w3 ⟨rfl, hb4⟩
    go_wp2
    go_ret
    exact ⟨rfl, below_step HB.out hb4 HB.out.size⟩
  · have HG2 := Lib.hid hg2
    have HG3 := Lib.hid hg3
    clear hg1 hg2 hg3
    have hq := HG3.out.q256
    have HORD := Lib.hid HG3.out.ordq
    have CR : Hid (∀ W1 : World, Calls Try.prog 25 #[.agg #[.int .i64 P, .int .i64 m, .slice A n c]] W1 fun e w' => e = .returned (.int .i64 q) ∧ Below W1.heap.size W1 w') := by
      intro W1; rw [← HORD.out]; exact refOrder_calls P m A n c W1
    go_wp2_with fail
    go_at_call 25
    refine (CR.out _).mono ?_
    rintro e w3 ⟨rfl, hb3⟩
    obtain ⟨k0, k1, k2, kb⟩ := keepS x0 x1 x2 hb3
    clear x0 x1 x2 hb3 k0 k1 k2 hs1
    have HKB := Lib.hid kb
    clear kb
    by_cases h1 : z < 1
    · go_wp2
      go_ret
      exact ⟨rfl, below_step HB.out HKB.out HB.out.size⟩
    by_cases h2 : (q : Int) < z
    · go_wp2
      go_ret
      exact ⟨rfl, below_step HB.out HKB.out HB.out.size⟩
    obtain ⟨nn, rfl⟩ := Int.eq_ofNat_of_zero_le (show 0 ≤ z by omega)
    have hn1 : 1 ≤ nn := by omega
    have hn2 : nn ≤ 256 := by omega
    obtain ⟨f, hf1, hf2⟩ := HG3.out.logs
    have HF1 := Lib.hid hf1
    obtain ⟨o, HO⟩ : ∃ o : Nat → Nat, Hid (∀ k, o k = (q - 1) / Nat.gcd (q - 1) (f k)) := ⟨_, fun _ => rfl⟩
    obtain ⟨c1, HC1⟩ : ∃ c1 : Nat → Nat, Hid (c1 = cnt (fun i => decide ((q - 1) / Nat.gcd (q - 1) (f i) = nn))) := ⟨_, rfl⟩
    obtain ⟨c2, HC2⟩ : ∃ c2 : Nat → Nat, Hid (c2 = cnt (fun i => decide ((q - 1) / Nat.gcd (q - 1) (f i) = q - 1))) := ⟨_, rfl⟩
    have HS1 : Hid (∀ k, c1 (k + 1) = c1 k + (decide (o k = nn)).toNat) := by intro k; rw [HC1.out, HO.out]; rfl
    have HS2 : Hid (∀ k, c2 (k + 1) = c2 k + (decide (o k = q - 1)).toNat) := by intro k; rw [HC2.out, HO.out]; rfl
    have HE1 : Hid (c1 (q - 1) = if nn ∣ q - 1 then cop nn nn else 0) := by unfold Hid; rw [HC1.out]; exact hf2 nn hn1
    have HE2 : Hid (1 ≤ c2 (q - 1)) := by
      unfold Hid; rw [HC2.out, hf2 (q - 1) (by omega), if_pos (Nat.dvd_refl _)]; exact cop_pos _ _ (by omega)
    have HZ1 : Hid (c1 0 = 0) := by unfold Hid; rw [HC1.out]; rfl
    have HZ2 : Hid (c2 0 = 0) := by unfold Hid; rw [HC2.out]; rfl
    have CO : Hid (∀ (W1 : World) (k : Nat), k < q - 1 → Below w2.heap.size w2 W1 → Calls Try.prog 33 #[.pointer (some ⟨g, 0, none⟩), .int .i64 (k + 1 : Nat)] W1 fun e w' => e = .returned (.tuple #[.int .i64 (o k), .int .i64 0]) ∧ Below W1.heap.size W1 w') := by
      intro W1 k hk h
      have e1 : inn q ((k + 1 : Nat) : Int) = ((k + 1 : Nat) : Int) := inn_yes (by omega) (by omega)
      have h3 := HF1.out k hk
      rw [HO.out]
      exact gfOrd_calls g P m mod q ex lg p ((k + 1 : Nat) : Int) (f k) W1 (HG2.out.below h) HG3.out (by rw [e1]; omega) h3.1 (by rw [e1, Int.toNat_natCast]; exact h3.2)
    clear hf1 hf2 HC1 HC2 HO HF1
    have e2 : IntKind.i64.wrap ((q : Int) - 1) = (q : Int) - 1 := IntWalk.i64_in _ (by omega)
    have d1 : decide ((nn : Int) < 1) = false := by simp; omega
    have d2 : decide (q < nn) = false := by simp; omega
    have d3 : decide ((q : Int) < (nn : Int)) = false := by simp; omega
    go_wp2
    go_loopg [8, 9, 10] (q - 1) (fun g2 a b i wr => ∃ k : Nat, k ≤ q - 1 ∧ g2 = q - 1 - k ∧ a = .int .i64 (c1 k) ∧ b = .int .i64 (c2 k) ∧ i = .int .i64 (k + 1 : Nat) ∧ c1 k ≤ k ∧ c2 k ≤ k ∧ Below w2.heap.size w2 wr)
    case atStart => exact ⟨0, Nat.zero_le _, rfl, by rw [HZ1.out]; rfl, by rw [HZ2.out]; rfl, rfl, by rw [HZ1.out]; exact Nat.le_refl _, by rw [HZ2.out]; exact Nat.le_refl _, HKB.out⟩
    case round =>
      obtain ⟨k, hk, HGQ, rfl, rfl, rfl, hc1, hc2, hb⟩ := hrel
      replace HGQ := Lib.hid HGQ
      have HBL := Lib.hid hb
      clear hb
      by_cases hlt : k < q - 1
      · have s1 := HS1.out k
        have s2 := HS2.out k
        obtain ⟨u, HU⟩ : ∃ u, Hid (u = o k) := ⟨_, rfl⟩
        have CK := Lib.hid (CO.out wr k hlt HBL.out)
        rw [← HU.out] at s1 s2 CK
        obtain ⟨i, HI⟩ : ∃ i : Nat, Hid (i = k + 1) := ⟨_, rfl⟩
        rw [← HI.out] at CK ⊢
        have hiq : (i : Int) < (q : Int) := by rw [HI.out]; omega
        have hib : i ≤ 256 := by rw [HI.out]; omega
        have T1 := Lib.hid s1
        have T2 := Lib.hid s2
        clear s1 s2
        go_wp2_with fail
        go_at_call 33
        refine CK.out.mono ?_
        rintro e w4 ⟨rfl, hb4⟩
        have HB4 := Lib.hid (below_step HBL.out hb4 HBL.out.size)
        clear hb4 hiq
        by_cases ho : u = nn
        · have g1 : c1 (k + 1) = c1 k + 1 := by rw [T1.out]; simp [ho]
          have G1 := Lib.hid g1
          have ho1 : ((u : Int) == (nn : Int)) = true := by simp; omega
          by_cases ho2 : u = q - 1
          · have g2 : c2 (k + 1) = c2 k + 1 := by rw [T2.out]; simp [ho2]
            have G2 := Lib.hid g2
            have ho3 : ((u : Int) == (q : Int) - 1) = true := by simp; omega
            clear g1 g2 ho ho2
            go_wp2
            go_roundg (q - 1 - (k + 1))
            case measure => have := HGQ.out; omega
            case rel => exact ⟨k + 1, by omega, rfl, by rw [G1.out]; go_num, by rw [G2.out]; go_num, by rw [HI.out]; go_num, by rw [G1.out]; omega, by rw [G2.out]; omega, HB4.out⟩
          · have g2 : c2 (k + 1) = c2 k := by rw [T2.out]; simp [ho2]
            have G2 := Lib.hid g2
            have ho3 : ((u : Int) == (q : Int) - 1) = false := by simp; omega
            clear g1 g2 ho ho2
            go_wp2
            go_roundg (q - 1 - (k + 1))
            case measure => have := HGQ.out; omega
            case rel => exact ⟨k + 1, by omega, rfl, by rw [G1.out]; go_num, by rw [G2.out], by rw [HI.out]; go_num, by rw [G1.out]; omega, by rw [G2.out]; omega, HB4.out⟩
        · have g1 : c1 (k + 1) = c1 k := by rw [T1.out]; simp [ho]
          have G1 := Lib.hid g1
          have ho1 : ((u : Int) == (nn : Int)) = false := by simp; omega
          by_cases ho2 : u = q - 1
          · have g2 : c2 (k + 1) = c2 k + 1 := by rw [T2.out]; simp [ho2]
            have G2 := Lib.hid g2
            have ho3 : ((u : Int) == (q : Int) - 1) = true := by simp; omega
            clear g1 g2 ho ho2
            go_wp2
            go_roundg (q - 1 - (k + 1))
            case measure => have := HGQ.out; omega
            case rel => exact ⟨k + 1, by omega, rfl, by rw [G1.out], by rw [G2.out]; go_num, by rw [HI.out]; go_num, by rw [G1.out]; omega, by rw [G2.out]; omega, HB4.out⟩
          · have g2 : c2 (k + 1) = c2 k := by rw [T2.out]; simp [ho2]
            have G2 := Lib.hid g2
            have ho3 : ((u : Int) == (q : Int) - 1) = false := by simp; omega
            clear g1 g2 ho ho2
            go_wp2
            go_roundg (q - 1 - (k + 1))
            case measure => have := HGQ.out; omega
            case rel => exact ⟨k + 1, by omega, rfl, by rw [G1.out], by rw [G2.out], by rw [HI.out]; go_num, by rw [G1.out]; omega, by rw [G2.out]; omega, HB4.out⟩
      · obtain ⟨v1, HV1⟩ : ∃ v, Hid (v = c1 k) := ⟨_, rfl⟩
        obtain ⟨v2, HV2⟩ : ∃ v, Hid (v = c2 k) := ⟨_, rfl⟩
        have HK : Hid (k = q - 1) := by unfold Hid; omega
        have hv2 : 1 ≤ v2 := by rw [HV2.out, HK.out]; exact HE2.out
        rw [← HV1.out, ← HV2.out]
        obtain ⟨i, HI⟩ : ∃ i : Nat, Hid (i = k + 1) := ⟨_, rfl⟩
        rw [← HI.out]
        have hiq : ¬ (i : Int) < (q : Int) := by rw [HI.out]; omega
        have hnd : ((nn : Int) == 0) = false := by simp; omega
        have hnn : ¬ (nn : Int) = 0 := by omega
        obtain ⟨r, HR⟩ : ∃ r : Nat, Hid (r = (q - 1) % nn) := ⟨_, rfl⟩
        have e3 : ((q : Int) - 1).tmod (nn : Int) = (r : Int) := by
          rw [Int.tmod_eq_emod_of_nonneg (by omega), show (q : Int) - 1 = ((q - 1 : Nat) : Int) from by omega, ← Int.natCast_emod, HR.out]
        by_cases hr0 : r = 0
        · have HVC : Hid (v1 = cop nn nn) := by
            unfold Hid
            rw [HV1.out, HK.out, HE1.out, if_pos (Nat.dvd_of_mod_eq_zero (by rw [← HR.out]; exact hr0))]
          subst hr0
          clear hc1 hc2 hlt
          go_wp2_with fail
          go_at_call 34
          refine (coprime_calls nn _ hn1 hn2).mono ?_
          rw [← HVC.out]
          rintro e w4 ⟨rfl, hb4⟩
          go_wp2
          go_ret
          exact ⟨by first | rfl | (simp; done) | (simp; omega), below_step HB.out (below_step HBL.out hb4 HBL.out.size) HB.out.size⟩
        · have HVC : Hid (v1 = 0) := by
            unfold Hid
            rw [HV1.out, HK.out, HE1.out, if_neg fun h => hr0 (by rw [HR.out]; exact Nat.mod_eq_zero_of_dvd h)]
          have hrd : ((r : Int) == 0) = false := by simp; omega
          obtain rfl : v1 = 0 := HVC.out
          clear hc1 hc2 hlt hr0
          go_wp2
          go_ret
          exact ⟨by first | rfl | (simp; done) | (simp; omega), below_step HB.out HBL.out HB.out.size⟩

end Go.Proofs.Ytjbfccconjjofaa
