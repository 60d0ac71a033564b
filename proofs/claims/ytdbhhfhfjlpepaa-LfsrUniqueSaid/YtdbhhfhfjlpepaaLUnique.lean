/- There is just one register of the least length if its length is at most half that of the sequence: the walk of the law. -/
import Derived.Test.YtdbhhfhfjlpepaaBmK
import Derived.Test.YtdbhhfhfjlpepaaCpx
namespace Go.Proofs.Ytdbhhfhfjlpepaa
open Go.RowKit
attribute [local go_sem ↓] Go.wp_at_zero Go.wp_at_succ

set_option maxHeartbeats 1000000 in
theorem unique_calls (g : Nat) (S : FS) (B : Option Addr) (d : Nat) (s : List Int) (w : World) (hf : FldAt w g S) (hs : Rd w B s) (hlen : s.length ≤ 100) :
    Calls Try.prog 29 #[.pointer (some ⟨g, 0, none⟩), .slice B s.length d] w fun e w' => e = .returned (.bool (decide (2 * (S.bm s).l ≤ s.length))) ∧ Below w.heap.size w w' := by
  have CS := Lib.hid (shortest_calls g S B d s w hf hs hlen)
  have hl := (S.bm_len hf.inv s).2
  obtain ⟨n, HN⟩ : ∃ n, Hid (n = s.length) := ⟨_, rfl⟩
  obtain ⟨b, HB⟩ : ∃ n, Hid (n = (S.bm s).l) := ⟨_, rfl⟩
  obtain ⟨nc, HC⟩ : ∃ n, Hid (n = (S.bm s).c.length) := ⟨_, rfl⟩
  rw [← HN.out, ← HB.out, ← HC.out] at CS
  rw [← HN.out] at hlen
  rw [← HN.out, ← HB.out] at hl ⊢
  clear hf hs HN HB HC
  by_cases h : 2 * b ≤ n
  all_goals
    go_enter Try.func29, Try.ntmps29
    go_wp2_with fail
    go_at_call 21
    refine CS.out.mono ?_
    rintro e w5 ⟨A5, c5, rfl, _, hb5⟩
    have HB5 := Lib.hid hb5
    clear hb5
    first | (have h1 : 2 * (b : Int) ≤ (n : Int) := by omega) | (have h1 : ¬ 2 * (b : Int) ≤ (n : Int) := by omega)
    go_wp2
    go_ret
    exact ⟨by first | (simp [h]; done) | (simp [h]; omega), HB5.out⟩

set_option maxHeartbeats 2000000 in
theorem lawUnique (P M : Int) (A : Option Addr) (c : Nat) (mod : List Int) (L : Option Addr) (lc : Nat) (l : List Int) (w : World) (hr : Rd w A mod) (hnil : A = none → c = 0) (hrl : Rd w L l) :
    Calls Try.prog 11 #[.agg #[.int .i64 P, .int .i64 M, .slice A mod.length c], .slice L l.length lc] w fun e w' => e = .returned (.bool true) ∧ Below w.heap.size w w' := by
  have hu := Try.underlying24
  have HR := Lib.hid hr
  have HNIL := Lib.hid hnil
  have HRL := Lib.hid hrl
  have hln := hrl.1
  clear hr hnil hrl
  obtain ⟨nl, HNL⟩ : ∃ n, Hid (n = l.length) := ⟨_, rfl⟩
  rw [← HNL.out] at hln ⊢
  obtain ⟨n, HN⟩ : ∃ n, Hid (n = mod.length) := ⟨_, rfl⟩
  rw [← HN.out]
  have HMADE : Hid (∀ W1 : World, Rd W1 A mod → Calls Try.prog 14 #[.agg #[.int .i64 P, .int .i64 M, .slice A n c]] W1 fun e w' => MadeSRet P M mod W1 e w') := by
    intro W1 h1; rw [HN.out]; exact madeS_calls P M A c mod W1 h1 HNIL.out
  go_enter Try.func11, Try.ntmps11
  go_wp2_with fail
  go_at_call 13
  refine (aliveS_calls _).mono ?_
  rintro e w1 ⟨rfl, hb1⟩
  obtain ⟨k0, k1, k2, _⟩ := box3 hb1
  have kb := below_box hb1
  have HR1 := Lib.hid ((HR.out.alloc _).below hb1 (Nat.le_refl _))
  clear hb1
  go_wp2_with fail
  go_at_call 14
  refine (HMADE.out _ HR1.out).mono ?_
  rintro e w2 ⟨hret, hb2⟩
  have HR3 := Lib.hid (HR1.out.below hb2 (Nat.le_refl _))
  (have hk := keepS k0 k1 k2 hb2; replace kb := below_step kb hb2 kb.size; clear k0 k1 k2 hb2; obtain ⟨k0, k1, k2, _⟩ := hk)
  have HB := Lib.hid kb
  have HL2 := Lib.hid (HRL.out.below kb (Nat.le_refl _))
  clear kb
  rcases hret with ⟨rfl, hno⟩ | ⟨g, S, rfl, rfl, rfl, rfl, hf⟩
  · clear hno
    go_wp2
    go_ret
    exact ⟨rfl, HB.out⟩
  · have HF := Lib.hid hf
    clear hf
    have HK := Lib.hid (fun (W : World) (h : Below w2.heap.size w2 W) => keepS k0 k1 k2 h)
    go_wp2_with fail
    obtain ⟨w3, hw3⟩ : ∃ w3, w3 = w2.alloc (.cells #[.slice L nl lc] 22) := ⟨_, rfl⟩
    have z0 : w3.cell? ⟨w2.heap.size, 0, none⟩ = some (.slice L nl lc) := by rw [hw3]; exact (World.cell?_alloc_new (w := w2) #[.slice L nl lc] 22 0).trans rfl
    have HB3 : Hid (Below w2.heap.size w2 w3) := by rw [hw3]; exact (Below.refl _ _).alloc (Nat.le_refl _) _
    rw [← hw3]
    clear hw3 k0 k1 k2
    go_at_call 15
    refine (shortOne_calls w2.heap.size L nl lc w3 z0).mono ?_
    rintro e w4 ⟨b, rfl, hbi, hb4⟩
    replace hb4 := below_step HB3.out hb4 HB3.out.size
    clear z0
    obtain ⟨k0, k1, k2, _⟩ := HK.out _ hb4
    have HB4 := Lib.hid hb4
    clear hb4
    cases b
    · go_wp2
      go_ret
      exact ⟨by first | rfl | (simp; done) | (simp; omega), below_step HB.out HB4.out HB.out.size⟩
    · have hsh := hbi.1 rfl
      clear hbi
      obtain ⟨b0, HB0⟩ : ∃ b : Nat, Hid (b = (S.bm l).l) := ⟨_, rfl⟩
      have hln0 := (S.bm_len HF.out.inv l).2
      rw [← HB0.out, ← HNL.out] at hln0
      obtain ⟨u, HU⟩ : ∃ u, Hid (u = decide (2 * b0 ≤ nl)) := ⟨_, rfl⟩
      have CU : Hid (∀ W, Below w2.heap.size w2 W → Calls Try.prog 29 #[.pointer (some ⟨g, 0, none⟩), .slice L nl lc] W fun e w' => e = .returned (.bool u) ∧ Below W.heap.size W w') := by
        intro W h
        have := unique_calls g S L lc l W (HF.out.below h) (HL2.out.below h (Nat.le_refl _)) (by rw [← HNL.out]; omega)
        rw [← HB0.out, ← HNL.out, ← HU.out] at this
        exact this
      have CV : Hid (∀ W, Below w2.heap.size w2 W → Calls Try.prog 30 #[.agg #[.int .i64 S.P, .int .i64 S.M, .slice A n c], .slice L nl lc] W fun e w' => e = .returned (.bool u) ∧ Below W.heap.size W w') := by
        intro W h
        have := runique_calls S HF.out.inv A c n L lc l W (HR3.out.below h (Nat.le_refl _)) HN.out (HL2.out.below h (Nat.le_refl _)) (by rw [← HNL.out]; omega)
        rw [← HB0.out, ← HNL.out, ← HU.out] at this
        exact this
      have CX : Hid (∀ W, Below w2.heap.size w2 W → Calls Try.prog 22 #[.agg #[.int .i64 S.P, .int .i64 S.M, .slice A n c], .slice L nl lc] W fun e w' => e = .returned (.int .i64 b0) ∧ Below W.heap.size W w') := by
        intro W h
        have := complexity_calls S HF.out.inv A c n L lc l W (HR3.out.below h (Nat.le_refl _)) HN.out (HL2.out.below h (Nat.le_refl _)) (by rw [← HNL.out]; omega)
        rw [← HB0.out, ← HNL.out] at this
        exact this
      obtain ⟨P, HPP⟩ : ∃ P, Hid (P = S.P) := ⟨_, rfl⟩
      obtain ⟨M, HMM⟩ : ∃ M, Hid (M = S.M) := ⟨_, rfl⟩
      rw [← HPP.out, ← HMM.out] at CV CX HK
      rw [← HPP.out] at k0
      rw [← HMM.out] at k1
      rw [← HPP.out, ← HMM.out]
      clear HF HB0 hln
      go_wp2_with fail
      go_at_call 29
      refine (CU.out _ HB4.out).mono ?_
      rintro e w5 ⟨rfl, hb5⟩
      have HB5 := Lib.hid (below_step HB4.out hb5 HB4.out.size)
      clear hb5 k0 k1 k2
      obtain ⟨k0, k1, k2, _⟩ := HK.out _ HB5.out
      go_wp2_with fail
      go_at_call 30
      refine (CV.out _ HB5.out).mono ?_
      rintro e w6 ⟨rfl, hb6⟩
      have HB6 := Lib.hid (below_step HB5.out hb6 HB5.out.size)
      clear hb6 k0 k1 k2
      obtain ⟨k0, k1, k2, _⟩ := HK.out _ HB6.out
      by_cases h : 2 * b0 ≤ nl
      · obtain rfl : u = true := by rw [HU.out]; simpa using h
        go_wp2_with fail
        go_at_call 22
        refine (CX.out _ HB6.out).mono ?_
        rintro e w7 ⟨rfl, hb7⟩
        have HB7 := Lib.hid (below_step HB6.out hb7 HB6.out.size)
        clear hb7 k0 k1 k2
        have h1 : 2 * (b0 : Int) ≤ (nl : Int) := by omega
        go_wp2
        go_ret
        exact ⟨by first | rfl | (simp; done) | (simp; omega), below_step HB.out HB7.out HB.out.size⟩
      · obtain rfl : u = false := by rw [HU.out]; simpa using h
        go_wp2_with fail
        go_at_call 22
        refine (CX.out _ HB6.out).mono ?_
        rintro e w7 ⟨rfl, hb7⟩
        have HB7 := Lib.hid (below_step HB6.out hb7 HB6.out.size)
        clear hb7 k0 k1 k2
        have h1 : ¬ 2 * (b0 : Int) ≤ (nl : Int) := by omega
        go_wp2
        go_ret
        exact ⟨by first | rfl | (simp; done) | (simp; omega), below_step HB.out HB7.out HB.out.size⟩

end Go.Proofs.Ytdbhhfhfjlpepaa
