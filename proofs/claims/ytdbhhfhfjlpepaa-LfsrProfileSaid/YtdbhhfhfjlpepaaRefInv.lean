/- The reference's inverse. -/
import Derived.Test.YtdbhhfhfjlpepaaRefK
namespace Go.Proofs.Ytdbhhfhfjlpepaa
open Go.RowKit
attribute [local go_sem ↓] Go.wp_at_zero Go.wp_at_succ

set_option maxHeartbeats 1000000 in
theorem rInv (S : FS) (hI : S.Inverts) (A : Option Addr) (c : Nat) (x : Int) (w : World) (hm : Rd w A S.mod) (hx : S.el x ≠ 0) (n : Nat) (hn : n = S.mod.length) :
    Calls Try.prog 63 #[.agg #[.int .i64 S.P, .int .i64 S.M, .slice A n c], .int .i64 x] w fun e w' => e = .returned (.int .i64 (S.inv (S.el x)).1) ∧ Below w.heap.size w w' := by
  have hu := Try.underlying24
  have HMD := Lib.hid hm
  obtain ⟨v, HV⟩ : ∃ v : El S, Hid (v = S.inv (S.el x)) := ⟨_, rfl⟩
  have hvx : v * S.el x = 1 := by rw [HV.out]; exact hI _ hx
  have hv0 : v ≠ 0 := fun e => by rw [e, El.zero_mul] at hvx; exact El.one_ne_zero hvx.symm
  have hv1 : 1 ≤ v.1 := by
    have h1 := v.2.1
    have h2 : v.1 ≠ 0 := fun e => hv0 (El.eq e)
    omega
  have hv2 := v.2.2
  have hq := S.q256
  obtain ⟨yv, HY⟩ : ∃ y : Nat, Hid ((y : Int) = v.1) := ⟨v.1.toNat, Int.toNat_of_nonneg v.2.1⟩
  have hy1 : 1 ≤ yv := by have := HY.out; omega
  obtain ⟨q, HQ⟩ : ∃ q, Hid (q = S.q) := ⟨_, rfl⟩
  have hyq : yv < q := by have := HY.out; rw [HQ.out]; omega
  have hq256 : q ≤ 256 := by rw [HQ.out]; exact hq
  obtain ⟨mm, HMM0⟩ : ∃ f : Nat → Int, Hid (∀ y : Nat, f y = (S.el x * S.el y).1) := ⟨_, fun _ => rfl⟩
  have HONE : Hid (mm yv = 1) := by
    unfold Hid; rw [HMM0.out, HY.out, S.el_of, El.mul_comm, hvx]; rfl
  have HNOT : Hid (∀ y : Nat, y < yv → mm y ≠ 1) := by
    intro y hy e
    rw [HMM0.out] at e
    have e1 : S.el x * S.el y = 1 := El.eq e
    have e2 : S.el y = v := by
      have : v * (S.el x * S.el y) = v * 1 := by rw [e1]
      rwa [← El.mul_assoc, hvx, El.one_mul, El.mul_one] at this
    have e3 : (S.el y).1 = y := inn_yes (by omega) (by rw [← HQ.out]; omega)
    rw [e2, ← HY.out] at e3
    omega
  have CO : Hid (∀ W, Calls Try.prog 49 #[.agg #[.int .i64 S.P, .int .i64 S.M, .slice A n c]] W fun e w' => e = .returned (.int .i64 q) ∧ Below W.heap.size W w') := by
    intro W; rw [HQ.out, ← S.ordq]; exact refOrder_calls S.P S.M A n c W
  have CM : Hid (∀ W (y : Nat), Below w.heap.size w W → Calls Try.prog 27 #[.agg #[.int .i64 S.P, .int .i64 S.M, .slice A n c], .int .i64 x, .int .i64 y] W fun e w' => e = .returned (.int .i64 (mm y)) ∧ Below W.heap.size W w') := by
    intro W y h; rw [HMM0.out]; exact rMul S A c x y W (HMD.out.below h (Nat.le_refl _)) n hn
  obtain ⟨P, HP⟩ : ∃ P, Hid (P = S.P) := ⟨_, rfl⟩
  obtain ⟨M, HMM⟩ : ∃ M, Hid (M = S.M) := ⟨_, rfl⟩
  rw [← HP.out, ← HMM.out] at CO CM ⊢
  rw [← HV.out, ← HY.out]
  clear hm hn hvx hv0 hv1 hv2 hq HP HMM hx HMM0
  go_enter Try.func63, Try.ntmps63
  go_wp2
  go_loopg [5] (yv - 1) (fun g2 t wr => ∃ y : Nat, 1 ≤ y ∧ y ≤ yv ∧ g2 = yv - y ∧ t = .int .i64 y ∧ Below (w.alloc (.cells #[.int .i64 P, .int .i64 M, .slice A n c] 24)).heap.size (w.alloc (.cells #[.int .i64 P, .int .i64 M, .slice A n c] 24)) wr)
  case atStart => exact ⟨1, Nat.le_refl _, hy1, rfl, rfl, Below.refl _ _⟩
  case round =>
    obtain ⟨y, hy1', hy2, HGQ, rfl, hb⟩ := hrel
    replace HGQ := Lib.hid HGQ
    obtain ⟨x0, x1, x2, _⟩ := box3 hb
    have HBB := Lib.hid hb
    clear hb
    go_wp2_with fail
    go_at_call 49
    refine (CO.out _).mono ?_
    rintro e w3 ⟨rfl, hb3⟩
    have HB3 := Lib.hid (below_step HBB.out hb3 HBB.out.size)
    clear hb3 x0 x1 x2
    obtain ⟨x0, x1, x2, _⟩ := box3 HB3.out
    have hlt : (y : Int) < (q : Int) := by omega
    obtain ⟨z, HZ⟩ : ∃ z, Hid (z = mm y) := ⟨_, rfl⟩
    go_wp2_with fail
    go_at_call 27
    refine (CM.out _ y (below_box HB3.out)).mono ?_
    rw [← HZ.out]
    rintro e w4 ⟨rfl, hb4⟩
    have HB4 := Lib.hid (below_step HB3.out hb4 HB3.out.size)
    clear hb4 x0 x1 x2
    by_cases hyy : y < yv
    · have hz1 : (z == 1) = false := by have := HNOT.out y hyy; rw [HZ.out]; simp [this]
      go_wp2
      go_roundg (yv - (y + 1))
      case measure => have := HGQ.out; omega
      case rel => exact ⟨y + 1, by omega, by omega, rfl, by go_num, HB4.out⟩
    · obtain rfl : y = yv := by omega
      obtain rfl : z = 1 := by rw [HZ.out]; exact HONE.out
      go_wp2
      go_ret
      exact ⟨rfl, below_box HB4.out⟩

end Go.Proofs.Ytdbhhfhfjlpepaa
