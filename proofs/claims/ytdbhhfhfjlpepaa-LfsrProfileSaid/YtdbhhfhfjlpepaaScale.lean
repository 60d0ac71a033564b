/- Multiples of lists (the same walk as in chapter 04's text LstB). -/
import Derived.Test.YtdbhhfhfjlpepaaGFc
namespace Go.Proofs.Ytdbhhfhfjlpepaa
open Go.RowKit
attribute [local go_sem ↓] Go.wp_at_zero Go.wp_at_succ

/-- The first k, each multiplied. -/
def scN (q : Nat) (ex lg : List Int) (a : Int) (l : List Int) (k : Nat) : List Int := (List.range k).map fun j => gmul q ex lg (inn q a) (inn q (l.getD j 0))
theorem scN_length (q : Nat) (ex lg : List Int) (a : Int) (l : List Int) (k : Nat) : (scN q ex lg a l k).length = k := by simp [scN]
theorem scN_snoc (q : Nat) (ex lg : List Int) (a : Int) (l : List Int) (k : Nat) : scN q ex lg a l (k + 1) = scN q ex lg a l k ++ [gmul q ex lg (inn q a) (inn q (l.getD k 0))] := by simp [scN, List.range_succ]
theorem scN_at (q : Nat) (ex lg : List Int) (a : Int) (l : List Int) (k j : Nat) (h : j < k) : (scN q ex lg a l k).getD j 0 = gmul q ex lg (inn q a) (inn q (l.getD j 0)) := by
  simp [scN, List.getD_eq_getElem?_getD, h]

set_option maxHeartbeats 1000000 in
theorem gfScale_calls (g : Nat) (P : Int) (M : Nat) (mod : List Int) (q : Nat) (ex lg : List Int) (p a : Int) (A : Option Addr) (c : Nat) (l : List Int) (w : World) (hg : GFat w g P M mod q ex lg) (hm : Made P M mod q p ex lg) (hr : Rd w A l) (hl : l.length ≤ 1000) :
    Calls Try.prog 61 #[.pointer (some ⟨g, 0, none⟩), .int .i64 a, .slice A l.length c] w fun e w' => ∃ gs, e = .returned (.slice (some ⟨gs, 0, none⟩) l.length l.length) ∧ w.heap.size ≤ gs ∧ Own w' gs l.length (scN q ex lg a l l.length) ∧ Below w.heap.size w w' := by
  have HG := Lib.hid hg
  have HM := Lib.hid hm
  have HR := Lib.hid hr
  clear hg hm hr
  obtain ⟨n, HN⟩ : ∃ n, Hid (n = l.length) := ⟨_, rfl⟩
  rw [← HN.out] at hl ⊢
  have hmk := makeInts n (by omega)
  have hmade := Own.made w n (by omega)
  go_enter Try.func61, Try.ntmps61
  go_wp2
  go_loopg [15] n (fun g2 i wr => ∃ k : Nat, k ≤ n ∧ g2 = n - k ∧ i = .int .i64 k ∧ Own wr w.heap.size n (scN q ex lg a l k ++ List.replicate (n - k) 0) ∧ Below w.heap.size w wr)
  case atStart => exact ⟨0, Nat.zero_le _, rfl, rfl, by simpa [scN] using hmade, (Below.refl _ _).alloc (Nat.le_refl _) _⟩
  case round =>
    obtain ⟨k, hk, HGQ, rfl, hown, hb⟩ := hrel
    replace HGQ := Lib.hid HGQ
    clear hmk hmade
    by_cases hlt : k < n
    · obtain ⟨ad, rfl, hc⟩ := (HR.out.below hb (Nat.le_refl _)).get k (by rw [← HN.out]; exact hlt)
      obtain ⟨u, HU⟩ : ∃ z, Hid (z = l.getD k 0) := ⟨_, rfl⟩
      rw [← HU.out] at hc
      have HBL := Lib.hid hb
      have HO := Lib.hid hown
      clear hb hown
      obtain ⟨z, HZ⟩ : ∃ z, Hid (z = gmul q ex lg (inn q a) (inn q u)) := ⟨_, rfl⟩
      go_wp2_with fail
      go_at_call 58
      refine (gfMul_calls g P M mod q ex lg p a u _ (HG.out.below HBL.out) HM.out).mono ?_
      rw [← HZ.out]
      rintro e w3 ⟨rfl, hb3⟩
      have HB3 := Lib.hid (below_step HBL.out hb3 HBL.out.size)
      have ho3 := HO.out.below hb3 HO.out.lt
      have hcc := ho3.cell k (by simp [scN_length]; omega)
      have hf := ho3.free k
      have HS := Lib.hid (ho3.set k z)
      clear hb3 hc ho3
      go_wp2
      go_roundg (n - (k + 1))
      case measure => have := HGQ.out; omega
      case rel =>
        refine ⟨k + 1, by omega, rfl, by go_num, ?_, HB3.out.setCell (Nat.le_refl _) _⟩
        have := HS.out
        rw [set_fill _ k n _ (scN_length _ _ _ _ _ _) hlt, HZ.out, HU.out, ← scN_snoc] at this
        rw [HZ.out, HU.out]; exact this
    · obtain rfl : k = n := by omega
      have HBL := Lib.hid hb
      have HO := Lib.hid hown
      clear hb hown
      go_wp2
      go_ret
      exact ⟨w.heap.size, rfl, Nat.le_refl _, by simpa using HO.out, HBL.out⟩

end Go.Proofs.Ytdbhhfhfjlpepaa
