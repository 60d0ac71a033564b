/- Proved: for every input LfsrProfile returns true, and the input reads as it did. -/
import Derived.Test.YtdbhhfhfjlpepaaRowE
import Derived.Test.YtdbhhfhfjlpepaaLProfile
namespace Go.Proofs.Ytdbhhfhfjlpepaa
open Go.ChangeShapes Go.WideShapes Go.ChangeAt Go.RowKit Go.Joins

set_option maxRecDepth 100000 in
theorem lfsrProfile_lifted (os : Os) (started : os.Started) (H : Type) (enc : TypeId × Value → H) :
    ReturnsInHanded {} Try.checked os 7 .any (Rows.lfsrProfileSpec.pre6 enc Try.prog Try.f7 Rows.lfsrProfileRow.domain false) (Rows.lfsrProfileSpec.post enc Try.prog Try.f7 false true false false) := by
  refine returnsInHanded_of_change_sized (C := Try.checked) own_knob started (by kernel_rfl) Try.func7
    (ChangeSpec.witness6 (enc := enc) (C := Try.checked) false ⟨#[], #[.agg #[.int .i64 0, .int .i64 0, .slice none 0 0], .slice none 0 0], []⟩ 8 (by kernel_rfl) (by kernel_rfl) (by kernel_rfl) (by kernel_rfl)) ?_
  intro W base args ds gs before hval0 hW _ hsz0 _
  have hval : ∀ (j : Nat) t v, Try.f7.params[j]? = some t → args[j]? = some v → Value.okWide Try.prog W .any base t v := hval0
  have hW' := hW
  obtain ⟨p, q, hA0, hV, rfl, hfz, hnd⟩ := hW
  have hA : DataW.TrodAll enc Try.prog W 0 (fun _ => true) true Try.f7.params.toList args.toList ds p := hA0
  rw [Try.params7] at hA hval
  obtain ⟨v0, vs0, d0, ds0, p0, q0, hargs, rfl, rfl, h0, r0⟩ := trodAll_cons hA
  obtain ⟨v1, vs1, d1, ds1, p1, q1, rfl, rfl, rfl, h1, r1⟩ := trodAll_cons r0
  obtain ⟨rfl, rfl, rfl⟩ := trodAll_nil r1
  obtain rfl : args = #[v0, v1] := by cases args; simp_all
  obtain ⟨rfl, rfl⟩ := trodVars_none hV
  have hsz : (DataW.weightsEach Try.prog [24, 22] [d0, d1]).all (· ≤ reachBytes) = true := hsz0
  simp only [DataW.weightsEach, List.all_append, List.all_nil, Bool.and_eq_true, and_true] at hsz
  obtain ⟨P0, M0, A0, cap0, mod0, rfl, hr0, hn0⟩ := field_open (hval 0 24 v0 rfl rfl) h0 hsz.1
  obtain ⟨A1, cap1, l1, rfl, hr1, _, hc1⟩ := slice_openC (hval 1 22 v1 rfl rfl) h1 hsz.2
  clear hA0 hval0
  refine (lawProfile P0 M0 A0 cap0 mod0 A1 cap1 l1 W hr0 hn0 hr1 hc1).mono fun e W' ⟨he, hb⟩ => ?_
  subst he
  exact ⟨_, rfl, law_post rfl hW' (by kernel_rfl) rfl (by rw [Try.params7]; simp only [List.forall_mem_cons]; exact ⟨⟨by kernel_rfl, of_decide_eq_true (by kernel_rfl)⟩, ⟨by kernel_rfl, of_decide_eq_true (by kernel_rfl)⟩, by simp⟩) hb⟩

theorem lfsrProfile_holds : Rows.LfsrProfileSaid :=
  OpenClaim.holds_of_wide 7 Try.f7 rfl rfl rfl rfl rfl rfl rfl ⟨rfl, rfl, rfl, rfl, rfl⟩ rfl rfl rfl rfl rfl (by kernel_rfl) Try.func7 (by kernel_rfl)
    (of_decide_eq_true (by kernel_rfl)) (by unfold Func.isWrapper; first | (rw [if_pos (by decide +kernel)]; kernel_rfl) | (rw [if_neg (by decide +kernel)]; exact ⟨rfl, rfl⟩))
    (fun os started H enc _ => lfsrProfile_lifted os started H enc)
#print axioms lfsrProfile_holds

end Go.Proofs.Ytdbhhfhfjlpepaa
