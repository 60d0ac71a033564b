/- Inverses and quotients by the logarithms. No program in it. -/
import Derived.Test.YtjbfccconjjofaaMathG
namespace Go.Proofs.Ytjbfccconjjofaa

/-- The inverse by the logarithms. -/
def ginv (q : Nat) (ex lg : List Int) (x : Int) : Int := ex.getD ((((q : Int) - 1 - lg.getD x.toNat 0) % ((q : Int) - 1)).toNat) 0
section
variable {P : Int} {M : Nat} {mod : List Int} {q : Nat} {x : Int} {ex lg : List Int}
theorem Made.inv (h : Made P M mod q x ex lg) (b : El h.fs) (hb : b ≠ 0) : ∃ c : El h.fs, ginv q ex lg b.1 = c.1 ∧ c * b = 1 := by
  obtain ⟨i, hi, e1, e2⟩ := h.log_at b hb
  refine ⟨El.pow h.g (q - 1 - i), ?_, ?_⟩
  · unfold ginv
    rw [e1, h.exmod (q - 1 - i) _ (by omega)]
  · rw [← e2, ← El.pow_add, show q - 1 - i + i = q - 1 from by omega, h.g_one]
theorem Made.bd (h : Made P M mod q x ex lg) (a : El h.fs) : 0 ≤ a.1 ∧ a.1 < q := by
  have h1 : a.1 < (h.fs.q : Int) := a.2.2
  have h2 := h.fq
  exact ⟨a.2.1, by omega⟩
theorem Made.refmul (h : Made P M mod q x ex lg) (a b : El h.fs) : refMul P M mod (inn (P ^ M) a.1) (inn (P ^ M) b.1) = (a * b).1 := by
  have ha := h.bd a
  have hb := h.bd b
  rw [h.hq] at ha hb
  rw [inn_yes ha.1 ha.2, inn_yes hb.1 hb.2, ← mulS_refMul h.shp]
  rfl
theorem Made.divides (h : Made P M mod q x ex lg) (u v : Int) (hv : inn q v ≠ 0) : ∃ iv qu : Int, (0 ≤ iv ∧ iv < q) ∧ (0 ≤ qu ∧ qu < q) ∧ ginv q ex lg (inn q v) = iv ∧ gmul q ex lg (inn q u) (inn q iv) = qu ∧
    refMul P M mod (inn (P ^ M) iv) (inn (P ^ M) (inn q v)) = 1 ∧ refMul P M mod (inn (P ^ M) qu) (inn (P ^ M) (inn q v)) = inn q u := by
  have hb : h.el v ≠ 0 := fun e => hv (congrArg Subtype.val e)
  obtain ⟨c, e1, e2⟩ := h.inv (h.el v) hb
  refine ⟨c.1, (h.el u * c).1, h.bd c, h.bd _, e1, ?_, ?_, ?_⟩
  · have hc := h.bd c
    rw [inn_yes hc.1 hc.2]
    exact h.mul (h.el u) c
  · have := h.refmul c (h.el v)
    rw [e2] at this
    exact this
  · have := h.refmul (h.el u * c) (h.el v)
    rw [El.mul_assoc, e2, El.mul_one] at this
    exact this
theorem Made.el0 (h : Made P M mod q x ex lg) : h.el 0 = 0 := El.eq (by rw [h.el_val]; unfold inn; split <;> rfl)
theorem Made.el1 (h : Made P M mod q x ex lg) : h.el 1 = 1 := El.eq (by
  rw [h.el_val]
  have := h.q2
  exact inn_yes (by omega) (by omega))
theorem Made.addr (h : Made P M mod q x ex lg) (u v : Int) (a b : El h.fs) (hu : h.el u = a) (hv : h.el v = b) : addS P M (inn q u) (inn q v) = (a + b).1 := by
  rw [h.addv, hu, hv]
theorem Made.mult (h : Made P M mod q x ex lg) (u v : Int) (a b : El h.fs) (hu : h.el u = a) (hv : h.el v = b) : gmul q ex lg (inn q u) (inn q v) = (a * b).1 := by
  rw [h.mulv, hu, hv]
/-- All that the axioms compare. -/
theorem Made.axi (h : Made P M mod q x ex lg) (u v z : Int) : ∃ s t s3 r t3 y d k : Int,
    addS P M (inn q u) (inn q 0) = inn q u ∧ gmul q ex lg (inn q u) (inn q 1) = inn q u ∧ addS P M (inn q u) (inn q v) = s ∧ addS P M (inn q v) (inn q u) = s ∧ gmul q ex lg (inn q u) (inn q v) = t ∧ gmul q ex lg (inn q v) (inn q u) = t ∧
    addS P M (inn q s) (inn q z) = s3 ∧ addS P M (inn q v) (inn q z) = r ∧ addS P M (inn q u) (inn q r) = s3 ∧ gmul q ex lg (inn q t) (inn q z) = t3 ∧ gmul q ex lg (inn q v) (inn q z) = y ∧ gmul q ex lg (inn q u) (inn q y) = t3 ∧
    gmul q ex lg (inn q u) (inn q r) = d ∧ gmul q ex lg (inn q u) (inn q z) = k ∧ addS P M (inn q t) (inn q k) = d := by
  obtain ⟨a, ha⟩ : ∃ a, h.el u = a := ⟨_, rfl⟩
  obtain ⟨b, hb⟩ : ∃ b, h.el v = b := ⟨_, rfl⟩
  obtain ⟨c, hc⟩ : ∃ c, h.el z = c := ⟨_, rfl⟩
  have hau : inn q u = a.1 := by rw [← ha]; rfl
  refine ⟨(a + b).1, (a * b).1, (a + b + c).1, (b + c).1, (a * b * c).1, (b * c).1, (a * (b + c)).1, (a * c).1, ?_, ?_, h.addr u v a b ha hb, ?_, h.mult u v a b ha hb, ?_, h.addr _ z _ c (h.el_of _) hc, h.addr v z b c hb hc, ?_, h.mult _ z _ c (h.el_of _) hc, h.mult v z b c hb hc, ?_, h.mult u _ a _ ha (h.el_of _), h.mult u z a c ha hc, ?_⟩
  · rw [h.addr u 0 a 0 ha h.el0, El.add_zero, hau]
  · rw [h.mult u 1 a 1 ha h.el1, El.mul_one, hau]
  · rw [h.addr v u b a hb ha, El.add_comm]
  · rw [h.mult v u b a hb ha, El.mul_comm]
  · rw [h.addr u _ a _ ha (h.el_of _), El.add_assoc]
  · rw [h.mult u _ a _ ha (h.el_of _), El.mul_assoc]
  · rw [h.addr _ _ _ _ (h.el_of _) (h.el_of _), El.mul_add]
end

end Go.Proofs.Ytjbfccconjjofaa
