/- What New makes is what Check lets pass, and its products are the reference's. No program in it. -/
import Derived.Test.YtjbfccconjjofaaMathF
import Derived.Test.YtjbfccconjjofaaGFb
import Derived.Test.YtjbfccconjjofaaRefCheck
namespace Go.Proofs.Ytjbfccconjjofaa

theorem good_iff (P M : Int) (mod : List Int) : RefGood P M mod ↔ Good P M mod := by
  constructor
  · rintro ⟨m, rfl, hs, hi⟩
    have S : FS := ⟨P, m, mod, hs⟩
    obtain ⟨x, h1, h2, h3⟩ := El.dom_gen (irr_dom ⟨P, m, mod, hs⟩ hi)
    exact ⟨m, rfl, hs, (⟨P, m, mod, hs⟩ : FS).q, x, (⟨P, m, mod, hs⟩ : FS).hq, h1, h2, h3⟩
  · rintro ⟨m, rfl, hs, q, x, hq, h1, h2, h3⟩
    obtain ⟨S, hS⟩ : ∃ S : FS, S = ⟨P, m, mod, hs⟩ := ⟨_, rfl⟩
    have e : q = S.q := by have := S.hq; rw [hS] at this ⊢; have e2 : (q : Int) = (⟨P, m, mod, hs⟩ : FS).q := hq.trans this.symm; omega
    have hD : El.Dom S := El.gen_dom (x := x) (by omega) (by rw [← e]; exact h2) (by rw [← e, hS]; exact h3)
    refine ⟨m, rfl, hs, fun hm => ?_⟩
    have := dom_irr S hD (by rw [hS]; exact hm)
    rw [hS] at this
    exact this

/-- What a made field's numbers say. -/
def Made.fs {P : Int} {M : Nat} {mod : List Int} {q : Nat} {x : Int} {ex lg : List Int} (h : Made P M mod q x ex lg) : FS := ⟨P, M, mod, h.shp⟩
theorem Made.fq {P : Int} {M : Nat} {mod : List Int} {q : Nat} {x : Int} {ex lg : List Int} (h : Made P M mod q x ex lg) : h.fs.q = q := by
  have h1 := h.fs.hq
  have h2 := h.hq
  have e2 : (q : Int) = h.fs.q := h2.trans h1.symm
  omega
theorem Made.xs {P : Int} {M : Nat} {mod : List Int} {q : Nat} {x : Int} {ex lg : List Int} (h : Made P M mod q x ex lg) : x < h.fs.q := by rw [h.fq]; exact h.xq
/-- The generator. -/
def Made.g {P : Int} {M : Nat} {mod : List Int} {q : Nat} {x : Int} {ex lg : List Int} (h : Made P M mod q x ex lg) : El h.fs := El.mk x (by have := h.x1; omega) h.xs
theorem Made.gen' {P : Int} {M : Nat} {mod : List Int} {q : Nat} {x : Int} {ex lg : List Int} (h : Made P M mod q x ex lg) : IsGen h.fs.mul h.fs.q x := by rw [h.fq]; exact h.gen
theorem Made.dom {P : Int} {M : Nat} {mod : List Int} {q : Nat} {x : Int} {ex lg : List Int} (h : Made P M mod q x ex lg) : El.Dom h.fs := El.gen_dom (by have := h.x1; omega) h.xs h.gen'
theorem Made.g_one {P : Int} {M : Nat} {mod : List Int} {q : Nat} {x : Int} {ex lg : List Int} (h : Made P M mod q x ex lg) : El.pow h.g (q - 1) = 1 := by
  have := El.gen_one (by have := h.x1; omega) h.xs h.gen'
  rwa [h.fq] at this
theorem Made.q2 {P : Int} {M : Nat} {mod : List Int} {q : Nat} {x : Int} {ex lg : List Int} (h : Made P M mod q x ex lg) : 2 ≤ q := by have := h.fs.q2; rwa [h.fq] at this
/-- The exponents. -/
theorem Made.ex_at {P : Int} {M : Nat} {mod : List Int} {q : Nat} {x : Int} {ex lg : List Int} (h : Made P M mod q x ex lg) (k : Nat) (hk : k < q - 1) : ex.getD k 0 = (El.pow h.g k).1 :=
  (congrArg (fun l => l.getD k 0) h.hex).trans ((pwL_at _ _ _ _ hk).trans (El.pw_val h.g k))
/-- The logarithms. -/
theorem Made.log_at {P : Int} {M : Nat} {mod : List Int} {q : Nat} {x : Int} {ex lg : List Int} (h : Made P M mod q x ex lg) (b : El h.fs) (hb : b ≠ 0) : ∃ i : Nat, i < q - 1 ∧ lg.getD b.1.toNat 0 = i ∧ El.pow h.g i = b := by
  obtain ⟨i, hi, e⟩ := El.gen_all (by have := h.x1; omega) h.xs h.gen' b hb
  rw [h.fq] at hi
  obtain ⟨v, hv, e2, e3⟩ := h.hlg i hi
  have e4 : pw h.fs.mul h.g.1 i = (El.pow h.g i).1 := El.pw_val h.g i
  have e5 : (v : Int) = b.1 := by
    rw [e2, ← congrArg Subtype.val e]
    exact e4
  refine ⟨i, hi, ?_, e⟩
  rw [← e5]; simpa using e3
theorem Made.exmod {P : Int} {M : Nat} {mod : List Int} {q : Nat} {x : Int} {ex lg : List Int} (h : Made P M mod q x ex lg) (k : Nat) (n : Int) (hn : n = k) : ex.getD ((n % ((q : Int) - 1)).toNat) 0 = (El.pow h.g k).1 := by
  have hq := h.q2
  have e : (n % ((q : Int) - 1)).toNat = k % (q - 1) := by
    have e1 : (q : Int) - 1 = ((q - 1 : Nat) : Int) := by omega
    rw [hn, e1, ← Int.natCast_emod, Int.toNat_natCast]
  rw [e, h.ex_at _ (Nat.mod_lt _ (by omega))]
  exact congrArg Subtype.val (El.pow_mod h.g_one k).symm
theorem Made.mul {P : Int} {M : Nat} {mod : List Int} {q : Nat} {x : Int} {ex lg : List Int} (h : Made P M mod q x ex lg) (a b : El h.fs) : gmul q ex lg a.1 b.1 = (a * b).1 := by
  unfold gmul
  by_cases ha : a = 0
  · rw [if_pos (.inl (by rw [ha]; rfl)), ha, El.zero_mul]; rfl
  · by_cases hb : b = 0
    · rw [if_pos (.inr (by rw [hb]; rfl)), hb, El.mul_zero]; rfl
    · rw [if_neg (by rintro (e | e); exact ha (El.eq e); exact hb (El.eq e))]
      obtain ⟨i, hi, e1, e2⟩ := h.log_at a ha
      obtain ⟨j, hj, e3, e4⟩ := h.log_at b hb
      rw [e1, e3, h.exmod (i + j) _ (by omega), El.pow_add, e2, e4]
/-- The elements that the program reads. -/
def Made.el {P : Int} {M : Nat} {mod : List Int} {q : Nat} {x : Int} {ex lg : List Int} (h : Made P M mod q x ex lg) (v : Int) : El h.fs := El.mk (inn q v) (inn_bd (by have := h.q2; omega)).1 (by rw [h.fq]; exact (inn_bd (by have := h.q2; omega)).2)
theorem Made.el_val {P : Int} {M : Nat} {mod : List Int} {q : Nat} {x : Int} {ex lg : List Int} (h : Made P M mod q x ex lg) (v : Int) : (h.el v).1 = inn q v := rfl
theorem Made.el_of {P : Int} {M : Nat} {mod : List Int} {q : Nat} {x : Int} {ex lg : List Int} (h : Made P M mod q x ex lg) (a : El h.fs) : h.el a.1 = a := by
  apply El.eq
  rw [h.el_val]
  exact inn_yes a.2.1 (by have h1 := a.2.2; have h2 := h.fq; have h3 : a.1 < (h.fs.q : Int) := h1; omega)
theorem Made.mulv {P : Int} {M : Nat} {mod : List Int} {q : Nat} {x : Int} {ex lg : List Int} (h : Made P M mod q x ex lg) (u v : Int) : gmul q ex lg (inn q u) (inn q v) = (h.el u * h.el v).1 := h.mul (h.el u) (h.el v)
theorem Made.mulr {P : Int} {M : Nat} {mod : List Int} {q : Nat} {x : Int} {ex lg : List Int} (h : Made P M mod q x ex lg) (u v : Int) : gmul q ex lg (inn q u) (inn q v) = refMul P M mod (inn (P ^ M) u) (inn (P ^ M) v) := by
  rw [h.mulv, ← mulS_refMul h.shp, ← h.hq]; rfl
theorem Made.addv {P : Int} {M : Nat} {mod : List Int} {q : Nat} {x : Int} {ex lg : List Int} (h : Made P M mod q x ex lg) (u v : Int) : addS P M (inn q u) (inn q v) = (h.el u + h.el v).1 := rfl
theorem Made.negv {P : Int} {M : Nat} {mod : List Int} {q : Nat} {x : Int} {ex lg : List Int} (h : Made P M mod q x ex lg) (u : Int) : negS P M (inn q u) = (-(h.el u)).1 := rfl

end Go.Proofs.Ytjbfccconjjofaa
