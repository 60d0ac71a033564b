/- The field's description, handed out. -/
import Derived.Test.YtjbfccconjjofaaLawKit
import Derived.Test.YtjbfccconjjofaaRefPow
import Derived.Deep.RegionLaw
import Derived.Lib.SmallJoins
namespace Go.Proofs.Ytjbfccconjjofaa
open Go.RowKit
attribute [local go_sem ↓] Go.wp_at_zero Go.wp_at_succ

theorem zeroBlk (w : World) (Z E : Obj) : ((w.alloc Z).alloc E).heap[w.heap.size]? = some Z := (Below.heap_alloc (w.alloc Z) E w.heap.size (by simp)).trans (heap_alloc_new w Z)
theorem threeAt {w : World} {g : Nat} {a b c : Value} {t : TypeId} (h : w.heap[g]? = some (.cells #[a, b, c] t (0, 0))) : (w.cell? ⟨g, 0, none⟩ = some a ∧ w.cell? ⟨g, 1, none⟩ = some b ∧ w.cell? ⟨g, 2, none⟩ = some c) ∧ (w.frozen? ⟨g, 0, none⟩ = false ∧ w.frozen? ⟨g, 1, none⟩ = false ∧ w.frozen? ⟨g, 2, none⟩ = false) := by
  refine ⟨⟨(cell_of_row w g 0 _ _ _ h).trans rfl, (cell_of_row w g 1 _ _ _ h).trans rfl, (cell_of_row w g 2 _ _ _ h).trans rfl⟩, ?_, ?_, ?_⟩ <;> simp [World.frozen?, h]
theorem setThree {w : World} {g : Nat} {a b c : Value} {t : TypeId} (h : w.heap[g]? = some (.cells #[a, b, c] t (0, 0))) (x y z : Value) :
    (w.setCell ⟨g, 0, none⟩ x).cell? ⟨g, 0, none⟩ = some x ∧ ((w.setCell ⟨g, 0, none⟩ x).setCell ⟨g, 1, none⟩ y).cell? ⟨g, 1, none⟩ = some y ∧ (((w.setCell ⟨g, 0, none⟩ x).setCell ⟨g, 1, none⟩ y).setCell ⟨g, 2, none⟩ z).cell? ⟨g, 2, none⟩ = some z := by
  have h1 := Go.Joins.block_setCell (i := 0) h x
  have h2 := Go.Joins.block_setCell (i := 1) h1 y
  have h3 := Go.Joins.block_setCell (i := 2) h2 z
  exact ⟨(cell_of_row _ g 0 _ _ _ h1).trans rfl, (cell_of_row _ g 1 _ _ _ h2).trans rfl, (cell_of_row _ g 2 _ _ _ h3).trans rfl⟩
theorem belowN {W w1 : World} {p q r s : Prop} (h : p ∧ q ∧ r ∧ s ∧ Below W.heap.size W w1) : Below W.heap.size W w1 := h.2.2.2.2
set_option maxHeartbeats 2000000 in
theorem gfField_calls (g : Nat) (P : Int) (M : Nat) (mod : List Int) (q : Nat) (ex lg : List Int) (p : Int) (w : World) (hg : GFat w g P M mod q ex lg) (hm : Made P M mod q p ex lg) :
    Calls Try.prog 50 #[.pointer (some ⟨g, 0, none⟩)] w fun e w' => ∃ b' c', e = .returned (.agg #[.int .i64 P, .int .i64 M, .slice (some ⟨b', 0, none⟩) mod.length c']) ∧ Own w' b' c' mod ∧ Below w.heap.size w w' := by
  have hu := Try.underlying71
  have hu2 := Try.underlying24
  have HML := Lib.hid hm.shp.modLen
  obtain ⟨A2, c2, A4, c4, A5, c5, x0, x1, x2, x3, x4, x5, r2, _, _, hn2⟩ := hg.cells
  obtain ⟨n, HN⟩ : ∃ n, Hid (n = mod.length) := ⟨_, rfl⟩
  rw [← HN.out] at x2 ⊢
  have HNIL := Lib.hid hn2
  clear hg hm x3 x4 x5 hn2
  go_enter Try.func50, Try.ntmps50
  go_wp2
  go_region_held3 (fun w' => w'.cell? ⟨g, 0, none⟩ = some (.int .i64 P) ∧ w'.cell? ⟨g, 1, none⟩ = some (.int .i64 M) ∧ w'.cell? ⟨g, 2, none⟩ = some (.slice A2 n c2) ∧ Rd w' A2 mod ∧ Below w.heap.size w w')
    (first | (exact keepN x0 x1 x2 r2 ((Below.refl _ _).alloc (Nat.le_refl _) _).drew) | (exact keepN x0 x1 x2 r2 (keepA (by assumption))) | (exact keepN x0 x1 x2 r2 (keepG (by assumption) hg4 (by first | omega | (simp; done) | (simp; omega)))) | (exact keepN x0 x1 x2 r2 ((((belowN (by assumption)).setCell (Nat.le_refl _) _).setCell (Nat.le_refl _) _).setCell (Nat.le_refl _) _)))
    ((refine step_copied rfl (.tmp 13) (.tmp 18) rfl _ rfl (by first | exact heap_alloc_new _ _ | exact heap_new2 _ _ _) A2 n c2 mod HN.out.symm rfl HNIL.out (keepR (by assumption)) (by rw [HN.out]; exact HML.out) ?_; intro b' c' w4 ho4 hg4 hb4; have hz := heap_of_grown hg4 (zeroBlk w _ _) (by simp); obtain ⟨⟨z0, z1, z2⟩, f0, f1, f2⟩ := threeAt hz))

  all_goals
    go_wp2
    have hne : w.heap.size ≠ b' := by
      rcases hb4 with h | h
      · omega
      · simp at h; omega
    rename_i hS
    obtain ⟨s0, s1, s2⟩ := setThree hz (.int .i64 P) (.int .i64 M) (.slice (some ⟨b', 0, none⟩) n c')
    refine bodyPost_ret (v := .agg #[.int .i64 P, .int .i64 M, .slice (some ⟨b', 0, none⟩) n c']) (by simp [results, Try.results50, go_sem, s0, s1, s2]) rfl ⟨b', c', rfl, ?_, belowN hS⟩
    exact ((ho4.setOther _ hne _).setOther _ hne _).setOther _ hne _

end Go.Proofs.Ytjbfccconjjofaa
