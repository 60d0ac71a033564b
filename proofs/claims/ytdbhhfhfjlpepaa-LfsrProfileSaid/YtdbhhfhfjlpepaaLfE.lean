/- Twice as many entries as a register is long suffice to find one that generates all of them. No program in it. -/
import Derived.Test.YtdbhhfhfjlpepaaLf
namespace Go.Proofs.Ytdbhhfhfjlpepaa
namespace FS
variable (S : FS)
theorem getD_snoc (l : List Int) (x : Int) (i : Nat) : (l ++ [x]).getD i 0 = if i = l.length then x else l.getD i 0 := by
  by_cases h : i < l.length
  · rw [if_neg (by omega), List.getD_eq_getElem?_getD, List.getElem?_append_left h, ← List.getD_eq_getElem?_getD]
  · by_cases h2 : i = l.length
    · subst h2; simp [List.getD_eq_getElem?_getD]
    · rw [if_neg h2, List.getD_eq_getElem?_getD, List.getElem?_eq_none (by simp; omega), List.getD_eq_getElem?_getD, List.getElem?_eq_none (by omega)]
theorem recu_in (c first : List Int) (n : Nat) : ∀ i, (S.sq (S.recu c first n) i).1 = (S.recu c first n).getD i 0 := by
  induction n with
  | zero => intro i; rw [S.sq_far _ _ (by simp [recu])]; simp [recu]; rfl
  | succ n ih =>
    intro i
    have e2 : ∃ a : El S, S.recu c first (n + 1) = S.recu c first n ++ [a.1] := by
      rw [recu]; split
      · exact ⟨_, rfl⟩
      · exact ⟨_, rfl⟩
    obtain ⟨a, ea⟩ := e2
    rw [ea, sq_snoc, getD_snoc]
    split
    · rfl
    · exact ih i
theorem eq_of_sq {a b : List Int} (hl : a.length = b.length) (ha : ∀ i, (S.sq a i).1 = a.getD i 0) (hb : ∀ i, (S.sq b i).1 = b.getD i 0) (h : ∀ i, i < a.length → S.sq a i = S.sq b i) : a = b := by
  refine List.ext_getElem hl fun i h1 h2 => ?_
  have e := ha i
  rw [h i h1, hb i] at e
  simpa [List.getD_eq_getElem?_getD, h1, h2] using e.symm
/-- What a register generates is what it goes on with. -/
theorem recu_unique (c first s : List Int) (N : Nat) (hs : s.length = N) (hin : ∀ i, (S.sq s i).1 = s.getD i 0) (hg : El.Gen (S.sq c) first.length (S.sq s) N) (hf : ∀ i, i < first.length → i < N → S.sq first i = S.sq s i) : S.recu c first N = s := by
  have key : ∀ n, ∀ i, i < n → i < N → S.sq (S.recu c first N) i = S.sq s i := by
    intro n
    induction n with
    | zero => intro i h; omega
    | succ n ih =>
      intro i hi hiN
      by_cases h1 : i < first.length
      · rw [S.recu_first c first N i hiN h1, hf i h1 hiN]
      · rw [S.recu_next c first N i hiN (by omega)]
        have h2 := hg.2 i (by omega) hiN
        rw [S.cv_split c _ hg.1 _ i (by omega)] at h2
        have h3 := El.neg_eq (El.add_comm _ _ ▸ h2)
        rw [h3]
        congr 1
        refine El.sm_congr _ fun j hj => ?_
        rw [← S.recu_at c first i N (i - 1 - j) (by omega) (by omega), ih (i - 1 - j) (by omega) (by omega)]
  exact S.eq_of_sq (by rw [S.recu_length, hs]) (S.recu_in c first N) hin fun i hi => key N i (by rwa [S.recu_length] at hi) (by rwa [S.recu_length] at hi)
theorem sq_take (s : List Int) (n i : Nat) (h : i < n) : S.sq (s.take n) i = S.sq s i := by
  unfold sq
  simp [List.getD_eq_getElem?_getD, h]
theorem gen_take {c : Nat → El S} {l : Nat} {s : List Int} {n m : Nat} (hm : m ≤ n) : El.Gen c l (S.sq (s.take n)) m ↔ El.Gen c l (S.sq s) m := by
  unfold El.Gen
  refine and_congr_right fun _ => forall_congr' fun j => forall_congr' fun h1 => forall_congr' fun h2 => ?_
  rw [El.cv_congr j (fun i _ => rfl) fun i hi => S.sq_take s n i (by omega)]
/-- The shortest register of twice the length generates all. -/
theorem recovers (hI : S.Inverts) (c first : List Int) (N : Nat) (hr : El.Reg (S.sq c) first.length) (hN : 2 * first.length ≤ N) :
    (BM.run S ((S.recu c first N).take (2 * first.length)) (2 * first.length)).l ≤ first.length ∧
    S.IsReg (BM.run S ((S.recu c first N).take (2 * first.length)) (2 * first.length)).c (BM.run S ((S.recu c first N).take (2 * first.length)) (2 * first.length)).l ∧
    S.recu (BM.run S ((S.recu c first N).take (2 * first.length)) (2 * first.length)).c ((S.recu c first N).take (BM.run S ((S.recu c first N).take (2 * first.length)) (2 * first.length)).l) N = S.recu c first N := by
  obtain ⟨s, hs⟩ : ∃ s, s = S.recu c first N := ⟨_, rfl⟩
  obtain ⟨L, hL⟩ : ∃ L, L = first.length := ⟨_, rfl⟩
  have hsl : s.length = N := by rw [hs, S.recu_length]
  have hgen := S.recu_gen c first N hr
  have hin := S.recu_in c first N
  rw [← hs] at hgen hin ⊢
  rw [← hL] at hgen hr hN ⊢
  obtain ⟨K, ol, hok⟩ := BM.run_ok hI (s.take (2 * L)) (2 * L)
  obtain ⟨b, hb⟩ : ∃ b, b = BM.run S (s.take (2 * L)) (2 * L) := ⟨_, rfl⟩
  rw [← hb] at hok ⊢
  have hmin : b.l ≤ L := hok.min _ _ ((S.gen_take (Nat.le_refl _)).2 (hgen.less hN))
  have hg0 : El.Gen (S.sq b.c) b.l (S.sq s) (2 * L) := (S.gen_take (Nat.le_refl _)).1 hok.gen
  have hall : ∀ m, 2 * L ≤ m → m ≤ N → El.Gen (S.sq b.c) b.l (S.sq s) m := by
    intro m
    induction m with
    | zero => intro h _; rwa [Nat.le_zero.1 h] at hg0
    | succ m ih =>
      intro h1 h2
      by_cases e : 2 * L = m + 1
      · rw [← e]; exact hg0
      · have h3 := ih (by omega) (by omega)
        refine h3.next fun _ => ?_
        by_cases h4 : El.cv (S.sq b.c) (S.sq s) m = 0
        · exact h4
        · have := El.massey h3 h4 (hgen.less h2)
          omega
  refine ⟨hmin, ⟨b.l, rfl, hok.gen.1⟩, ?_⟩
  have hlen : (s.take b.l).length = b.l := by rw [List.length_take]; omega
  refine S.recu_unique _ _ s N hsl hin (by rw [hlen]; exact hall N hN (Nat.le_refl _)) fun i h1 h2 => S.sq_take s _ i (by rwa [hlen] at h1)
end FS

end Go.Proofs.Ytdbhhfhfjlpepaa
