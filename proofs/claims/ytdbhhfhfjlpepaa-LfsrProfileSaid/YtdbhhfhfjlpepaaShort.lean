/- Shortest and Profile. -/
import Derived.Test.YtdbhhfhfjlpepaaRunS
import Derived.Test.YtdbhhfhfjlpepaaRunP
namespace Go.Proofs.Ytdbhhfhfjlpepaa
open Go.RowKit
attribute [local go_sem ↓] Go.wp_at_zero Go.wp_at_succ

/-- The register that the algorithm finds. -/
def FS.bm (S : FS) (s : List Int) : BM := BM.run S s s.length
/-- The lengths behind each entry. -/
def FS.prof (S : FS) (s : List Int) : List Int := 0 :: (List.range s.length).map fun i => ((BM.run S s (i + 1)).l : Int)

theorem own_one (w : World) : Own (w.alloc (.cells #[.int .i64 0] 3)) w.heap.size 1 [0] :=
  ⟨by simp [ints], .inr ⟨w.heap.size, 1, #[.int .i64 0], rfl, Nat.le_refl _, heap_alloc_new w _, Nat.le_refl _, by unfold maxLen; omega, by simp, by simp [ints]⟩⟩
theorem Own.capLe {w : World} {g cap : Nat} {xs : List Int} (h : Own w g cap xs) : xs.length ≤ cap := by
  rcases h with ⟨_, h | ⟨g', cap', cur, e1, _, _, e4, _⟩⟩
  · cases h.1
  · cases e1; exact e4
theorem noop_calls (l : Nat) (w : World) : Calls Try.prog 42 #[.int .i64 l] w fun e w' => (∃ v, e = .returned v) ∧ w' = w := by
  go_enter Try.func42, Try.ntmps42
  go_wp2
  go_end0
  exact ⟨⟨_, rfl⟩, rfl⟩

set_option maxHeartbeats 1000000 in
theorem shortest_calls (g : Nat) (S : FS) (B : Option Addr) (d : Nat) (s : List Int) (w : World) (hf : FldAt w g S) (hs : Rd w B s) (hlen : s.length ≤ 100) :
    Calls Try.prog 21 #[.pointer (some ⟨g, 0, none⟩), .slice B s.length d] w fun e w' => ∃ A c, e = .returned (.tuple #[.slice A (S.bm s).c.length c, .int .i64 (S.bm s).l]) ∧ Rd w' A (S.bm s).c ∧ Below w.heap.size w w' := by
  have hgl : g < w.heap.size := by obtain ⟨q, ex, lg, p, h1, _⟩ := hf; exact h1.lt
  have CR := Lib.hid (runS_calls g S B d s w w hf hs (Below.refl _ _) hf.inv hlen g (fun _ b W => b = g ∧ g < W.heap.size) (fun pre b W W' h hb => ⟨h.1, Nat.lt_of_lt_of_le h.2 hb.size⟩) (fun pre b W h => ⟨by rw [h.1]; exact h.2, h.2⟩)
    (fun W pre b l h _ _ => (noop_calls l W).mono fun e W' ⟨h1, h2⟩ => ⟨h1, b, by rw [h2]; exact h, .inl rfl, by rw [h2]; exact Below.refl _ _, by rw [h2]; exact Nat.le_refl _, fun k _ _ _ => by rw [h2]⟩) g ⟨rfl, hgl⟩)
  clear hf hs
  obtain ⟨n, HN⟩ : ∃ n, Hid (n = s.length) := ⟨_, rfl⟩
  rw [← HN.out] at CR ⊢
  go_enter Try.func21, Try.ntmps21
  go_wp2_with fail
  go_at_call 41
  refine CR.out.mono ?_
  rintro e w1 ⟨A, c, b, rfl, h1, _, h2⟩
  go_wp2
  go_ret2
  exact ⟨A, c, rfl, h1, h2⟩

set_option maxHeartbeats 1000000 in
theorem tell_calls (n₀ ob b : Nat) (c : Nat) (ys : List Int) (l : Nat) (W : World) (hob : n₀ ≤ ob) (hbn : n₀ ≤ b) (hne : b ≠ ob) (hsz : n₀ ≤ W.heap.size) (hc : W.cell? ⟨ob, 0, none⟩ = some (.slice (some ⟨b, 0, none⟩) ys.length c)) (hf : W.frozen? ⟨ob, 0, none⟩ = false) (ho : Own W b c ys) (hl : ys.length ≤ 300) :
    Calls Try.prog 45 #[.int .i64 l, .pointer (some ⟨ob, 0, none⟩)] W fun e W' => (∃ v, e = .returned v) ∧ ∃ b' c', W'.cell? ⟨ob, 0, none⟩ = some (.slice (some ⟨b', 0, none⟩) (ys.length + 1) c') ∧ W'.frozen? ⟨ob, 0, none⟩ = false ∧ Own W' b' c' (ys ++ [(l : Int)]) ∧ b' ≠ ob ∧ n₀ ≤ b' ∧
      (b' = b ∨ W.heap.size ≤ b') ∧ Below n₀ W W' ∧ W.heap.size ≤ W'.heap.size ∧ ∀ k, k < W.heap.size → k ≠ ob → k ≠ b → W'.heap[k]? = W.heap[k]? := by
  have hobl := World.block_lt_of_cell? W _ hc
  simp only at hobl
  obtain ⟨m, HM⟩ : ∃ m, Hid (m = ys.length) := ⟨_, rfl⟩
  rw [← HM.out] at hc hl ⊢
  have HO := Lib.hid ho
  clear ho
  go_enter Try.func45, Try.ntmps45
  go_wp2_with (at_builtin; refine wpList_joined rfl (.tmp 3) (.tmp 5) rfl b m c rfl ys HM.out.symm (HO.out.alloc _) ⟨W.heap.size, 0, none⟩ 1 1 [(l : Int)] rfl rfl (rd_one W l) (by omega) ?_; intro b' c' w' ho' hg' hb'; go_loud (have hbl : w'.heap[ob]? = W.heap[ob]? := (hg'.block ob (by simp; omega) (by simp; omega)).trans (Below.heap_alloc W _ ob hobl); have hcW := (World.cell?_blk (p := ⟨ob, 0, none⟩) hbl).trans hc; have hfW := (World.frozen?_of_block (w := W) (w' := w') (a := ⟨ob, 0, none⟩) hbl).trans hf))
  go_end0
  have hbo : b' ≠ ob := by
    rcases hb' with rfl | rfl
    · exact hne
    · simp; omega
  have hbb : b' = b ∨ W.heap.size ≤ b' := hb'.imp id fun h => by rw [h]; simp
  have hgw : Below n₀ W w' := ((Below.refl n₀ W).alloc hsz _).grown hg' (by simp; omega) (fun k e => by cases e; exact hbn)
  have hsw : W.heap.size ≤ w'.heap.size := by have := hg'.size; simp at this; omega
  refine ⟨⟨_, rfl⟩, b', c', World.cell?_setCell_same' _ _ _ (by rw [hcW]; rfl), by rw [World.frozen?_setCell]; exact hfW, ho'.setOther _ (by simpa using fun e => hbo e.symm) _, hbo, ?_, hbb, hgw.setCell hob _, by simpa using hsw, fun k h1 h2 h3 => ?_⟩
  · rcases hbb with h | h
    · rw [h]; exact hbn
    · omega
  · rw [Below.heap_setCell _ _ _ _ h2, hg'.block k (by simp; omega) (by simpa using h3), Below.heap_alloc W _ k h1]

/-- What the box of Profile's numbers holds. -/
def Told (n₀ ob : Nat) (pre : List Int) (b : Nat) (W : World) : Prop :=
  ∃ c, W.cell? ⟨ob, 0, none⟩ = some (.slice (some ⟨b, 0, none⟩) (pre.length + 1) c) ∧ W.frozen? ⟨ob, 0, none⟩ = false ∧ Own W b c (0 :: pre) ∧ b ≠ ob ∧ n₀ ≤ b ∧ n₀ ≤ W.heap.size

set_option maxHeartbeats 1000000 in
theorem profile_calls (g : Nat) (S : FS) (B : Option Addr) (d : Nat) (s : List Int) (w : World) (hf : FldAt w g S) (hs : Rd w B s) (hlen : s.length ≤ 100) :
    Calls Try.prog 24 #[.pointer (some ⟨g, 0, none⟩), .slice B s.length d] w fun e w' => NewL w e w' (S.prof s) := by
  have CR : Hid (∀ W ob, Below w.heap.size w W → w.heap.size ≤ ob → (∃ b0, Told w.heap.size ob [] b0 W) → Calls Try.prog 41 #[.pointer (some ⟨g, 0, none⟩), .slice B s.length d, .func (.func 45) #[] #[.pointer (some ⟨ob, 0, none⟩)]] W fun e w' => RunRet w.heap.size S s (fun pre b W => Told w.heap.size ob pre b W) W e w') := by
    intro W ob hW hob ⟨b0, ht⟩
    refine runP_calls g S B d s w W hf hs hW hf.inv hlen ob _ (fun pre b W W' h hb => ?_) (fun pre b W h => ?_) (fun W pre b l h hp _ => ?_) b0 ht
    · obtain ⟨c, h1, h2, h3, h4, h5, h6⟩ := h
      exact ⟨c, (hb.cell (World.block_lt_of_cell? W _ h1)).trans h1, (hb.frozen (World.block_lt_of_cell? W _ h1)).trans h2, h3.below hb h3.lt, h4, h5, Nat.le_trans h6 hb.size⟩
    · obtain ⟨c, h1, h2, h3, h4, h5, h6⟩ := h
      exact ⟨h3.lt, World.block_lt_of_cell? W _ h1⟩
    · obtain ⟨c, h1, h2, h3, h4, h5, h6⟩ := h
      refine (tell_calls w.heap.size ob b c (0 :: pre) l W hob h5 h4 h6 (by simpa using h1) h2 h3 (by simp; omega)).mono fun e W' h => ?_
      obtain ⟨hv, b', c', k1, k2, k3, k4, k5, k6, k7, k8, k9⟩ := h
      exact ⟨hv, b', ⟨c', by simpa using k1, k2, k3, k4, k5, Nat.le_trans h6 k8⟩, k6, k7, k8, k9⟩
  clear hf hs
  obtain ⟨n, HN⟩ : ∃ n, Hid (n = s.length) := ⟨_, rfl⟩
  rw [← HN.out] at CR
  rw [← HN.out]
  go_enter Try.func24, Try.ntmps24
  go_wp2_with fail
  obtain ⟨w2, hw2⟩ : ∃ w2, w2 = (w.alloc (.cells #[.int .i64 0] 3)).alloc (.cells #[.slice (some ⟨w.heap.size, 0, none⟩) 1 1] 22) := ⟨_, rfl⟩
  have hb2 : Below w.heap.size w w2 := by rw [hw2]; exact ((Below.refl _ w).alloc (Nat.le_refl _) _).alloc (by simp) _
  have ht : ∃ b0, Told w.heap.size (w.heap.size + 1) [] b0 w2 := by
    refine ⟨w.heap.size, 1, ?_, ?_, ?_, by omega, Nat.le_refl _, hb2.size⟩
    · rw [hw2]; have := World.cell?_alloc_new (w := w.alloc (.cells #[.int .i64 0] 3)) #[.slice (some ⟨w.heap.size, 0, none⟩) 1 1] 22 0; rw [World.size_alloc] at this; exact this.trans rfl
    · rw [hw2]; simp
    · rw [hw2]; exact (own_one w).alloc _
  rw [← hw2]
  clear hw2
  go_at_call 41
  refine (CR.out w2 _ hb2 (by omega) ht).mono ?_
  rintro e w3 ⟨A, c, b, rfl, _, ⟨c', h1, h2, h3, h4, h5, h6⟩, h7⟩
  obtain ⟨ls, HL⟩ : ∃ ls, Hid (ls = (List.range s.length).map fun i => ((BM.run S s (i + 1)).l : Int)) := ⟨_, rfl⟩
  rw [← HL.out] at h1 h3
  obtain ⟨m, HM⟩ : ∃ m, Hid (m = ls.length) := ⟨_, rfl⟩
  rw [← HM.out] at h1
  have HP : Hid (S.prof s = 0 :: ls) := by unfold Hid FS.prof; rw [HL.out]
  have hm : m ≤ 100 := by rw [HM.out, HL.out]; simp; exact hlen
  go_wp2
  go_ret
  unfold NewL
  rw [HP.out]
  exact ⟨some ⟨b, 0, none⟩, c', by simp [HM.out], h3.rdAll (by simp; have := HM.out; omega), by have := h3.capLe; simp at this ⊢; have := HM.out; omega, fun h => (by cases h), fun ad h => (by cases h; exact h5), hb2.trans h7⟩

end Go.Proofs.Ytdbhhfhfjlpepaa
