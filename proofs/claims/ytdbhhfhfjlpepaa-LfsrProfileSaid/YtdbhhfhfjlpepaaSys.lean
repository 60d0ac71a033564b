/- The reference's rank of any rows, and its system. -/
import Derived.Test.YtdbhhfhfjlpepaaRank
import Derived.Test.YtdbhhfhfjlpepaaRkW
namespace Go.Proofs.Ytdbhhfhfjlpepaa
open Go.RowKit
attribute [local go_sem ↓] Go.wp_at_zero Go.wp_at_succ

set_option maxRecDepth 100000 in
set_option maxHeartbeats 1000000 in
theorem rank_noCols (P M0 : Int) (A : Option Addr) (n c0 : Nat) (B : Option Addr) (m d : Nat) (w : World) :
    Calls Try.prog 43 #[.agg #[.int .i64 P, .int .i64 M0, .slice A n c0], .slice B m d, .int .i64 0] w fun e w' => e = .returned (.int .i64 0) ∧ Below w.heap.size w w' := by
  go_enter Try.func43, Try.ntmps43
  go_wp2
  go_loopg [7, 8] 0 (fun g2 t1 t2 wr => g2 = 0 ∧ t1 = .int .i64 0 ∧ t2 = .int .i64 0 ∧ wr = w.alloc (.cells #[.int .i64 P, .int .i64 M0, .slice A n c0] 24))
  case atStart => exact ⟨rfl, rfl, rfl, rfl⟩
  case round =>
    obtain ⟨HGQ, rfl, rfl, rfl⟩ := hrel
    clear HGQ
    go_wp2
    go_ret
    exact ⟨rfl, (Below.refl _ _).alloc (Nat.le_refl _) _⟩

set_option maxRecDepth 100000 in
set_option maxHeartbeats 1000000 in
theorem rank_noRows (P M0 : Int) (A : Option Addr) (n c0 : Nat) (B : Option Addr) (d cols : Nat) (w : World) (hc : cols ≤ 100) :
    Calls Try.prog 43 #[.agg #[.int .i64 P, .int .i64 M0, .slice A n c0], .slice B 0 d, .int .i64 cols] w fun e w' => e = .returned (.int .i64 0) ∧ Below w.heap.size w w' := by
  go_enter Try.func43, Try.ntmps43
  go_wp2
  go_loopg [7, 8] cols (fun g2 t1 t2 wr => ∃ c : Nat, c ≤ cols ∧ g2 = cols - c ∧ t1 = .int .i64 0 ∧ t2 = .int .i64 c ∧ wr = w.alloc (.cells #[.int .i64 P, .int .i64 M0, .slice A n c0] 24))
  case atStart => exact ⟨0, Nat.zero_le _, rfl, rfl, rfl, rfl⟩
  case round =>
    obtain ⟨c, hc, HGQ, rfl, rfl, rfl⟩ := hrel
    replace HGQ := Lib.hid HGQ
    by_cases hlt : c < cols
    · go_wp2
      go_loopg [9] 0 (fun g3 t wx => g3 = 0 ∧ t = .int .i64 0 ∧ wx = w.alloc (.cells #[.int .i64 P, .int .i64 M0, .slice A n c0] 24))
      case atStart => exact ⟨rfl, rfl, rfl⟩
      case round =>
        obtain ⟨HGQ2, rfl, rfl⟩ := hrel
        clear HGQ2
        go_wp2
        go_roundg (cols - (c + 1))
        case measure => have := HGQ.out; omega
        case rel => exact ⟨c + 1, by omega, rfl, rfl, by go_num, rfl⟩
    · obtain rfl : c = cols := by omega
      go_wp2
      go_ret
      exact ⟨rfl, (Below.refl _ _).alloc (Nat.le_refl _) _⟩

theorem rank_calls (S : FS) (hI : S.Inverts) (A : Option Addr) (c0 n : Nat) (w0 w : World) (hmod : Rd w0 A S.mod) (hn : n = S.mod.length) (h0 : Below w0.heap.size w0 w)
    (B : Option Addr) (m d cols : Nat) (M : Nat → Nat → El S) (hrows : RowsAt S w0 w B m cols M) (hm100 : m ≤ 100) (hc100 : cols ≤ 100) :
    Calls Try.prog 43 #[.agg #[.int .i64 S.P, .int .i64 S.M, .slice A n c0], .slice B m d, .int .i64 cols] w fun e w' => e = .returned (.int .i64 (RK.run m M cols).r) ∧ Below w0.heap.size w0 w' := by
  rcases hrows with rfl | rfl | ⟨R, b, cp, rfl, h1, h2, h3, h4⟩
  · rw [RK.run_none]
    exact (rank_noRows _ _ A n c0 B d cols w hc100).mono fun e w' ⟨he, hb⟩ => ⟨he, below_step h0 hb h0.size⟩
  · exact (rank_noCols _ _ A n c0 B m d w).mono fun e w' ⟨he, hb⟩ => ⟨he, below_step h0 hb h0.size⟩
  · exact rank_rows S hI A c0 n w0 w hmod hn h0 R m d cols b cp M h1 ⟨h2, h3⟩ h4 hm100 hc100

/-- What the system hands back. -/
def SysRet (S : FS) (w : World) (m cols : Nat) (f : Nat → Nat → El S) (e : Ending) (w' : World) : Prop :=
  ∃ A c, e = .returned (.slice A m c) ∧ RowsAt S w w' A m cols f ∧ Below w.heap.size w w'
set_option maxHeartbeats 4000000 in
theorem system_calls (S : FS) (A : Option Addr) (n c0 : Nat) (C : Option Addr) (d : Nat) (s : List Int) (l : Nat) (whole : Bool) (w : World) (hs : Rd w C s) (hs100 : s.length ≤ 100) (hl : l ≤ s.length) :
    Calls Try.prog 44 #[.agg #[.int .i64 S.P, .int .i64 S.M, .slice A n c0], .slice C s.length d, .int .i64 l, .bool whole] w fun e w' => SysRet S w (s.length - l) (if whole then l + 1 else l) (El.eqs (S.sq s) l) e w' := by
  have hu := Try.underlying24
  have HS := Lib.hid hs
  have CI : Hid (∀ W, ∀ x : Int, Calls Try.prog 28 #[.agg #[.int .i64 S.P, .int .i64 S.M, .slice A n c0], .int .i64 x] W fun e w' => e = .returned (.int .i64 (S.el x).1) ∧ Below W.heap.size W w') := fun W x => rIn S A n c0 x W
  obtain ⟨nl, HNL⟩ : ∃ n, Hid (n = s.length) := ⟨_, rfl⟩
  obtain ⟨f, HF⟩ : ∃ f, Hid (f = El.eqs (S.sq s) l) := ⟨_, rfl⟩
  obtain ⟨cols, HCO⟩ : ∃ c : Nat, Hid (c = if whole then l + 1 else l) := ⟨_, rfl⟩
  have HF1 : Hid (∀ i k, k < l → l + i < nl → (f i k).1 = (S.el (s.getD (l + i - (k + 1)) 0)).1) := by
    intro i k hk _
    rw [HF.out]; unfold El.eqs; rw [if_neg (by omega)]; rfl
  have HF2 : Hid (∀ i, l + i < nl → (f i l).1 = (S.el (s.getD (l + i) 0)).1) := by
    intro i _
    rw [HF.out]; unfold El.eqs; rw [if_pos rfl]; rfl
  rw [← HF.out, ← HCO.out, ← HNL.out]
  rw [← HNL.out] at hs100 hl
  obtain ⟨P, HP⟩ : ∃ P, Hid (P = S.P) := ⟨_, rfl⟩
  obtain ⟨M, HMM⟩ : ∃ M, Hid (M = S.M) := ⟨_, rfl⟩
  rw [← HP.out, ← HMM.out] at CI ⊢
  clear hs HF HP HMM
  obtain ⟨wB, HWB⟩ : ∃ wB, Hid (wB = w.alloc (.cells #[.int .i64 P, .int .i64 M, .slice A n c0] 24)) := ⟨_, rfl⟩
  have HX : Hid (Box wB w.heap.size (.int .i64 P) (.int .i64 M) (.slice A n c0)) := by rw [HWB.out]; exact ⟨by simp, by simp, by simp⟩
  have HSB : Hid (Rd wB C s) := by rw [HWB.out]; exact HS.out.alloc _
  have HBW : Hid (Below w.heap.size w wB) := by rw [HWB.out]; exact (Below.refl _ _).alloc (Nat.le_refl _) _
  go_enter Try.func44, Try.ntmps44
  go_wp2
  rw [← HWB.out]
  clear HWB
  go_loopg [9, 10] (nl - l) (fun g2 v t wr => ∃ (i : Nat) (vs : Nat → Value), l + i ≤ nl ∧ g2 = nl - l - i ∧ t = .int .i64 (l + i : Nat) ∧ SysAt S wB.heap.size cols f i v vs wr ∧ Below wB.heap.size wB wr)
  case atStart => exact ⟨0, fun _ => undef, by omega, rfl, rfl, SysAt.zero _ _ _, Below.refl _ _⟩
  case round =>
    obtain ⟨i, vs, hi, HGQ, rfl, hsys, hb⟩ := hrel
    replace HGQ := Lib.hid HGQ
    have HSY := Lib.hid hsys
    have HBB := Lib.hid hb
    clear hsys hb
    obtain ⟨j, HJ⟩ : ∃ j, Hid (j = l + i) := ⟨_, rfl⟩
    have hj := HJ.out
    rw [← hj] at hi
    have hj2 : l ≤ j := by omega
    have hi100 : i ≤ 100 := by omega
    rw [← HJ.out]
    clear hj
    obtain ⟨W1, rfl⟩ : ∃ W1, W1 = wr := ⟨_, rfl⟩
    have HFIN : Hid (∀ (wx : World) (v : Value), Below W1.heap.size W1 wx → wx.ownsRow W1.heap.size 3 1 v cols (ints (S.row (f i) cols)) → ∀ (v' : Value) (w5 : World), w5.ownsRow wB.heap.size 22 1 v' (i + 1) ((List.range i).map vs ++ [v]) → (wx.alloc (.cells #[v] 22)).grownBy w5 u9.ownBlock →
        (v'.ownBlock = u9.ownBlock ∨ v'.ownBlock = some (wx.alloc (.cells #[v] 22)).heap.size) → SysAt S wB.heap.size cols f (i + 1) v' (fun j => if j = i then v else vs j) w5 ∧ Below wB.heap.size wB w5) := by
      intro wx v h1 h2 v' w5 h3 h4 h5
      have hs := HBB.out.size
      have hs1 := h1.size
      refine ⟨HSY.out.next (W1 := wx.alloc (.cells #[v] 22)) (B' := W1.heap.size) (h1.alloc hs1 _) hs (Nat.le_refl _) (h2.alloc _) h3 h4 (h5.imp id fun h => ⟨_, Nat.le_refl _, h⟩), ?_⟩
      refine (below_step HBB.out (h1.alloc hs1 (.cells #[v] 22)) hs).grown h4 (by simp; omega) fun k hk => (HSY.out.out.lt k hk).1
    have HOUT : Hid (∀ (wx : World) (v : Value), Below W1.heap.size W1 wx → (wx.alloc (.cells #[v] 22)).ownsRow wB.heap.size 22 1 u9 i ((List.range i).map vs)) := fun wx v h => ((HSY.out.below h (Nat.le_refl _)).out).alloc _
    have HSZ := Lib.hid HBB.out.size
    by_cases hlt : j < nl
    · go_wp2
      go_loopg [11, 12] l (fun g3 v t wx => ∃ k : Nat, k ≤ l ∧ g3 = l - k ∧ t = .int .i64 (k + 1 : Nat) ∧ wx.ownsRow W1.heap.size 3 1 v k (ints (S.row (f i) k)) ∧ Below W1.heap.size W1 wx)
      case atStart => exact ⟨0, Nat.zero_le _, rfl, rfl, World.ownsRow_nil _ _ _ _, Below.refl _ _⟩
      case round =>
        obtain ⟨k, hk, HGQ2, rfl, hown, hb⟩ := hrel
        replace HGQ2 := Lib.hid HGQ2
        have HOWN := Lib.hid hown
        have HBI := Lib.hid hb
        clear hown hb
        have HOWB : Hid (∀ b, u11.ownBlock = some b → W1.heap.size ≤ b) := fun b hb => (HOWN.out.lt b hb).1
        obtain ⟨x0, x1, x2⟩ := HX.out.below HBB.out
        by_cases hkl : k < l
        · obtain ⟨q, HQ⟩ : ∃ q, Hid (q = k + 1) := ⟨_, rfl⟩
          obtain ⟨jk, HJK⟩ : ∃ jk, Hid (jk = j - q) := ⟨_, rfl⟩
          have hq := HQ.out
          have hjk := HJK.out
          have hjd : (j : Int) - (q : Int) = (jk : Int) := by omega
          have hjw : IntKind.i64.wrap (jk : Int) = (jk : Int) := IntWalk.i64_in _ (by omega)
          have i3 : (0 : Int) ≤ (jk : Int) := by omega
          have i4 : (jk : Int) < (nl : Int) := by omega
          have i5 : (q : Int) ≤ (l : Int) := by omega
          obtain ⟨ad, rfl, hce⟩ := (HSB.out.below HBB.out (Nat.le_refl _)).get jk (by rw [← HNL.out]; omega)
          obtain ⟨u, HU⟩ : ∃ u, Hid (u = s.getD jk 0) := ⟨_, rfl⟩
          obtain ⟨z, HZ⟩ : ∃ z, Hid (z = (f i k).1) := ⟨_, rfl⟩
          rw [← HU.out] at hce
          have CK : Hid (∀ W, Calls Try.prog 28 #[.agg #[.int .i64 P, .int .i64 M, .slice A n c0], .int .i64 u] W fun e w' => e = .returned (.int .i64 z) ∧ Below W.heap.size W w') := by
            intro W
            have h1 := HF1.out i k hkl (by have := HJ.out; omega)
            have h2 : l + i - (k + 1) = jk := by have := HJ.out; omega
            rw [h2, ← HU.out, ← HZ.out] at h1
            have := CI.out W u
            rw [← h1] at this
            exact this
          rw [← HQ.out]
          clear hq hjk
          go_wp2
          go_region_held3 (fun wz => wz.cell? (ad.add jk) = some (.int .i64 u) ∧ wz.cell? ⟨w.heap.size, 0, none⟩ = some (.int .i64 P) ∧ wz.cell? ⟨w.heap.size, 1, none⟩ = some (.int .i64 M) ∧ wz.cell? ⟨w.heap.size, 2, none⟩ = some (.slice A n c0) ∧ Below W1.heap.size W1 wz) (first | (exact keepQS hce x0 x1 x2 (by assumption) (by assumption)) | (exact keepQG hce x0 x1 x2 (by assumption) (by assumption) HOWB.out) | (exact keepQA hce x0 x1 x2 (by assumption)) | (exact keepQ hce x0 x1 x2 HBI.out.drew)) (first | (go_at_call 28; refine (CK.out _).mono ?_; rintro e w3 ⟨rfl, hb3⟩; have hb3i : Below wr.heap.size wr w3 := below_in hb3) | (refine step_grow1 rfl (.tmp 25) (.tmp 34) rfl W1.heap.size u11 k _ z rfl w3.heap.size rfl (by simp) (by first | exact (ownsRow_below HOWN.out hb3i (Nat.le_refl _)).alloc _ | exact ((ownsRow_below HOWN.out hb3i (Nat.le_refl _)).alloc _)) (by omega) (by have h1 := hb3i.size; have h2 := HBI.out.size; simp; omega) ?_; intro v4 w4 ho4 hg4 ha4))
          rename_i hS
          have HO4 := Lib.hid ho4
          have HB4 := Lib.hid (belowQ hS)
          clear hS ho4 hg4 ha4 hce x0 x1 x2 hjd hjw i3 i4
          go_wp2
          go_roundg (l - (k + 1))
          case measure => have := HGQ2.out; omega
          case rel => exact ⟨k + 1, by omega, rfl, by rw [HQ.out]; go_num, by rw [← FS.ints_row_snoc (f i) k z HZ.out]; exact HO4.out, HB4.out⟩
        · obtain rfl : k = l := by omega
          have hq : ¬ ((k + 1 : Nat) : Int) ≤ (k : Int) := by omega
          cases whole
          · obtain rfl : cols = k := HCO.out
            clear x0 x1 x2
            obtain ⟨ra, rc, rfl⟩ := ownsRow_slice HOWN.out
            go_wp2_with (at_builtin; refine wpList_growL rfl (.tmp 46) (.tmp 48) rfl wB.heap.size u9 i _ (.slice ra cols rc) rfl wr.heap.size rfl (by simp) (ownsRow_one HOWN.out) (HOUT.out _ _ HBI.out) (by omega) (by have h1 := (HBI.out).size; have h2 := HSZ.out; simp; omega) ?_; intro v5 w5 ho5 hg5 ha5)
            obtain ⟨hs5, hb5⟩ := HFIN.out _ _ HBI.out HOWN.out v5 w5 ho5 hg5 ha5
            have HS5 := Lib.hid hs5
            have HB5 := Lib.hid hb5
            clear hs5 hb5 ho5 hg5 ha5 HFIN HOUT
            go_wp2
            go_roundg (nl - cols - (i + 1))
            case measure => have := HGQ.out; have := HJ.out; omega
            case rel => exact ⟨i + 1, _, by have := HJ.out; omega, rfl, by rw [HJ.out]; go_num, HS5.out, HB5.out⟩
          · have hcols : cols = k + 1 := HCO.out
            have HCC := Lib.hid hcols
            clear hcols
            have i3 : (0 : Int) ≤ (j : Int) := by omega
            have i4 : (j : Int) < (nl : Int) := by omega
            obtain ⟨ad, rfl, hce⟩ := (HSB.out.below HBB.out (Nat.le_refl _)).get j (by rw [← HNL.out]; omega)
            obtain ⟨u, HU⟩ : ∃ u, Hid (u = s.getD j 0) := ⟨_, rfl⟩
            obtain ⟨z, HZ⟩ : ∃ z, Hid (z = (f i k).1) := ⟨_, rfl⟩
            rw [← HU.out] at hce
            have CK : Hid (∀ W, Calls Try.prog 28 #[.agg #[.int .i64 P, .int .i64 M, .slice A n c0], .int .i64 u] W fun e w' => e = .returned (.int .i64 z) ∧ Below W.heap.size W w') := by
              intro W
              have h1 := HF2.out i (by have := HJ.out; omega)
              rw [← HJ.out, ← HU.out, ← HZ.out] at h1
              have := CI.out W u
              rw [← h1] at this
              exact this
            go_wp2
            go_region_held3 (fun wz => wz.cell? (ad.add j) = some (.int .i64 u) ∧ wz.cell? ⟨w.heap.size, 0, none⟩ = some (.int .i64 P) ∧ wz.cell? ⟨w.heap.size, 1, none⟩ = some (.int .i64 M) ∧ wz.cell? ⟨w.heap.size, 2, none⟩ = some (.slice A n c0) ∧ Below W1.heap.size W1 wz) (first | (exact keepQS hce x0 x1 x2 (by assumption) (by assumption)) | (exact keepQG hce x0 x1 x2 (by assumption) (by assumption) HOWB.out) | (exact keepQA hce x0 x1 x2 (by assumption)) | (exact keepQ hce x0 x1 x2 HBI.out.drew)) (first | (go_at_call 28; refine (CK.out _).mono ?_; rintro e w3 ⟨rfl, hb3⟩; have hb3i : Below wr.heap.size wr w3 := below_in hb3) | (refine step_grow1 rfl (.tmp 37) (.tmp 44) rfl W1.heap.size u11 k _ z rfl w3.heap.size rfl (by simp) (by first | exact (ownsRow_below HOWN.out hb3i (Nat.le_refl _)).alloc _ | exact ((ownsRow_below HOWN.out hb3i (Nat.le_refl _)).alloc _)) (by omega) (by have h1 := hb3i.size; have h2 := HBI.out.size; simp; omega) ?_; intro v4 w4 ho4 hg4 ha4))
            rename_i hS
            have HO4 : Hid (w4.ownsRow W1.heap.size 3 1 v4 cols (ints (S.row (f i) cols))) := by
              rw [HCC.out, ← FS.ints_row_snoc (f i) k z HZ.out]; exact ho4
            have HB4 := Lib.hid (belowQ hS)
            clear hS ho4 hg4 ha4 hce x0 x1 x2 i3 i4
            obtain ⟨ra, rc, rfl⟩ := ownsRow_slice HO4.out
            go_wp2_with (at_builtin; refine wpList_growL rfl (.tmp 46) (.tmp 48) rfl wB.heap.size u9 i _ (.slice ra cols rc) rfl w4.heap.size rfl (by simp) (ownsRow_one HO4.out) (HOUT.out _ _ HB4.out) (by omega) (by have h1 := (HB4.out).size; have h2 := HSZ.out; simp; omega) ?_; intro v5 w5 ho5 hg5 ha5)
            obtain ⟨hs5, hb5⟩ := HFIN.out _ _ HB4.out HO4.out v5 w5 ho5 hg5 ha5
            have HS5 := Lib.hid hs5
            have HB5 := Lib.hid hb5
            clear hs5 hb5 ho5 hg5 ha5 HFIN HOUT
            go_wp2
            go_roundg (nl - k - (i + 1))
            case measure => have := HGQ.out; have := HJ.out; omega
            case rel => exact ⟨i + 1, _, by have := HJ.out; omega, rfl, by rw [HJ.out]; go_num, HS5.out, HB5.out⟩
    · have hjn : j = nl := by omega
      have hin : i = nl - l := by have := HJ.out; omega
      obtain ⟨A5, c5, hv, hr5⟩ := HSY.out.rows (w0 := w) (B := wB.heap.size) HBW.out.size
      have HB5 := Lib.hid (below_step HBW.out HBB.out HBW.out.size)
      have HR5 := Lib.hid hr5
      have HV := Lib.hid hv
      have HIN := Lib.hid hin
      clear hr5 hv hin HFIN HOUT HSY
      subst hjn
      go_wp2
      go_ret
      exact ⟨A5, c5, by rw [← HIN.out, ← HV.out]; rfl, by rw [← HIN.out]; exact HR5.out, HB5.out⟩

end Go.Proofs.Ytdbhhfhfjlpepaa
