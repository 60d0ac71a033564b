/- The reference's field operations over the elements; At, Canon, Degree, Register. -/
import Derived.Test.YtdbhhfhfjlpepaaAliveS
import Derived.Test.YtdbhhfhfjlpepaaLf
namespace Go.Proofs.Ytdbhhfhfjlpepaa
open Go.RowKit
attribute [local go_sem ↓] Go.wp_at_zero Go.wp_at_succ

theorem cellUp {W : World} {a : Addr} {v : Value} (o : Obj) (h : W.cell? a = some v) : (W.alloc o).cell? a = some v := (World.cell?_alloc_lt (w := W) (a := a) (o := o) (World.block_lt_of_cell? W _ h)).trans h
theorem FS.ordq (S : FS) : ord S.P S.M = S.q := by
  have h1 := S.shp
  rw [ord_eq S.P S.M h1.p2 (by have := h1.m1; omega) (by have := h1.m8; omega) (by simpa using h1.q), S.hq]; simp
theorem FS.innP (S : FS) (x : Int) : inn (S.P ^ S.M) x = (S.el x).1 := by rw [← S.hq]; rfl
theorem rIn (S : FS) (A : Option Addr) (n c : Nat) (x : Int) (w : World) :
    Calls Try.prog 28 #[.agg #[.int .i64 S.P, .int .i64 S.M, .slice A n c], .int .i64 x] w fun e w' => e = .returned (.int .i64 (S.el x).1) ∧ Below w.heap.size w w' := by
  have := refIn_calls S.P S.M A n c x w
  rw [S.ordq] at this
  exact this
theorem rAdd (S : FS) (A : Option Addr) (n c : Nat) (x y : Int) (w : World) :
    Calls Try.prog 26 #[.agg #[.int .i64 S.P, .int .i64 S.M, .slice A n c], .int .i64 x, .int .i64 y] w fun e w' => e = .returned (.int .i64 (S.el x + S.el y).1) ∧ Below w.heap.size w w' := by
  have := refAdd_calls S.P S.M A n c x y w S.shp.p2 S.shp.p256 S.shp.m8 S.shp.q S.shp.m1
  rw [S.innP, S.innP] at this
  exact this
theorem rSub (S : FS) (A : Option Addr) (n c : Nat) (x y : Int) (w : World) :
    Calls Try.prog 40 #[.agg #[.int .i64 S.P, .int .i64 S.M, .slice A n c], .int .i64 x, .int .i64 y] w fun e w' => e = .returned (.int .i64 (S.el x + -S.el y).1) ∧ Below w.heap.size w w' := by
  have := refSub_calls S.P S.M A n c x y w S.shp.p2 S.shp.p256 S.shp.m8 S.shp.q S.shp.m1
  rw [S.innP, S.innP] at this
  exact this
theorem rMul (S : FS) (A : Option Addr) (c : Nat) (x y : Int) (w : World) (hr : Rd w A S.mod) (n : Nat) (hn : n = S.mod.length) :
    Calls Try.prog 27 #[.agg #[.int .i64 S.P, .int .i64 S.M, .slice A n c], .int .i64 x, .int .i64 y] w fun e w' => e = .returned (.int .i64 (S.el x * S.el y).1) ∧ Below w.heap.size w w' := by
  subst hn
  have := refMul_calls S.P S.M A S.mod c x y w hr S.shp
  rw [S.innP, S.innP, ← mulS_refMul S.shp] at this
  exact this

set_option maxHeartbeats 1000000 in
theorem rAt (S : FS) (A : Option Addr) (n c : Nat) (B : Option Addr) (d : Nat) (l : List Int) (i : Nat) (w : World) (hr : Rd w B l) :
    Calls Try.prog 25 #[.agg #[.int .i64 S.P, .int .i64 S.M, .slice A n c], .slice B l.length d, .int .i64 i] w fun e w' => e = .returned (.int .i64 (S.sq l i).1) ∧ Below w.heap.size w w' := by
  have hu := Try.underlying24
  have hb0 := hr.1
  have HR := Lib.hid hr
  clear hr
  obtain ⟨m, HM⟩ : ∃ m, Hid (m = l.length) := ⟨_, rfl⟩
  rw [← HM.out] at hb0 ⊢
  have CI : Hid (∀ (W : World) (x : Int), Calls Try.prog 28 #[.agg #[.int .i64 S.P, .int .i64 S.M, .slice A n c], .int .i64 x] W fun e w' => e = .returned (.int .i64 (S.el x).1) ∧ Below W.heap.size W w') := fun W x => rIn S A n c x W
  have HFAR : Hid (m ≤ i → (S.sq l i).1 = 0) := by intro h; rw [S.sq_far l i (by rw [← HM.out]; exact h)]; rfl
  obtain ⟨u, HU⟩ : ∃ u, Hid (u = l.getD i 0) := ⟨_, rfl⟩
  have HNEAR : Hid ((S.el u).1 = (S.sq l i).1) := by unfold Hid; rw [HU.out]; rfl
  obtain ⟨v, HV⟩ : ∃ v, Hid (v = (S.sq l i).1) := ⟨_, rfl⟩
  obtain ⟨P, HP⟩ : ∃ P, Hid (P = S.P) := ⟨_, rfl⟩
  obtain ⟨M, HMM⟩ : ∃ M, Hid (M = S.M) := ⟨_, rfl⟩
  rw [← HV.out] at HFAR HNEAR ⊢
  rw [← HP.out, ← HMM.out] at CI ⊢
  clear HV HP HMM
  have hi0 : ¬ (i : Int) < 0 := by omega
  go_enter Try.func25, Try.ntmps25
  by_cases hlt : i < m
  · obtain ⟨ad, rfl, hc⟩ := HR.out.get i (by rw [← HM.out]; exact hlt)
    rw [← HU.out] at hc
    have hc1 := cellUp (.cells #[.int .i64 P, .int .i64 M, .slice A n c] 24) hc
    have i1 : (0 : Int) ≤ (i : Int) := by omega
    have i2 : ¬ (m : Int) ≤ (i : Int) := by omega
    have i3 : (i : Int) < (m : Int) := by omega
    go_wp2
    go_region_with (go_at_call 28; refine (CI.out _ _).mono ?_; rintro e w3 ⟨rfl, hb3⟩; replace hb3 : Below (w.alloc (.cells #[.int .i64 P, .int .i64 M, .slice A n c] 24)).heap.size (w.alloc (.cells #[.int .i64 P, .int .i64 M, .slice A n c] 24)) w3 := below_in hb3)
    all_goals
      go_wp2
      go_ret
      exact ⟨by rw [← HNEAR.out]; rfl, below_box hb3⟩
  · have i2 : (m : Int) ≤ (i : Int) := by omega
    have HZ : Hid (v = 0) := HFAR.out (by omega)
    go_wp2
    go_ret
    exact ⟨by rw [HZ.out]; rfl, below_box (Below.refl _ _)⟩

end Go.Proofs.Ytdbhhfhfjlpepaa

/- The reference's Canon, Degree, Register. -/
namespace Go.Proofs.Ytdbhhfhfjlpepaa
open Go.RowKit
attribute [local go_sem ↓] Go.wp_at_zero Go.wp_at_succ

theorem FS.nums_take (S : FS) (l : List Int) (k m : Nat) (h : k ≤ m) : (S.nums l m).take k = S.nums l k := by
  unfold FS.nums
  rw [← List.map_take]
  congr 1
  rw [List.take_range, Nat.min_eq_left h]
theorem FS.can_nums (S : FS) (l : List Int) : S.nums l (S.canL l).length = S.canL l := by
  have e : S.canL l = trimL (S.nums l l.length) := rfl
  obtain ⟨k, h1, h2, _, _⟩ := trimL_spec (S.nums l l.length)
  rw [S.nums_length] at h2
  rw [e, h1, List.length_take, S.nums_length, Nat.min_eq_left h2, S.nums_take _ _ _ h2]

set_option maxHeartbeats 2000000 in
theorem rCanon (S : FS) (A : Option Addr) (n c : Nat) (B : Option Addr) (d : Nat) (l : List Int) (w : World) (hr : Rd w B l) (hl : l.length ≤ 5000) :
    Calls Try.prog 23 #[.agg #[.int .i64 S.P, .int .i64 S.M, .slice A n c], .slice B l.length d] w fun e w' => NewL w e w' (S.canL l) := by
  have hu := Try.underlying24
  have HR := Lib.hid hr
  clear hr
  obtain ⟨m, HM⟩ : ∃ m, Hid (m = l.length) := ⟨_, rfl⟩
  rw [← HM.out] at hl ⊢
  have CI : Hid (∀ (W : World) (x : Int), Calls Try.prog 28 #[.agg #[.int .i64 S.P, .int .i64 S.M, .slice A n c], .int .i64 x] W fun e w' => e = .returned (.int .i64 (S.el x).1) ∧ Below W.heap.size W w') := fun W x => rIn S A n c x W
  obtain ⟨tl, HTL⟩ : ∃ tl : Nat → Nat, Hid (∀ k, tl k = (trimL (S.nums l k)).length) := ⟨_, fun _ => rfl⟩
  have HT0 : Hid (tl 0 = 0) := by unfold Hid; rw [HTL.out]; rfl
  have HTS : Hid (∀ k, (S.sq l k).1 = 0 → tl (k + 1) = tl k) := by intro k h; rw [HTL.out, HTL.out, S.nums_snoc, h, trimL_zero]
  have HTN : Hid (∀ k, (S.sq l k).1 ≠ 0 → tl (k + 1) = k + 1) := by intro k h; rw [HTL.out, S.nums_snoc, trimL_keep _ _ h, List.length_append, S.nums_length]; rfl
  have HTB : Hid (∀ k, tl k ≤ k) := by intro k; rw [HTL.out]; have := trimL_len (S.nums l k); rwa [S.nums_length] at this
  have HE : Hid (S.canL l = S.nums l (tl m)) := by
    unfold Hid
    have e : (S.canL l).length = tl m := by rw [HTL.out, HM.out]; rfl
    rw [← e, S.can_nums]
  rw [HE.out]
  obtain ⟨P, HP⟩ : ∃ P, Hid (P = S.P) := ⟨_, rfl⟩
  obtain ⟨M, HMM⟩ : ∃ M, Hid (M = S.M) := ⟨_, rfl⟩
  rw [← HP.out, ← HMM.out] at CI ⊢
  clear HE HTL HP HMM
  go_enter Try.func23, Try.ntmps23
  go_wp2
  go_loopg [5, 6] m (fun g2 t i wr => ∃ k : Nat, k ≤ m ∧ g2 = m - k ∧ t = .int .i64 (tl k) ∧ i = .int .i64 k ∧ Below (w.alloc (.cells #[.int .i64 P, .int .i64 M, .slice A n c] 24)).heap.size (w.alloc (.cells #[.int .i64 P, .int .i64 M, .slice A n c] 24)) wr)
  case atStart => exact ⟨0, Nat.zero_le _, rfl, by rw [HT0.out]; rfl, rfl, Below.refl _ _⟩
  case round =>
    obtain ⟨k, hk, HGQ, rfl, rfl, hb⟩ := hrel
    replace HGQ := Lib.hid HGQ
    obtain ⟨x0, x1, x2, _⟩ := box3 hb
    have HBX := Lib.hid (below_box hb)
    have HBB := Lib.hid hb
    obtain ⟨tk, HTK⟩ : ∃ z, Hid (z = tl k) := ⟨_, rfl⟩
    rw [← HTK.out]
    clear hb
    by_cases hlt : k < m
    · obtain ⟨ad, rfl, hc⟩ := (HR.out.below HBX.out (Nat.le_refl _)).get k (by rw [← HM.out]; exact hlt)
      obtain ⟨u, HU⟩ : ∃ z, Hid (z = l.getD k 0) := ⟨_, rfl⟩
      rw [← HU.out] at hc
      obtain ⟨v, HV⟩ : ∃ v, Hid (v = (S.el u).1) := ⟨_, rfl⟩
      have HVQ : Hid (v = (S.sq l k).1) := by unfold Hid; rw [HV.out, HU.out]; rfl
      have CK : Hid (∀ W, Calls Try.prog 28 #[.agg #[.int .i64 P, .int .i64 M, .slice A n c], .int .i64 u] W fun e w' => e = .returned (.int .i64 v) ∧ Below W.heap.size W w') := by intro W; rw [HV.out]; exact CI.out W u
      have i1 : (0 : Int) ≤ (k : Int) := by omega
      have i3 : (k : Int) < (m : Int) := by omega
      have HTB1 := HTB.out k
      rw [← HTK.out] at HTB1
      by_cases hv : v = 0
      · have HN := HTS.out k (by rw [← HVQ.out]; exact hv)
        subst hv
        have HN2 := Lib.hid HN
        clear HN HV HVQ
        go_wp2
        go_region_with (go_at_call 28; refine (CK.out _).mono ?_; rintro e w3 ⟨rfl, hb3⟩; replace hb3 : Below wr.heap.size wr w3 := below_in hb3)
        all_goals
          have HB3 := Lib.hid (below_step HBB.out hb3 HBB.out.size)
          clear hb3 x0 x1 x2 hc
          go_wp2
          go_roundg (m - (k + 1))
          case measure => have := HGQ.out; omega
          case rel => exact ⟨k + 1, by omega, rfl, by rw [HN2.out, HTK.out], by go_num, HB3.out⟩
      · have HN := HTN.out k (by rw [← HVQ.out]; exact hv)
        have hv0 : (v == 0) = false := by simp [hv]
        have HN2 := Lib.hid HN
        clear HN HV HVQ
        go_wp2
        go_region_with (go_at_call 28; refine (CK.out _).mono ?_; rintro e w3 ⟨rfl, hb3⟩; replace hb3 : Below wr.heap.size wr w3 := below_in hb3)
        all_goals
          have HB3 := Lib.hid (below_step HBB.out hb3 HBB.out.size)
          clear hb3 x0 x1 x2 hc
          go_wp2
          go_roundg (m - (k + 1))
          case measure => have := HGQ.out; omega
          case rel => exact ⟨k + 1, by omega, rfl, by rw [HN2.out]; go_num, by go_num, HB3.out⟩
    · obtain rfl : k = m := by omega
      have htk : tk ≤ k := by rw [HTK.out]; exact HTB.out k
      clear HT0 HTS HTN HTB
      have hmk := makeInts tk (by omega)
      have hmade := Own.made wr tk (by omega)
      have hsz := HBB.out.size
      simp at hsz
      obtain ⟨bo, hbo⟩ : ∃ bo, bo = wr.heap.size := ⟨_, rfl⟩
      have HBO : Hid (w.heap.size ≤ bo) := by unfold Hid; omega
      have HBW : Hid (w.heap.size + 1 ≤ bo) := by unfold Hid; omega
      have HB0 := Lib.hid (HBB.out.alloc HBB.out.size (.cells (madeCells #[.int .i64 0] tk) 3))
      go_wp2
      rw [← hbo] at hmade ⊢
      clear hbo
      go_loopg [8] tk (fun g2 i wx => ∃ j : Nat, j ≤ tk ∧ g2 = tk - j ∧ i = .int .i64 j ∧ Own wx bo tk (S.nums l j ++ List.replicate (tk - j) 0) ∧ Below (w.alloc (.cells #[.int .i64 P, .int .i64 M, .slice A n c] 24)).heap.size (w.alloc (.cells #[.int .i64 P, .int .i64 M, .slice A n c] 24)) wx)
      case atStart => exact ⟨0, Nat.zero_le _, rfl, rfl, by simpa [FS.nums] using hmade, HB0.out⟩
      case round =>
        obtain ⟨j, hj, HGQ2, rfl, hown, hb⟩ := hrel
        replace HGQ2 := Lib.hid HGQ2
        clear hmade hmk x0 x1 x2
        obtain ⟨x0, x1, x2, _⟩ := box3 hb
        have HBX2 := Lib.hid (below_box hb)
        have HBB2 := Lib.hid hb
        have HOW := Lib.hid hown
        clear hb
        by_cases hlt2 : j < tk
        · obtain ⟨ad, rfl, hc⟩ := (HR.out.below HBX2.out (Nat.le_refl _)).get j (by rw [← HM.out]; omega)
          obtain ⟨u, HU⟩ : ∃ z, Hid (z = l.getD j 0) := ⟨_, rfl⟩
          rw [← HU.out] at hc
          obtain ⟨v, HV⟩ : ∃ v, Hid (v = (S.sq l j).1) := ⟨_, rfl⟩
          have CK : Hid (∀ W, Calls Try.prog 28 #[.agg #[.int .i64 P, .int .i64 M, .slice A n c], .int .i64 u] W fun e w' => e = .returned (.int .i64 v) ∧ Below W.heap.size W w') := by intro W; rw [HV.out]; have := CI.out W u; rw [HU.out] at this; rw [HU.out]; exact this
          have i1 : (0 : Int) ≤ (j : Int) := by omega
          have i3 : (j : Int) < (k : Int) := by omega
          have i4 : (j : Int) < (tk : Int) := by omega
          have hcu := hown.cell j (by rw [List.length_append, S.nums_length, List.length_replicate]; omega)
          have hfz := hown.free j
          obtain ⟨zz, hcu⟩ : ∃ zz : Int, wr.cell? ⟨bo, j, none⟩ = some (.int .i64 zz) := ⟨_, hcu⟩
          clear hown
          go_wp2
          go_region_with (go_at_call 28; refine (CK.out _).mono ?_; rintro e w3 ⟨rfl, hb3⟩; replace hb3 : Below wr.heap.size wr w3 := below_in hb3; obtain ⟨hc3, hf3, hb3⟩ := keepCF0 hcu hfz hb3)
          all_goals
            have HS := Lib.hid ((HOW.out.below hb3 HOW.out.lt).set j v)
            have HB3 := Lib.hid (below_step HBB2.out hb3 HBB2.out.size)
            clear hb3 x0 x1 x2 hc hcu hfz hc3 hf3
            go_wp2
            go_roundg (tk - (j + 1))
            case measure => have := HGQ2.out; omega
            case rel =>
              refine ⟨j + 1, by omega, rfl, by go_num, ?_, HB3.out.setCell (by have := HBW.out; simp; omega) _⟩
              have := HS.out
              rw [set_fill _ j tk _ (S.nums_length _ _) hlt2, HV.out, ← S.nums_snoc] at this
              rw [HV.out]; exact this
        · obtain rfl : j = tk := by omega
          have HRD : Hid (Rd wr (some ⟨bo, 0, none⟩) (S.nums l j)) := by
            have := HOW.out
            rw [Nat.sub_self, List.replicate_zero, List.append_nil] at this
            exact this.rdAll (by rw [S.nums_length]; omega)
          clear hown
          go_wp2
          go_ret
          unfold NewL
          rw [← HTK.out, S.nums_length]
          exact ⟨_, _, rfl, HRD.out, Nat.le_refl _, fun h => (by cases h), fun ad h => (by cases h; show w.heap.size ≤ bo; exact HBO.out), HBX2.out⟩

set_option maxHeartbeats 1000000 in
theorem rDegree (S : FS) (A : Option Addr) (n c : Nat) (B : Option Addr) (d : Nat) (l : List Int) (w : World) (hr : Rd w B l) (hl : l.length ≤ 5000) :
    Calls Try.prog 39 #[.agg #[.int .i64 S.P, .int .i64 S.M, .slice A n c], .slice B l.length d] w fun e w' => e = .returned (.int .i64 (((S.canL l).length : Int) - 1)) ∧ Below w.heap.size w w' := by
  have hu := Try.underlying24
  have HR := Lib.hid hr
  have CC : Hid (∀ W, Below w.heap.size w W → Calls Try.prog 23 #[.agg #[.int .i64 S.P, .int .i64 S.M, .slice A n c], .slice B l.length d] W fun e w' => NewL W e w' (S.canL l)) := fun W h => rCanon S A n c B d l W (HR.out.below h (Nat.le_refl _)) hl
  obtain ⟨m, HM⟩ : ∃ m, Hid (m = l.length) := ⟨_, rfl⟩
  obtain ⟨k, HK⟩ : ∃ k, Hid (k = (S.canL l).length) := ⟨_, rfl⟩
  have hk : k ≤ 5000 := by rw [HK.out]; have := trimL_len (S.nums l l.length); rw [S.nums_length] at this; exact Nat.le_trans this hl
  obtain ⟨P, HP⟩ : ∃ P, Hid (P = S.P) := ⟨_, rfl⟩
  obtain ⟨M, HMM⟩ : ∃ M, Hid (M = S.M) := ⟨_, rfl⟩
  rw [← HK.out]
  rw [← HM.out, ← HP.out, ← HMM.out] at CC ⊢
  clear hr HP HMM
  go_enter Try.func39, Try.ntmps39
  go_wp2_with fail
  go_at_call 23
  refine (CC.out _ ((Below.refl _ _).alloc (Nat.le_refl _) _)).mono ?_
  rintro e w1 ⟨A1, c1, rfl, _, _, _, _, hb1⟩
  rw [← HK.out]
  have hw : IntKind.i64.wrap ((k : Int) - 1) = (k : Int) - 1 := IntWalk.i64_in _ (by omega)
  go_wp2
  go_ret
  exact ⟨rfl, below_box hb1⟩

end Go.Proofs.Ytdbhhfhfjlpepaa

/- The reference's Register, Holds. -/
namespace Go.Proofs.Ytdbhhfhfjlpepaa
open Go.RowKit
attribute [local go_sem ↓] Go.wp_at_zero Go.wp_at_succ

set_option maxHeartbeats 1000000 in
theorem rReg (S : FS) (A : Option Addr) (n c : Nat) (B : Option Addr) (d : Nat) (l : List Int) (L : Int) (w : World) (hr : Rd w B l) (hl : l.length ≤ 5000) :
    Calls Try.prog 17 #[.agg #[.int .i64 S.P, .int .i64 S.M, .slice A n c], .slice B l.length d, .int .i64 L] w fun e w' => BoolIs (S.IsReg l L) w e w' := by
  have hu := Try.underlying24
  have HR := Lib.hid hr
  obtain ⟨v, HV⟩ : ∃ v, Hid (v = (S.sq l 0).1) := ⟨_, rfl⟩
  obtain ⟨k, HK⟩ : ∃ k, Hid (k = (S.canL l).length) := ⟨_, rfl⟩
  have hk : k ≤ 5000 := by rw [HK.out]; have := trimL_len (S.nums l l.length); rw [S.nums_length] at this; exact Nat.le_trans this hl
  have CA : Hid (∀ W, Below w.heap.size w W → Calls Try.prog 25 #[.agg #[.int .i64 S.P, .int .i64 S.M, .slice A n c], .slice B l.length d, .int .i64 0] W fun e w' => e = .returned (.int .i64 v) ∧ Below W.heap.size W w') := fun W h => by
    rw [HV.out]; exact rAt S A n c B d l 0 W (HR.out.below h (Nat.le_refl _))
  have CD : Hid (∀ W, Below w.heap.size w W → Calls Try.prog 39 #[.agg #[.int .i64 S.P, .int .i64 S.M, .slice A n c], .slice B l.length d] W fun e w' => e = .returned (.int .i64 ((k : Int) - 1)) ∧ Below W.heap.size W w') := fun W h => by
    rw [HK.out]; exact rDegree S A n c B d l W (HR.out.below h (Nat.le_refl _)) hl
  obtain ⟨p, HP0⟩ : ∃ p : Prop, Hid (p ↔ (0 ≤ L ∧ v = 1 ∧ (k : Int) - 1 ≤ L)) := ⟨_, Iff.rfl⟩
  have HPE : Hid (S.IsReg l L ↔ p) := by unfold Hid; rw [HP0.out, S.isReg_ref, HV.out, HK.out]
  obtain ⟨m, HM⟩ : ∃ m, Hid (m = l.length) := ⟨_, rfl⟩
  obtain ⟨P, HP⟩ : ∃ P, Hid (P = S.P) := ⟨_, rfl⟩
  obtain ⟨M, HMM⟩ : ∃ M, Hid (M = S.M) := ⟨_, rfl⟩
  rw [propext HPE.out]
  rw [← HM.out, ← HP.out, ← HMM.out] at CA CD ⊢
  clear hr HP HMM HPE HV HK
  go_enter Try.func17, Try.ntmps17
  by_cases h1 : 0 ≤ L
  · go_wp2_with fail
    go_at_call 25
    refine (CA.out _ ((Below.refl _ _).alloc (Nat.le_refl _) _)).mono ?_
    rintro e w1 ⟨rfl, hb1⟩
    obtain ⟨x0, x1, x2, _⟩ := box3 hb1
    have HB1 := Lib.hid (below_box hb1)
    clear hb1
    by_cases h2 : v = 1
    · subst h2
      go_wp2_with fail
      go_at_call 39
      refine (CD.out _ HB1.out).mono ?_
      rintro e w2 ⟨rfl, hb2⟩
      have HB2 := Lib.hid (below_step HB1.out hb2 HB1.out.size)
      clear hb2
      by_cases h3 : (k : Int) - 1 ≤ L
      · go_wp2
        go_ret
        refine ⟨_, rfl, ⟨fun _ => HP0.out.2 ⟨h1, by simp, h3⟩, fun _ => ?_⟩, HB2.out⟩
        first | (simp; done) | (simp; omega)
      · go_wp2
        go_ret
        refine ⟨_, rfl, ⟨fun h => ?_, fun h => absurd (HP0.out.1 h).2.2 (by omega)⟩, HB2.out⟩
        simp at h; omega
    · have h2' : (v == 1) = false := by simp [h2]
      go_wp2
      go_ret
      refine ⟨_, rfl, ⟨fun h => ?_, fun h => absurd (HP0.out.1 h).2.1 h2⟩, HB1.out⟩
      simp at h
  · go_wp2
    go_ret
    refine ⟨_, rfl, ⟨fun h => ?_, fun h => absurd (HP0.out.1 h).1 (by omega)⟩, (Below.refl _ _).alloc (Nat.le_refl _) _⟩
    simp at h

end Go.Proofs.Ytdbhhfhfjlpepaa

/- The reference's Holds. -/
namespace Go.Proofs.Ytdbhhfhfjlpepaa
open Go.RowKit
attribute [local go_sem ↓] Go.wp_at_zero Go.wp_at_succ

/-- A cell and a boxed description are known behind a call. -/
theorem keepQ {W w' : World} {g : Nat} {a b c u : Value} {x : Addr} (h3 : W.cell? x = some u) (h0 : W.cell? ⟨g, 0, none⟩ = some a) (h1 : W.cell? ⟨g, 1, none⟩ = some b) (h2 : W.cell? ⟨g, 2, none⟩ = some c) (hb : Below W.heap.size W w') :
    w'.cell? x = some u ∧ w'.cell? ⟨g, 0, none⟩ = some a ∧ w'.cell? ⟨g, 1, none⟩ = some b ∧ w'.cell? ⟨g, 2, none⟩ = some c ∧ Below W.heap.size W w' :=
  ⟨(hb.cell (World.block_lt_of_cell? W _ h3)).trans h3, (hb.cell (World.block_lt_of_cell? W _ h0)).trans h0, (hb.cell (World.block_lt_of_cell? W _ h1)).trans h1, (hb.cell (World.block_lt_of_cell? W _ h2)).trans h2, hb⟩
theorem belowQ {W w1 : World} {p q r s : Prop} (h : p ∧ q ∧ r ∧ s ∧ Below W.heap.size W w1) : Below W.heap.size W w1 := h.2.2.2.2

set_option maxHeartbeats 1000000 in
theorem rHolds (S : FS) (A : Option Addr) (c : Nat) (B : Option Addr) (d : Nat) (l : List Int) (L : Int) (C : Option Addr) (d2 : Nat) (s : List Int) (w : World) (hm : Rd w A S.mod) (hr : Rd w B l) (hs : Rd w C s) (hl : l.length ≤ 5000) (hsl : s.length ≤ 5000) (n : Nat) (hn : n = S.mod.length) :
    Calls Try.prog 20 #[.agg #[.int .i64 S.P, .int .i64 S.M, .slice A n c], .slice B l.length d, .int .i64 L, .slice C s.length d2] w fun e w' => BoolIs (S.IsGen l L s) w e w' := by
  have hu := Try.underlying24
  have HR := Lib.hid hr
  have HS := Lib.hid hs
  have HMD := Lib.hid hm
  have CR : Hid (∀ W, Below w.heap.size w W → Calls Try.prog 17 #[.agg #[.int .i64 S.P, .int .i64 S.M, .slice A n c], .slice B l.length d, .int .i64 L] W fun e w' => BoolIs (S.IsReg l L) W e w') := fun W h => rReg S A n c B d l L W (HR.out.below h (Nat.le_refl _)) hl
  have CA : Hid (∀ W, Below w.heap.size w W → ∀ i : Nat, Calls Try.prog 25 #[.agg #[.int .i64 S.P, .int .i64 S.M, .slice A n c], .slice B l.length d, .int .i64 i] W fun e w' => e = .returned (.int .i64 (S.sq l i).1) ∧ Below W.heap.size W w') := fun W h i => rAt S A n c B d l i W (HR.out.below h (Nat.le_refl _))
  have CM : Hid (∀ W, Below w.heap.size w W → ∀ x y : Int, Calls Try.prog 27 #[.agg #[.int .i64 S.P, .int .i64 S.M, .slice A n c], .int .i64 x, .int .i64 y] W fun e w' => e = .returned (.int .i64 (S.el x * S.el y).1) ∧ Below W.heap.size W w') := fun W h x y => rMul S A c x y W (HMD.out.below h (Nat.le_refl _)) n hn
  have CD : Hid (∀ W, ∀ x y : Int, Calls Try.prog 26 #[.agg #[.int .i64 S.P, .int .i64 S.M, .slice A n c], .int .i64 x, .int .i64 y] W fun e w' => e = .returned (.int .i64 (S.el x + S.el y).1) ∧ Below W.heap.size W w') := fun W x y => rAdd S A n c x y W
  obtain ⟨p, HP0⟩ : ∃ p : Prop, Hid (p ↔ S.IsGen l L s) := ⟨_, Iff.rfl⟩
  rw [← propext HP0.out]
  obtain ⟨m, HM⟩ : ∃ m, Hid (m = l.length) := ⟨_, rfl⟩
  obtain ⟨m2, HM2⟩ : ∃ m, Hid (m = s.length) := ⟨_, rfl⟩
  obtain ⟨P, HP⟩ : ∃ P, Hid (P = S.P) := ⟨_, rfl⟩
  obtain ⟨M, HMM⟩ : ∃ M, Hid (M = S.M) := ⟨_, rfl⟩
  rw [← HP.out, ← HMM.out] at CR CA CM CD ⊢
  rw [← HM.out] at CR CA hl ⊢
  rw [← HM2.out] at hsl ⊢
  clear hr hs hm HP HMM hn
  go_enter Try.func20, Try.ntmps20
  go_wp2_with fail
  go_at_call 17
  refine (CR.out _ ((Below.refl _ _).alloc (Nat.le_refl _) _)).mono ?_
  rintro e w1 ⟨b, rfl, hbi, hb1⟩
  obtain ⟨x0, x1, x2, _⟩ := box3 hb1
  have HB1 := Lib.hid hb1
  clear hb1
  have HBI := Lib.hid hbi
  clear hbi
  cases b
  · go_wp2
    go_ret
    refine BoolIs.no (fun h => ?_) (below_box HB1.out)
    obtain ⟨k, e, hg⟩ := HP0.out.1 h
    have := HBI.out.2 ⟨k, e, hg.1⟩
    cases this
  · obtain ⟨L, rfl, hreg⟩ := HBI.out.1 rfl
    have HREG := Lib.hid hreg
    clear hreg
    have HPY : Hid ((∀ j, L ≤ j → j < m2 → El.cv (S.sq l) (S.sq s) j = 0) → p) := fun h => HP0.out.2 ⟨L, rfl, HREG.out, by rw [← HM2.out]; exact h⟩
    have HPN : Hid (∀ j, L ≤ j → j < m2 → El.cv (S.sq l) (S.sq s) j ≠ 0 → ¬ p) := fun j h1 h2 h3 h => by
      obtain ⟨k, e, hg⟩ := HP0.out.1 h
      obtain rfl : L = k := by omega
      exact h3 (hg.2 j h1 (by rw [← HM2.out]; exact h2))
    clear HP0
    go_wp2
    go_loopg [9, 10, 11] (m2 - L) (fun g2 t sm i wr => ∃ j : Nat, L ≤ j ∧ g2 = m2 - j ∧ t = .int .i64 j ∧ (∀ k, L ≤ k → k < j → El.cv (S.sq l) (S.sq s) k = 0) ∧ Below (w.alloc (.cells #[.int .i64 P, .int .i64 M, .slice A n c] 24)).heap.size (w.alloc (.cells #[.int .i64 P, .int .i64 M, .slice A n c] 24)) wr)
    case atStart => exact ⟨L, Nat.le_refl _, rfl, rfl, fun k h1 h2 => by omega, HB1.out⟩
    case round =>
      obtain ⟨j, hj, HGQ, rfl, hz, hb⟩ := hrel
      replace HGQ := Lib.hid HGQ
      clear x0 x1 x2
      obtain ⟨x0, x1, x2, _⟩ := box3 hb
      have HBX := Lib.hid (below_box hb)
      have HBB := Lib.hid hb
      have HZ := Lib.hid hz
      clear hb hz
      by_cases hlt : j < m2
      · obtain ⟨T, HT⟩ : ∃ T : Nat → El S, Hid (∀ k, T k = El.sm (fun i => S.sq l i * S.sq s (j - i)) k) := ⟨_, fun _ => rfl⟩
        have HT0 : Hid (T 0 = 0) := HT.out 0
        have HTS : Hid (∀ k, T (k + 1) = T k + S.sq l k * S.sq s (j - k)) := fun k => by rw [HT.out, HT.out]; rfl
        have HTE : Hid (El.cv (S.sq l) (S.sq s) j = T (L + 1)) := by
          unfold Hid
          rw [HT.out, El.cv_le _ _ _ (L + 1) fun i _ hi => HREG.out.2 i (by omega)]
          exact El.sm_congr _ fun i hi => if_pos (by omega)
        have hjb : j ≤ 5000 := by omega
        have hlt0 : (j : Int) < (m2 : Int) := by omega
        clear HT
        obtain ⟨g0, HG0⟩ : ∃ g0, Hid (g0 = L + 1) := ⟨_, rfl⟩
        rw [← HG0.out] at HTE
        go_wp2
        clear x0 x1 x2
        go_loopg [10, 11] g0 (fun g3 sm i wx => ∃ k : Nat, k ≤ g0 ∧ g3 = g0 - k ∧ i = .int .i64 k ∧ sm = .int .i64 (T k).1 ∧ Below (w.alloc (.cells #[.int .i64 P, .int .i64 M, .slice A n c] 24)).heap.size (w.alloc (.cells #[.int .i64 P, .int .i64 M, .slice A n c] 24)) wx)
        case atStart => exact ⟨0, Nat.zero_le _, rfl, rfl, by rw [HT0.out]; rfl, HBB.out⟩
        case round =>
          obtain ⟨k, hk, HGQ2, rfl, rfl, hb⟩ := hrel
          replace HGQ2 := Lib.hid HGQ2
          obtain ⟨x0, x1, x2, _⟩ := box3 hb
          have HBX2 := Lib.hid (below_box hb)
          have HBB2 := Lib.hid hb
          clear hb
          obtain ⟨t, HTT⟩ : ∃ t, Hid (t = (T k).1) := ⟨_, rfl⟩
          rw [← HTT.out]
          have hg0 := HG0.out
          by_cases hlt2 : k < g0
          · obtain ⟨jk, HJK⟩ : ∃ jk, Hid (jk = j - k) := ⟨_, rfl⟩
            have hjk : ((j : Int) - (k : Int)) = (jk : Int) := by rw [HJK.out]; omega
            have hjm : jk < m2 := by rw [HJK.out]; omega
            have hjw : IntKind.i64.wrap (jk : Int) = (jk : Int) := IntWalk.i64_in _ (by omega)
            obtain ⟨bd, rfl, hc⟩ := (HS.out.below HBX2.out (Nat.le_refl _)).get jk (by rw [← HM2.out]; exact hjm)
            obtain ⟨u, HU⟩ : ∃ z, Hid (z = s.getD jk 0) := ⟨_, rfl⟩
            rw [← HU.out] at hc
            have i1 : (k : Int) ≤ (L : Int) := by omega
            have i2 : (k : Int) ≤ (j : Int) := by omega
            have i3 : (0 : Int) ≤ (jk : Int) := by omega
            have i4 : (jk : Int) < (m2 : Int) := by omega
            obtain ⟨av, HAV⟩ : ∃ z, Hid (z = (S.sq l k).1) := ⟨_, rfl⟩
            obtain ⟨mv, HMV⟩ : ∃ z, Hid (z = (S.el av * S.el u).1) := ⟨_, rfl⟩
            have CA2 : Hid (∀ W, Below wr.heap.size wr W → Calls Try.prog 25 #[.agg #[.int .i64 P, .int .i64 M, .slice A n c], .slice B m d, .int .i64 k] W fun e w' => e = .returned (.int .i64 av) ∧ Below W.heap.size W w') := fun W h => by
              rw [HAV.out]; exact CA.out W (HBX2.out.trans (h.mono HBX2.out.size)) k
            have CM2 : Hid (∀ W, Below wr.heap.size wr W → Calls Try.prog 27 #[.agg #[.int .i64 P, .int .i64 M, .slice A n c], .int .i64 av, .int .i64 u] W fun e w' => e = .returned (.int .i64 mv) ∧ Below W.heap.size W w') := fun W h => by
              rw [HMV.out]; exact CM.out W (HBX2.out.trans (h.mono HBX2.out.size)) av u
            have CD2 : Hid (∀ W, Calls Try.prog 26 #[.agg #[.int .i64 P, .int .i64 M, .slice A n c], .int .i64 t, .int .i64 mv] W fun e w' => e = .returned (.int .i64 (T (k + 1)).1) ∧ Below W.heap.size W w') := fun W => by
              have := CD.out W t mv
              have e1 : S.el t + S.el mv = T (k + 1) := by rw [HTT.out, S.el_of, HMV.out, S.el_of, HAV.out, S.el_of, HU.out, HTS.out, HJK.out]; rfl
              rw [e1] at this; exact this
            go_wp2
            go_region_held3 (fun wx => wx.cell? (bd.add jk) = some (.int .i64 u) ∧ wx.cell? ⟨w.heap.size, 0, none⟩ = some (.int .i64 P) ∧ wx.cell? ⟨w.heap.size, 1, none⟩ = some (.int .i64 M) ∧ wx.cell? ⟨w.heap.size, 2, none⟩ = some (.slice A n c) ∧ Below wr.heap.size wr wx)
              (first | (exact keepQ hc x0 x1 x2 (Below.refl _ _).drew) | (exact keepQ hc x0 x1 x2 (below_step (belowQ (by assumption)) (by assumption) (belowQ (by assumption)).size)))
              (first | (go_at_call 25; refine (CA2.out _ (belowQ (by assumption))).mono ?_; rintro e w3 ⟨rfl, hb3⟩) | (go_at_call 27; refine (CM2.out _ (belowQ (by assumption))).mono ?_; rintro e w4 ⟨rfl, hb4⟩) | (go_at_call 26; refine (CD2.out _).mono ?_; rintro e w5 ⟨rfl, hb5⟩))
            rename_i hS
            have HB3 := Lib.hid (below_step HBB2.out (belowQ hS) HBB2.out.size)
            clear hS x0 x1 x2 hc hjk hjw i3 i4
            go_wp2
            go_roundg (g0 - (k + 1))
            case measure => have := HGQ2.out; omega
            case rel => exact ⟨k + 1, by omega, rfl, by go_num, rfl, HB3.out⟩
          · obtain rfl : k = g0 := by omega
            have hkl : ¬ (k : Int) ≤ (L : Int) := by omega
            have HTD : Hid (t = (El.cv (S.sq l) (S.sq s) j).1) := by unfold Hid; rw [HTT.out, HTE.out]
            clear HTT hg0
            by_cases ht : t = 0
            · have hcv : El.cv (S.sq l) (S.sq s) j = 0 := El.eq (by rw [← HTD.out, ht]; rfl)
              have HCV := Lib.hid hcv
              subst ht
              clear hcv
              go_wp2
              go_roundg (m2 - (j + 1))
              case measure => have := HGQ.out; omega
              case rel =>
                refine ⟨j + 1, by omega, rfl, by go_num, fun i h1 h2 => ?_, HBB2.out⟩
                by_cases e : i = j
                · subst e; exact HCV.out
                · exact HZ.out i h1 (by omega)
            · have HNP := Lib.hid (HPN.out j hj hlt fun h => ht (by rw [HTD.out, h]; rfl))
              have ht0 : (t == 0) = false := by simp [ht]
              go_wp2
              go_ret
              exact BoolIs.no HNP.out HBX2.out
      · have HPP := Lib.hid (HPY.out fun i h1 h2 => HZ.out i h1 (by omega))
        have hlt0 : ¬ (j : Int) < (m2 : Int) := by omega
        go_wp2
        go_ret
        exact BoolIs.yes HPP.out HBX.out

end Go.Proofs.Ytdbhhfhfjlpepaa
