/- The reference's rank: the walk. (printed by gen_rank.py) -/
import Derived.Test.YtdbhhfhfjlpepaaRkW
import Derived.BigRegion
import Derived.Deep.RegionHeld3
namespace Go.Proofs.Ytdbhhfhfjlpepaa
open Go.RowKit
attribute [local go_sem ↓] Go.wp_at_zero Go.wp_at_succ

set_option maxRecDepth 100000 in
set_option maxHeartbeats 4000000 in
theorem rank_rows (S : FS) (hI : S.Inverts) (A : Option Addr) (c0 n : Nat) (w0 w : World) (hmod : Rd w0 A S.mod) (hn : n = S.mod.length) (h0 : Below w0.heap.size w0 w)
    (R m capR cols : Nat) (b cp : Nat → Nat) (M : Nat → Nat → El S) (hmat : Mat S w R m cols b cp M) (hR : w0.heap.size ≤ R ∧ R < w.heap.size) (hb : ∀ i, i < m → w0.heap.size ≤ b i ∧ b i < w.heap.size) (hm100 : m ≤ 100) (hc100 : cols ≤ 100) :
    Calls Try.prog 43 #[.agg #[.int .i64 S.P, .int .i64 S.M, .slice A n c0], .slice (some ⟨R, 0, none⟩) m capR, .int .i64 cols] w fun e w' => e = .returned (.int .i64 (RK.run m M cols).r) ∧ Below w0.heap.size w0 w' := by
  have hu := Try.underlying24
  have HMD := Lib.hid hmod
  have HRL := Lib.hid hR
  have CI : Hid (∀ W (x : Int), Below w0.heap.size w0 W → S.el x ≠ 0 → Calls Try.prog 63 #[.agg #[.int .i64 S.P, .int .i64 S.M, .slice A n c0], .int .i64 x] W fun e w' => e = .returned (.int .i64 (S.inv (S.el x)).1) ∧ Below W.heap.size W w') := fun W x h hx => rInv S hI A c0 x W (HMD.out.below h (Nat.le_refl _)) hx n hn
  have CM : Hid (∀ W (x y : Int), Below w0.heap.size w0 W → Calls Try.prog 27 #[.agg #[.int .i64 S.P, .int .i64 S.M, .slice A n c0], .int .i64 x, .int .i64 y] W fun e w' => e = .returned (.int .i64 (S.el x * S.el y).1) ∧ Below W.heap.size W w') := fun W x y h => rMul S A c0 x y W (HMD.out.below h (Nat.le_refl _)) n hn
  have CD : Hid (∀ W (x y : Int), Calls Try.prog 40 #[.agg #[.int .i64 S.P, .int .i64 S.M, .slice A n c0], .int .i64 x, .int .i64 y] W fun e w' => e = .returned (.int .i64 (S.el x + -S.el y).1) ∧ Below W.heap.size W w') := fun W x y => rSub S A n c0 x y W
  obtain ⟨st, HST⟩ : ∃ st : Nat → RK S, Hid (∀ c, st c = RK.run m M c) := ⟨_, fun _ => rfl⟩
  have HECH : Hid (∀ c, ∃ p, RK.Ech m c (st c) p) := fun c => by rw [HST.out]; obtain ⟨p, h, _⟩ := RK.run_ech hI m M c; exact ⟨p, h⟩
  have HSTEP : Hid (∀ c, st (c + 1) = RK.step m c (st c)) := fun c => by rw [HST.out, HST.out]; rfl
  have HZ : Hid (st 0 = ⟨0, M⟩) := HST.out 0
  obtain ⟨P, HP⟩ : ∃ P, Hid (P = S.P) := ⟨_, rfl⟩
  obtain ⟨M0, HMM⟩ : ∃ M0, Hid (M0 = S.M) := ⟨_, rfl⟩
  rw [← HP.out, ← HMM.out] at CI CM CD ⊢
  rw [← HST.out]
  obtain ⟨g, HG⟩ : ∃ g, Hid (g = w.heap.size) := ⟨_, rfl⟩
  have HSTART : Hid (RkSt S w0 g (.int .i64 P) (.int .i64 M0) (.slice A n c0) R m cols (st 0).M (w.alloc (.cells #[.int .i64 P, .int .i64 M0, .slice A n c0] 24))) := by
    rw [HZ.out, HG.out]
    refine ⟨b, cp, hmat.below ((Below.refl _ _).alloc (Nat.le_refl _) _), fun i hi => ⟨(hb i hi).1, by have := (hb i hi).2; omega⟩, ⟨hR.1, by have := hR.2; omega⟩, ⟨by simp, by simp, by simp⟩, h0.alloc h0.size _⟩
  have HZR : Hid ((st 0).r = 0) := by rw [HZ.out]; rfl
  clear hmod h0 hb hn hR hmat HP HMM HST HZ
  go_enter Try.func43, Try.ntmps43
  go_wp2
  rw [← HG.out]
  go_loopg [7, 8] cols (fun g2 t1 t2 wr => ∃ c : Nat, c ≤ cols ∧ g2 = cols - c ∧ t1 = .int .i64 (st c).r ∧ t2 = .int .i64 c ∧ RkSt S w0 g (.int .i64 P) (.int .i64 M0) (.slice A n c0) R m cols (st c).M wr)
  case atStart => exact ⟨0, Nat.zero_le _, rfl, by rw [HZR.out]; rfl, rfl, HSTART.out⟩
  case round =>
    clear HSTART
    obtain ⟨c, hc, HGQ, rfl, rfl, hst⟩ := hrel
    replace HGQ := Lib.hid HGQ
    obtain ⟨b, cp, hst⟩ := hst
    have HAT := Lib.hid hst
    clear hst
    obtain ⟨r, HRR⟩ : ∃ r, Hid (r = (st c).r) := ⟨_, rfl⟩
    obtain ⟨Mc, HMC⟩ : ∃ Mc, Hid (Mc = (st c).M) := ⟨_, rfl⟩
    rw [← HRR.out]
    rw [← HMC.out] at HAT
    have HEC := HECH.out c
    have hrm : r ≤ m := by rw [HRR.out]; obtain ⟨p, h⟩ := HEC; exact h.rm
    have HLOW : Hid (∀ i, r ≤ i → i < m → ∀ k, k < c → Mc i k = 0) := by rw [HRR.out, HMC.out]; obtain ⟨p, h⟩ := HEC; exact h.low
    clear HEC
    have hgx := HAT.out.box
    obtain ⟨x0, x1, x2⟩ := hgx
    by_cases hlt : c < cols
    · obtain ⟨F, HF⟩ : ∃ F, Hid (F = fnd (fun i => Mc i c) r (m - r)) := ⟨_, rfl⟩
      have hfs := fnd_spec (fun i => Mc i c) (m - r) r
      rw [← HF.out] at hfs
      obtain ⟨hF1, hF2, hF3, hF4⟩ := hfs
      have HF3 := Lib.hid hF3
      have HF4 := Lib.hid hF4
      have hFm : F ≤ m := by omega
      clear hF3 hF4 hF2
      have HNX : Hid (st (c + 1) = if F = m then st c else ⟨r + 1, RK.strike m r c (RK.swp Mc r F)⟩) := by
        rw [HSTEP.out]; unfold RK.step; rw [← HMC.out, ← HRR.out, ← HF.out]; rfl
      go_wp2
      go_loopg [9] (F - r) (fun g3 t wx => ∃ j : Nat, r ≤ j ∧ j ≤ F ∧ g3 = F - j ∧ t = .int .i64 j ∧ wx = wr)
      case atStart => exact ⟨r, Nat.le_refl _, hF1, rfl, rfl, rfl⟩
      case round =>
        obtain ⟨j, hj1, hj2, HGQ2, rfl, rfl⟩ := hrel
        replace HGQ2 := Lib.hid HGQ2
        by_cases hjF : j < F
        · have hjm : j < m := by omega
          have hd1 := HAT.out.mat.hd j hjm
          have hd2 := HAT.out.mat.cell j c hjm hlt
          rw [HF3.out j hj1 hjF] at hd2
          replace hd2 : wr.cell? ⟨b j, c, none⟩ = some (.int .i64 0) := hd2
          go_wp2
          go_roundg (F - (j + 1))
          case measure => have := HGQ2.out; omega
          case rel => exact ⟨j + 1, by omega, by omega, rfl, by go_num, rfl⟩
        · obtain rfl : j = F := by omega
          by_cases hjm : j = m
          · subst hjm
            have HN2 := HNX.out
            rw [if_pos rfl] at HN2
            replace HN2 := Lib.hid HN2
            clear HNX
            go_wp2
            go_roundg (cols - (c + 1))
            case measure => have := HGQ.out; omega
            case rel => exact ⟨c + 1, by omega, rfl, by rw [HN2.out, HRR.out], by go_num, by rw [HN2.out, ← HMC.out]; exact ⟨b, cp, HAT.out⟩⟩
          · have hjm2 : j < m := by omega
            have HN2 := HNX.out
            rw [if_neg hjm] at HN2
            replace HN2 := Lib.hid HN2
            clear HNX
            obtain ⟨v, HV⟩ : ∃ v, Hid (v = (Mc j c).1) := ⟨_, rfl⟩
            have HNZ : Hid (Mc j c ≠ 0) := HF4.out (by omega)
            have hv0 : (v == 0) = false := by
              have : v ≠ 0 := fun e => HNZ.out (El.eq (by rw [← HV.out, e]; rfl))
              simp [this]
            have hd1 := HAT.out.mat.hd j hjm2
            have hd2 := HAT.out.mat.cell j c hjm2 hlt
            rw [← HV.out] at hd2
            have hrm2 : r < m := by omega
            have hd3 := HAT.out.mat.hd r hrm2
            have hf1 := HAT.out.mat.fz j hjm2
            have hf3 := HAT.out.mat.fz r hrm2
            have hjmI : ((j : Int) == (m : Int)) = false := by simp; omega
            have HSW := Lib.hid (HAT.out.swap r j hrm2 hjm2)
            obtain ⟨br, HBR⟩ : ∃ br, Hid (br = b r) := ⟨_, rfl⟩
            obtain ⟨bj, HBJ⟩ : ∃ bj, Hid (bj = b j) := ⟨_, rfl⟩
            obtain ⟨cr, HCR⟩ : ∃ cr, Hid (cr = cp r) := ⟨_, rfl⟩
            obtain ⟨cj, HCJ⟩ : ∃ cj, Hid (cj = cp j) := ⟨_, rfl⟩
            rw [← HBR.out, ← HCR.out] at hd3
            rw [← HBJ.out, ← HCJ.out] at hd1
            rw [← HBJ.out] at hd2
            rw [← HBR.out, ← HBJ.out, ← HCR.out, ← HCJ.out] at HSW
            obtain ⟨v9, hy9⟩ := cell?_setCell_some (w := wr) (p := ⟨R, r, none⟩) (x := .slice (some ⟨bj, 0, none⟩) cols cj) (q := ⟨R, j, none⟩) (v := .slice (some ⟨bj, 0, none⟩) cols cj) (by go_simp)
            go_wp2
            go_region
            obtain ⟨w5, hw5⟩ : ∃ w5, w5 = ((wr.setCell ⟨R, r, none⟩ (.slice (some ⟨bj, 0, none⟩) cols cj)).setCell ⟨R, j, none⟩ (.slice (some ⟨br, 0, none⟩) cols cr)).drew := ⟨_, rfl⟩
            have HA50 := Lib.hid (HSW.out.below ((Below.refl _ _).drew))
            rw [← hw5] at HA50 ⊢
            clear hw5 HSW hd1 hd2 hd3 hf1 hf3 hy9 x0 x1 x2 hv0 hjmI HAT
            obtain ⟨b1, cp1, HA51⟩ : ∃ b1 cp1, RkAt S w0 g (.int .i64 P) (.int .i64 M0) (.slice A n c0) R m cols b1 cp1 (RK.swp Mc r j) w5 := ⟨_, _, HA50.out⟩
            have HA5 := Lib.hid HA51
            obtain ⟨M1, HM1⟩ : ∃ M1, Hid (M1 = RK.swp Mc r j) := ⟨_, rfl⟩
            rw [← HM1.out] at HA5 HN2
            have HM1R : Hid (∀ k, M1 r k = Mc j k) := fun k => by rw [HM1.out]; unfold RK.swp; rw [if_pos rfl]
            have HM1Z : Hid (∀ k, k < c → M1 r k = 0) := fun k hk => by rw [HM1R.out]; exact HLOW.out j hj1 hjm2 k hk
            have HM1N : Hid (M1 r c ≠ 0) := by unfold Hid; rw [HM1R.out]; exact HNZ.out
            clear HA50 HA51 HBR HBJ HCR HCJ HV HNZ HF HF3 HF4 HM1R HM1 HMC HRR HLOW HGQ2
            obtain ⟨x0, x1, x2⟩ := HA5.out.box
            have hd1 := HA5.out.mat.hd r hrm2
            have hd2 := HA5.out.mat.cell r c hrm2 hlt
            obtain ⟨br, HBR⟩ : ∃ br, Hid (br = b1 r) := ⟨_, rfl⟩
            obtain ⟨cr, HCR⟩ : ∃ cr, Hid (cr = cp1 r) := ⟨_, rfl⟩
            obtain ⟨v, HV⟩ : ∃ v, Hid (v = (M1 r c).1) := ⟨_, rfl⟩
            rw [← HBR.out, ← HCR.out] at hd1
            rw [← HBR.out, ← HV.out] at hd2
            obtain ⟨vi, HVI⟩ : ∃ v, Hid (v = (S.inv (M1 r c)).1) := ⟨_, rfl⟩
            have HOLD := Lib.hid HA5.out.old
            have CI2 : Hid (∀ W, Below w0.heap.size w0 W → Calls Try.prog 63 #[.agg #[.int .i64 P, .int .i64 M0, .slice A n c0], .int .i64 v] W fun e w' => e = .returned (.int .i64 vi) ∧ Below W.heap.size W w') := by
              intro W h
              have h1 : S.el v = M1 r c := by rw [HV.out, S.el_of]
              have := CI.out W v h (by rw [h1]; exact HM1N.out)
              rw [h1, ← HVI.out] at this
              exact this
            go_wp2
            go_region_held3 (fun wx => wx.cell? ⟨R, r, none⟩ = some (.slice (some ⟨br, 0, none⟩) cols cr) ∧ wx.cell? ⟨br, c, none⟩ = some (.int .i64 v) ∧ wx.cell? ⟨g, 0, none⟩ = some (.int .i64 P) ∧ wx.cell? ⟨g, 1, none⟩ = some (.int .i64 M0) ∧ wx.cell? ⟨g, 2, none⟩ = some (.slice A n c0) ∧ Below w5.heap.size w5 wx) (first | (exact keepE hd1 hd2 x0 x1 x2 (by assumption) (by assumption)) | (exact keepE0 hd1 hd2 x0 x1 x2 (Below.refl _ _).drew)) ((go_at_call 63; refine (CI2.out _ (below_step HOLD.out (belowE (by assumption)) HOLD.out.size)).mono ?_; rintro e w6 ⟨rfl, hb6⟩))
            rename_i hS
            have HA6 := Lib.hid (HA5.out.below (belowE hS))
            clear hS HA5 hd1 hd2 x0 x1 x2 HOLD CI2 hb6
            go_wp2
            go_loopg [11] (m - (r + 1)) (fun g3 t wx => ∃ i : Nat, r + 1 ≤ i ∧ i ≤ m ∧ g3 = m - i ∧ t = .int .i64 i ∧ RkAt S w0 g (.int .i64 P) (.int .i64 M0) (.slice A n c0) R m cols b1 cp1 (RK.upto r c i M1) wx)
            case atStart => exact ⟨r + 1, Nat.le_refl _, hrm2, rfl, by go_num, by rw [RK.upto_start]; exact HA6.out⟩
            case round =>
              obtain ⟨i, hi1, hi2, HGQ3, rfl, hat⟩ := hrel
              replace HGQ3 := Lib.hid HGQ3
              have HA7 := Lib.hid hat
              clear hat HA6
              by_cases him : i < m
              · obtain ⟨x0, x1, x2⟩ := HA7.out.box
                have hd1 := HA7.out.mat.hd i him
                have hd2 := HA7.out.mat.cell i c him hlt
                rw [RK.upto_row _ _ _ _ _ _ (Nat.le_refl _)] at hd2
                obtain ⟨bi, HBI⟩ : ∃ bi, Hid (bi = b1 i) := ⟨_, rfl⟩
                obtain ⟨ci, HCI⟩ : ∃ ci, Hid (ci = cp1 i) := ⟨_, rfl⟩
                obtain ⟨y, HY⟩ : ∃ v, Hid (v = (M1 i c).1) := ⟨_, rfl⟩
                rw [← HBI.out, ← HCI.out] at hd1
                rw [← HBI.out, ← HY.out] at hd2
                obtain ⟨aE, HAE⟩ : ∃ aE, Hid (aE = M1 i c * S.inv (M1 r c)) := ⟨_, rfl⟩
                obtain ⟨av, HAV⟩ : ∃ v, Hid (v = aE.1) := ⟨_, rfl⟩
                have HOLD := Lib.hid HA7.out.old
                have CM3 : Hid (∀ W, Below w0.heap.size w0 W → Calls Try.prog 27 #[.agg #[.int .i64 P, .int .i64 M0, .slice A n c0], .int .i64 y, .int .i64 vi] W fun e w' => e = .returned (.int .i64 av) ∧ Below W.heap.size W w') := by
                  intro W h
                  have := CM.out W y vi h
                  have e1 : S.el y * S.el vi = aE := by rw [HY.out, HVI.out, S.el_of, S.el_of, HAE.out]
                  rw [e1, ← HAV.out] at this
                  exact this
                go_wp2
                go_region_held3 (fun wz => wz.cell? ⟨R, i, none⟩ = some (.slice (some ⟨bi, 0, none⟩) cols ci) ∧ wz.cell? ⟨bi, c, none⟩ = some (.int .i64 y) ∧ wz.cell? ⟨g, 0, none⟩ = some (.int .i64 P) ∧ wz.cell? ⟨g, 1, none⟩ = some (.int .i64 M0) ∧ wz.cell? ⟨g, 2, none⟩ = some (.slice A n c0) ∧ Below wr.heap.size wr wz) (first | (exact keepE hd1 hd2 x0 x1 x2 (by assumption) (by assumption)) | (exact keepE0 hd1 hd2 x0 x1 x2 (Below.refl _ _).drew)) ((go_at_call 27; refine (CM3.out _ (below_step HOLD.out (belowE (by assumption)) HOLD.out.size)).mono ?_; rintro e w8 ⟨rfl, hb8⟩))
                rename_i hS
                have HA8 := Lib.hid (HA7.out.below (belowE hS))
                clear hS hd1 hd2 x0 x1 x2 HOLD CM3 hb8
                go_wp2
                go_loopg [13] (cols - c) (fun g3 t wx => ∃ k : Nat, c ≤ k ∧ k ≤ cols ∧ g3 = cols - k ∧ t = .int .i64 k ∧ RkAt S w0 g (.int .i64 P) (.int .i64 M0) (.slice A n c0) R m cols b1 cp1 (RK.mid r c i k aE M1) wx)
                case atStart => exact ⟨c, Nat.le_refl _, hc, rfl, rfl, by rw [RK.mid_start]; exact HA8.out⟩
                case round =>
                  obtain ⟨k, hk1, hk2, HGQ4, rfl, hat⟩ := hrel
                  replace HGQ4 := Lib.hid HGQ4
                  have HA9 := Lib.hid hat
                  clear hat HA8 HA7
                  by_cases hkc : k < cols
                  · obtain ⟨zE, HZE⟩ : ∃ zE, Hid (zE = M1 i k + -(aE * M1 r k)) := ⟨_, rfl⟩
                    obtain ⟨x, HX⟩ : ∃ x, Hid (x = (M1 i k).1) := ⟨_, rfl⟩
                    obtain ⟨u, HU⟩ : ∃ u, Hid (u = (M1 r k).1) := ⟨_, rfl⟩
                    obtain ⟨z, HZ⟩ : ∃ z, Hid (z = zE.1) := ⟨_, rfl⟩
                    obtain ⟨mv, HMV⟩ : ∃ z, Hid (z = (S.el av * S.el u).1) := ⟨_, rfl⟩
                    obtain ⟨bi, HBI⟩ : ∃ bi, Hid (bi = b1 i) := ⟨_, rfl⟩
                    obtain ⟨ci, HCI⟩ : ∃ ci, Hid (ci = cp1 i) := ⟨_, rfl⟩
                    obtain ⟨br, HBR⟩ : ∃ br, Hid (br = b1 r) := ⟨_, rfl⟩
                    obtain ⟨cr, HCR⟩ : ∃ cr, Hid (cr = cp1 r) := ⟨_, rfl⟩
                    have CM2 : Hid (∀ W, Below w0.heap.size w0 W → Calls Try.prog 27 #[.agg #[.int .i64 P, .int .i64 M0, .slice A n c0], .int .i64 av, .int .i64 u] W fun e w' => e = .returned (.int .i64 mv) ∧ Below W.heap.size W w') := fun W h => by
                      rw [HMV.out]; exact CM.out W av u h
                    have CD2 : Hid (∀ W, Calls Try.prog 40 #[.agg #[.int .i64 P, .int .i64 M0, .slice A n c0], .int .i64 x, .int .i64 mv] W fun e w' => e = .returned (.int .i64 z) ∧ Below W.heap.size W w') := fun W => by
                      have := CD.out W x mv
                      have e1 : S.el x + -S.el mv = zE := by rw [HX.out, S.el_of, HMV.out, S.el_of, HAV.out, S.el_of, HU.out, S.el_of, HZE.out]
                      rw [e1, ← HZ.out] at this; exact this
                    have HK9 : Hid (∀ W, Below wr.heap.size wr W → W.cell? ⟨R, i, none⟩ = some (.slice (some ⟨bi, 0, none⟩) cols ci) ∧ W.cell? ⟨R, r, none⟩ = some (.slice (some ⟨br, 0, none⟩) cols cr) ∧ W.cell? ⟨br, k, none⟩ = some (.int .i64 u) ∧ W.cell? ⟨g, 0, none⟩ = some (.int .i64 P) ∧ W.cell? ⟨g, 1, none⟩ = some (.int .i64 M0) ∧ W.cell? ⟨g, 2, none⟩ = some (.slice A n c0) ∧ W.frozen? ⟨bi, k, none⟩ = false ∧ W.cell? ⟨bi, k, none⟩ = some (.int .i64 x) ∧ Below w0.heap.size w0 W) := fun W h => by
                      have := (HA9.out.below h).held i r k him hrm2 hkc
                      rw [RK.mid_top _ _ _ _ _ _ _ (show r < i by omega), RK.mid_at, ← HX.out, ← HU.out, ← HBI.out, ← HCI.out, ← HBR.out, ← HCR.out] at this
                      exact this
                    have HK0 : Hid (∀ W, Below wr.heap.size wr W → W.cell? ⟨R, i, none⟩ = some (.slice (some ⟨bi, 0, none⟩) cols ci) ∧ W.cell? ⟨R, r, none⟩ = some (.slice (some ⟨br, 0, none⟩) cols cr) ∧ W.cell? ⟨br, k, none⟩ = some (.int .i64 u) ∧ W.cell? ⟨g, 0, none⟩ = some (.int .i64 P) ∧ W.cell? ⟨g, 1, none⟩ = some (.int .i64 M0) ∧ W.cell? ⟨g, 2, none⟩ = some (.slice A n c0) ∧ W.frozen? ⟨bi, k, none⟩ = false ∧ (W.cell? ⟨bi, k, none⟩ = some (.int .i64 x) ∨ W.cell? ⟨bi, k, none⟩ = some (.int .i64 z)) ∧ Below w0.heap.size w0 W) := fun W h => by
                      obtain ⟨a1, a2, a3, a4, a5, a6, a7, a8, a9⟩ := HK9.out W h
                      exact ⟨a1, a2, a3, a4, a5, a6, a7, .inl a8, a9⟩
                    have HKP : Hid (∀ W, Below wr.heap.size wr W → RkAt S w0 g (.int .i64 P) (.int .i64 M0) (.slice A n c0) R m cols b1 cp1 (RK.mid r c i (k + 1) aE M1) (W.setCell ⟨bi, k, none⟩ (.int .i64 z))) := fun W h => by
                      have := (HA9.out.below h).put i k him zE
                      rw [RK.mid_next _ _ _ _ _ _ hk1, HBI.out, HZ.out, ← HZE.out]
                      exact this
                    have HKS : Hid (∀ W, Below wr.heap.size wr W → (W.setCell ⟨bi, k, none⟩ (.int .i64 z)).cell? ⟨R, i, none⟩ = some (.slice (some ⟨bi, 0, none⟩) cols ci) ∧ (W.setCell ⟨bi, k, none⟩ (.int .i64 z)).cell? ⟨R, r, none⟩ = some (.slice (some ⟨br, 0, none⟩) cols cr) ∧ (W.setCell ⟨bi, k, none⟩ (.int .i64 z)).cell? ⟨br, k, none⟩ = some (.int .i64 u) ∧ (W.setCell ⟨bi, k, none⟩ (.int .i64 z)).cell? ⟨g, 0, none⟩ = some (.int .i64 P) ∧ (W.setCell ⟨bi, k, none⟩ (.int .i64 z)).cell? ⟨g, 1, none⟩ = some (.int .i64 M0) ∧ (W.setCell ⟨bi, k, none⟩ (.int .i64 z)).cell? ⟨g, 2, none⟩ = some (.slice A n c0) ∧ (W.setCell ⟨bi, k, none⟩ (.int .i64 z)).frozen? ⟨bi, k, none⟩ = false ∧ ((W.setCell ⟨bi, k, none⟩ (.int .i64 z)).cell? ⟨bi, k, none⟩ = some (.int .i64 x) ∨ (W.setCell ⟨bi, k, none⟩ (.int .i64 z)).cell? ⟨bi, k, none⟩ = some (.int .i64 z)) ∧ Below w0.heap.size w0 (W.setCell ⟨bi, k, none⟩ (.int .i64 z))) := fun W h => by
                      have h1 := HKP.out W h
                      have h2 := h1.mat.cell i k him hkc
                      obtain ⟨a1, a2, a3, a4, a5, a6, a7, a8, a9⟩ := h1.held i r k him hrm2 hkc
                      rw [RK.mid_top _ _ _ _ _ _ _ (show r < i by omega), ← HU.out, ← HBR.out] at a3
                      rw [← HBI.out, ← HCI.out] at a1
                      rw [← HBR.out, ← HCR.out] at a2
                      rw [← HBI.out] at a7 a8
                      rw [RK.mid_done _ _ _ _ _ _ hk1, ← HZE.out, ← HZ.out] at a8
                      exact ⟨a1, a2, a3, a4, a5, a6, a7, .inr a8, a9⟩
                    obtain ⟨hd1, hd2, hd3, x0, x1, x2, hfz, hcx, _⟩ := HK9.out wr (Below.refl _ _)
                    go_wp2
                    refine wp_region_noPanic ?_
                    refine wp_region_held_drew (S := (fun wx => wx.cell? ⟨R, i, none⟩ = some (.slice (some ⟨bi, 0, none⟩) cols ci) ∧ wx.cell? ⟨R, r, none⟩ = some (.slice (some ⟨br, 0, none⟩) cols cr) ∧ wx.cell? ⟨br, k, none⟩ = some (.int .i64 u) ∧ wx.cell? ⟨g, 0, none⟩ = some (.int .i64 P) ∧ wx.cell? ⟨g, 1, none⟩ = some (.int .i64 M0) ∧ wx.cell? ⟨g, 2, none⟩ = some (.slice A n c0) ∧ wx.frozen? ⟨bi, k, none⟩ = false ∧ (wx.cell? ⟨bi, k, none⟩ = some (.int .i64 x) ∨ wx.cell? ⟨bi, k, none⟩ = some (.int .i64 z)) ∧ Below w0.heap.size w0 wx)) (by kernel_rfl) ?_ (fun hHeld => ?_)
                    · exact HK0.out _ (Below.refl _ _).drew
                    (refine wpAnyH_take (i := 0) (oi := _) (v := ?_) rfl (by kernel_rfl) (by kernel_rfl) (by kernel_rfl) (fun _ _ _ h => h) (Or.inl ⟨by rfl, ?_⟩) (by assumption) ?_; rotate_left; focus (intro w9 hSw; (try dsimp only at hSw); go_simp; (try with_reducible rfl); done); try simp only [Act.put, List.setIfInBounds_toArray, List.set_cons_zero, List.set_cons_succ])
                    (refine wpAnyH_take (i := 1) (oi := _) (v := ?_) rfl (by kernel_rfl) (by kernel_rfl) (by kernel_rfl) (fun _ _ _ h => h) (Or.inl ⟨by rfl, ?_⟩) (by assumption) ?_; rotate_left; focus (intro w9 hSw; (try dsimp only at hSw); go_simp; (try with_reducible rfl); done); try simp only [Act.put, List.setIfInBounds_toArray, List.set_cons_zero, List.set_cons_succ])
                    (refine wpAnyH_take (i := 2) (oi := _) (v := ?_) rfl (by kernel_rfl) (by kernel_rfl) (by kernel_rfl) (fun _ _ _ h => h) (Or.inl ⟨by rfl, ?_⟩) (by assumption) ?_; rotate_left; focus (intro w9 hSw; (try dsimp only at hSw); go_simp; (try with_reducible rfl); done); try simp only [Act.put, List.setIfInBounds_toArray, List.set_cons_zero, List.set_cons_succ])
                    (refine wpAnyH_take (i := 3) (oi := _) (v := ?_) rfl (by kernel_rfl) (by kernel_rfl) (by kernel_rfl) (fun _ _ _ h => h) (Or.inl ⟨by rfl, ?_⟩) (by assumption) ?_; rotate_left; focus (intro w9 hSw; (try dsimp only at hSw); go_simp; (try with_reducible rfl); done); try simp only [Act.put, List.setIfInBounds_toArray, List.set_cons_zero, List.set_cons_succ])
                    (refine wpAnyH_take (i := 4) (oi := _) (v := ?_) rfl (by kernel_rfl) (by kernel_rfl) (by kernel_rfl) (fun _ _ _ h => h) (Or.inl ⟨by rfl, ?_⟩) (by assumption) ?_; rotate_left; focus (intro w9 hSw; (try dsimp only at hSw); go_simp; (try with_reducible rfl); done); try simp only [Act.put, List.setIfInBounds_toArray, List.set_cons_zero, List.set_cons_succ])
                    (refine wpAnyH_take (i := 5) (oi := _) (v := ?_) rfl (by kernel_rfl) (by kernel_rfl) (by kernel_rfl) (fun _ _ _ h => h) (Or.inl ⟨by rfl, ?_⟩) (by assumption) ?_; rotate_left; focus (intro w9 hSw; (try dsimp only at hSw); go_simp; (try with_reducible rfl); done); try simp only [Act.put, List.setIfInBounds_toArray, List.set_cons_zero, List.set_cons_succ])
                    (refine wpAnyH_take (i := 6) (oi := _) (v := ?_) rfl (by kernel_rfl) (by kernel_rfl) (by kernel_rfl) (fun _ _ _ h => h) (Or.inl ⟨by rfl, ?_⟩) (by assumption) ?_; rotate_left; focus (intro w9 hSw; (try dsimp only at hSw); go_simp; (try with_reducible rfl); done); try simp only [Act.put, List.setIfInBounds_toArray, List.set_cons_zero, List.set_cons_succ])
                    (refine wpAnyH_take (i := 7) (oi := _) (v := ?_) rfl (by kernel_rfl) (by kernel_rfl) (by kernel_rfl) (fun _ _ _ h => h) (Or.inl ⟨by rfl, ?_⟩) (by assumption) ?_; rotate_left; focus (intro w9 hSw; (try dsimp only at hSw); go_simp; (try with_reducible rfl); done); try simp only [Act.put, List.setIfInBounds_toArray, List.set_cons_zero, List.set_cons_succ])
                    (refine wpAnyH_take (i := 8) (oi := _) (v := ?_) rfl (by kernel_rfl) (by kernel_rfl) (by kernel_rfl) (fun _ _ _ h => h) (Or.inl ⟨by rfl, ?_⟩) (by assumption) ?_; rotate_left; focus (intro w9 hSw; (try dsimp only at hSw); go_simp; (try with_reducible rfl); done); try simp only [Act.put, List.setIfInBounds_toArray, List.set_cons_zero, List.set_cons_succ])
                    (refine wpAnyH_take (i := 9) (oi := _) (v := ?_) rfl (by kernel_rfl) (by kernel_rfl) (by kernel_rfl) (fun _ _ _ h => h) (Or.inl ⟨by rfl, ?_⟩) (by assumption) ?_; rotate_left; focus (intro w9 hSw; (try dsimp only at hSw); go_simp; (try with_reducible rfl); done); try simp only [Act.put, List.setIfInBounds_toArray, List.set_cons_zero, List.set_cons_succ])
                    (refine wpAnyH_take (i := 10) (oi := _) (v := ?_) rfl (by kernel_rfl) (by kernel_rfl) (by kernel_rfl) (fun _ _ _ h => h) (Or.inl ⟨by rfl, ?_⟩) (by assumption) ?_; rotate_left; focus (intro w9 hSw; (try dsimp only at hSw); go_simp; (try with_reducible rfl); done); try simp only [Act.put, List.setIfInBounds_toArray, List.set_cons_zero, List.set_cons_succ])
                    (refine wpAnyH_take (i := 11) (oi := _) (v := ?_) rfl (by kernel_rfl) (by kernel_rfl) (by kernel_rfl) (fun _ _ _ h => h) (Or.inl ⟨by rfl, ?_⟩) (by assumption) ?_; rotate_left; focus (intro w9 hSw; (try dsimp only at hSw); go_simp; (try with_reducible rfl); done); try simp only [Act.put, List.setIfInBounds_toArray, List.set_cons_zero, List.set_cons_succ])
                    (refine wpAnyH_take (i := 13) (oi := _) (v := ?_) rfl (by kernel_rfl) (by kernel_rfl) (by kernel_rfl) (fun _ _ _ h => h) (Or.inl ⟨by rfl, ?_⟩) (by assumption) ?_; rotate_left; focus (intro w9 hSw; (try dsimp only at hSw); go_simp; (try with_reducible rfl); done); try simp only [Act.put, List.setIfInBounds_toArray, List.set_cons_zero, List.set_cons_succ])
                    (refine wpAnyH_take (i := 14) (oi := _) (v := ?_) rfl (by kernel_rfl) (by kernel_rfl) (by kernel_rfl) (fun _ _ _ h => h) (Or.inl ⟨by rfl, ?_⟩) (by assumption) ?_; rotate_left; focus (intro w9 hSw; (try dsimp only at hSw); go_simp; (try with_reducible rfl); done); try simp only [Act.put, List.setIfInBounds_toArray, List.set_cons_zero, List.set_cons_succ])
                    (refine wpAnyH_take (i := 15) (oi := _) (v := ?_) rfl (by kernel_rfl) (by kernel_rfl) (by kernel_rfl) (fun _ _ _ h => h) (Or.inl ⟨by rfl, ?_⟩) (by assumption) ?_; rotate_left; focus (intro w9 hSw; (try dsimp only at hSw); go_simp; (try with_reducible rfl); done); try simp only [Act.put, List.setIfInBounds_toArray, List.set_cons_zero, List.set_cons_succ])
                    (refine wpAnyH_take (i := 16) (oi := _) (v := ?_) rfl (by kernel_rfl) (by kernel_rfl) (by kernel_rfl) (fun _ _ _ h => h) (Or.inl ⟨by rfl, ?_⟩) (by assumption) ?_; rotate_left; focus (intro w9 hSw; (try dsimp only at hSw); go_simp; (try with_reducible rfl); done); try simp only [Act.put, List.setIfInBounds_toArray, List.set_cons_zero, List.set_cons_succ])
                    (refine wpAnyH_take (i := 17) (oi := _) (v := ?_) rfl (by kernel_rfl) (by kernel_rfl) (by kernel_rfl) (fun _ _ _ h => h) (Or.inl ⟨by rfl, ?_⟩) (by assumption) ?_; rotate_left; focus (intro w9 hSw; (try dsimp only at hSw); go_simp; (try with_reducible rfl); done); try simp only [Act.put, List.setIfInBounds_toArray, List.set_cons_zero, List.set_cons_succ])
                    (refine wpAnyH_take (i := 18) (oi := _) (v := ?_) rfl (by kernel_rfl) (by kernel_rfl) (by kernel_rfl) (fun _ _ _ h => h) (Or.inl ⟨by rfl, ?_⟩) (by assumption) ?_; rotate_left; focus (intro w9 hSw; (try dsimp only at hSw); go_simp; (try with_reducible rfl); done); try simp only [Act.put, List.setIfInBounds_toArray, List.set_cons_zero, List.set_cons_succ])
                    (refine wpAnyH_take (i := 19) (oi := _) (v := ?_) rfl (by kernel_rfl) (by kernel_rfl) (by kernel_rfl) (fun _ _ _ h => h) (Or.inl ⟨by rfl, ?_⟩) (by assumption) ?_; rotate_left; focus (intro w9 hSw; (try dsimp only at hSw); go_simp; (try with_reducible rfl); done); try simp only [Act.put, List.setIfInBounds_toArray, List.set_cons_zero, List.set_cons_succ])
                    (refine wpAnyH_take (i := 20) (oi := _) (v := ?_) rfl (by kernel_rfl) (by kernel_rfl) (by kernel_rfl) (fun _ _ _ h => h) (Or.inl ⟨by rfl, ?_⟩) (by assumption) ?_; rotate_left; focus (intro w9 hSw; (try dsimp only at hSw); go_simp; (try with_reducible rfl); done); try simp only [Act.put, List.setIfInBounds_toArray, List.set_cons_zero, List.set_cons_succ])
                    (refine wpAnyH_take (i := 21) (oi := _) (v := ?_) rfl (by kernel_rfl) (by kernel_rfl) (by kernel_rfl) (fun _ _ _ h => h) (Or.inl ⟨by rfl, ?_⟩) (by assumption) ?_; rotate_left; focus (intro w9 hSw; (try dsimp only at hSw); go_simp; (try with_reducible rfl); done); try simp only [Act.put, List.setIfInBounds_toArray, List.set_cons_zero, List.set_cons_succ])
                    refine wpAnyH_ready (rs := [12, 22]) (by kernel_rfl) (by simp) ?_
                    refine AllReadyH.cons (o := _) rfl (fun K hK => ?_) ?_
                    · go_simp
                      refine hK.out _ _ ?_ (fun hHeld => ?_)
                      · assumption
                      clear hK K
                      try simp only [Act.put, List.setIfInBounds_toArray, List.set_cons_zero, List.set_cons_succ]
                      refine wpAnyH_ready (rs := [22]) (by kernel_rfl) (by simp) ?_
                      refine AllReadyH.cons (o := _) rfl (fun K hK => ?_) ?_
                      · go_simp
                        go_at_call 27
                        refine (CM2.out _ (And.right (And.right (And.right (And.right (And.right (And.right (And.right (And.right (by assumption)))))))))).mono ?_
                        rintro e w4 ⟨rfl, hb4⟩
                        replace hb4 : Below wr.heap.size wr w4 := below_in hb4
                        have hc4 := (keepCF0 hcx hfz hb4).1
                        go_wp2_with fail
                        refine hK.out _ _ ?_ (fun hHeld => ?_)
                        · exact HK0.out _ hb4
                        clear hK K
                        try simp only [Act.put, List.setIfInBounds_toArray, List.set_cons_zero, List.set_cons_succ]
                        refine wpAnyH_ready (rs := [23]) (by kernel_rfl) (by simp) ?_
                        refine AllReadyH.cons (o := _) rfl (fun K hK => ?_) ?_
                        · go_simp
                          go_at_call 40
                          refine (CD2.out _).mono ?_
                          rintro e w5 ⟨rfl, hb5⟩
                          replace hb5 : Below wr.heap.size wr w5 := below_on hb4 hb5
                          have hc5 := (keepCF0 hcx hfz hb5).1
                          have hf5 := (keepCF0 hcx hfz hb5).2.1
                          go_wp2_with fail
                          refine hK.out _ _ ?_ (fun hHeld => ?_)
                          · exact HK0.out _ hb5
                          clear hK K
                          try simp only [Act.put, List.setIfInBounds_toArray, List.set_cons_zero, List.set_cons_succ]
                          (refine wpAnyH_take (i := 24) (oi := _) (v := ?_) rfl (by kernel_rfl) (by kernel_rfl) (by kernel_rfl) (fun _ _ _ h => h) (Or.inl ⟨by rfl, ?_⟩) (by assumption) ?_; rotate_left; focus (intro w9 hSw; (try dsimp only at hSw); go_simp; (try with_reducible rfl); done); try simp only [Act.put, List.setIfInBounds_toArray, List.set_cons_zero, List.set_cons_succ])
                          refine wpAnyH_ready (rs := [25]) (by kernel_rfl) (by simp) ?_
                          refine AllReadyH.cons (o := _) rfl (fun K hK => ?_) ?_
                          · go_simp
                            refine hK.out _ _ ?_ (fun hHeld => ?_)
                            · exact HKS.out _ hb5
                            clear hK K
                            try simp only [Act.put, List.setIfInBounds_toArray, List.set_cons_zero, List.set_cons_succ]
                            refine wpAnyH_done (by kernel_rfl) ?_ _
                            refine NoPanic.normal ?_
                            have HN9 := Lib.hid (HKP.out _ hb5)
                            clear hb4 hb5 hc4 hc5 hf5 hcx hfz hd1 hd2 hd3 x0 x1 x2 HK9 HK0 HKP HKS CM2 CD2 HA9
                            go_wp2
                            go_roundg (cols - (k + 1))
                            case measure => have := HGQ4.out; omega
                            case rel => exact ⟨k + 1, by omega, by omega, rfl, by go_num, HN9.out⟩
                          exact AllReadyH.nil
                        exact AllReadyH.nil
                      exact AllReadyH.nil
                    refine AllReadyH.cons (o := _) rfl (fun K hK => ?_) ?_
                    · go_simp
                      go_at_call 27
                      refine (CM2.out _ (And.right (And.right (And.right (And.right (And.right (And.right (And.right (And.right (by assumption)))))))))).mono ?_
                      rintro e w4 ⟨rfl, hb4⟩
                      replace hb4 : Below wr.heap.size wr w4 := below_in hb4
                      have hc4 := (keepCF0 hcx hfz hb4).1
                      go_wp2_with fail
                      refine hK.out _ _ ?_ (fun hHeld => ?_)
                      · exact HK0.out _ hb4
                      clear hK K
                      try simp only [Act.put, List.setIfInBounds_toArray, List.set_cons_zero, List.set_cons_succ]
                      refine wpAnyH_ready (rs := [12]) (by kernel_rfl) (by simp) ?_
                      refine AllReadyH.cons (o := _) rfl (fun K hK => ?_) ?_
                      · go_simp
                        refine hK.out _ _ ?_ (fun hHeld => ?_)
                        · assumption
                        clear hK K
                        try simp only [Act.put, List.setIfInBounds_toArray, List.set_cons_zero, List.set_cons_succ]
                        refine wpAnyH_ready (rs := [23]) (by kernel_rfl) (by simp) ?_
                        refine AllReadyH.cons (o := _) rfl (fun K hK => ?_) ?_
                        · go_simp
                          go_at_call 40
                          refine (CD2.out _).mono ?_
                          rintro e w5 ⟨rfl, hb5⟩
                          replace hb5 : Below wr.heap.size wr w5 := below_on hb4 hb5
                          have hc5 := (keepCF0 hcx hfz hb5).1
                          have hf5 := (keepCF0 hcx hfz hb5).2.1
                          go_wp2_with fail
                          refine hK.out _ _ ?_ (fun hHeld => ?_)
                          · exact HK0.out _ hb5
                          clear hK K
                          try simp only [Act.put, List.setIfInBounds_toArray, List.set_cons_zero, List.set_cons_succ]
                          (refine wpAnyH_take (i := 24) (oi := _) (v := ?_) rfl (by kernel_rfl) (by kernel_rfl) (by kernel_rfl) (fun _ _ _ h => h) (Or.inl ⟨by rfl, ?_⟩) (by assumption) ?_; rotate_left; focus (intro w9 hSw; (try dsimp only at hSw); go_simp; (try with_reducible rfl); done); try simp only [Act.put, List.setIfInBounds_toArray, List.set_cons_zero, List.set_cons_succ])
                          refine wpAnyH_ready (rs := [25]) (by kernel_rfl) (by simp) ?_
                          refine AllReadyH.cons (o := _) rfl (fun K hK => ?_) ?_
                          · go_simp
                            refine hK.out _ _ ?_ (fun hHeld => ?_)
                            · exact HKS.out _ hb5
                            clear hK K
                            try simp only [Act.put, List.setIfInBounds_toArray, List.set_cons_zero, List.set_cons_succ]
                            refine wpAnyH_done (by kernel_rfl) ?_ _
                            refine NoPanic.normal ?_
                            have HN9 := Lib.hid (HKP.out _ hb5)
                            clear hb4 hb5 hc4 hc5 hf5 hcx hfz hd1 hd2 hd3 x0 x1 x2 HK9 HK0 HKP HKS CM2 CD2 HA9
                            go_wp2
                            go_roundg (cols - (k + 1))
                            case measure => have := HGQ4.out; omega
                            case rel => exact ⟨k + 1, by omega, by omega, rfl, by go_num, HN9.out⟩
                          exact AllReadyH.nil
                        exact AllReadyH.nil
                      exact AllReadyH.nil
                    exact AllReadyH.nil
                  · obtain rfl : k = cols := by omega
                    have HA10 : Hid (RkAt S w0 g (.int .i64 P) (.int .i64 M0) (.slice A n c0) R m k b1 cp1 (RK.upto r c (i + 1) M1) wr) :=
                      HA9.out.congr fun i' _ j hj => by rw [HAE.out]; exact RK.mid_all HM1Z.out (by omega) i' j hj
                    clear HA9
                    go_wp2
                    go_roundg (m - (i + 1))
                    case measure => have := HGQ3.out; omega
                    case rel => exact ⟨i + 1, by omega, by omega, rfl, by go_num, HA10.out⟩
              · obtain rfl : i = m := by omega
                rw [RK.upto_all] at HA7
                go_wp2
                go_roundg (cols - (c + 1))
                case measure => have := HGQ.out; omega
                case rel => exact ⟨c + 1, by omega, rfl, by rw [HN2.out]; go_num, by go_num, by rw [HN2.out]; exact ⟨b1, cp1, HA7.out⟩⟩
    · obtain rfl : c = cols := by omega
      have HO := Lib.hid HAT.out.old
      go_wp2
      go_ret
      exact ⟨by rw [HRR.out]; rfl, HO.out⟩

end Go.Proofs.Ytdbhhfhfjlpepaa
