/- generator of the package field. -/
import Derived.Test.YtjbfccconjjofaaPowers
namespace Go.Proofs.Ytjbfccconjjofaa
open Go.RowKit
attribute [local go_sem ↓] Go.wp_at_zero Go.wp_at_succ

/-- What 'generator' returns: the powers of a generator, or nil where there is none. -/
def GenRet (mul : Int → Int → Int) (q : Nat) (w : World) (e : Ending) (w' : World) : Prop :=
  ((e = .returned (.slice none 0 0) ∧ ∀ x : Int, 1 ≤ x → x < q → ¬ IsGen mul q x) ∨
   ∃ (x : Int) (g cap : Nat), 1 ≤ x ∧ x < q ∧ IsGen mul q x ∧ e = .returned (.slice (some ⟨g, 0, none⟩) (q - 1) cap) ∧ w.heap.size ≤ g ∧ Own w' g cap (pwL mul x (q - 1))) ∧ Below w.heap.size w w'
theorem GenRet.nil {mul : Int → Int → Int} {q : Nat} {w w' : World} (h : ∀ x : Int, 1 ≤ x → x < q → ¬ IsGen mul q x) (hb : Below w.heap.size w w') : GenRet mul q w (.returned (.slice none 0 0)) w' := ⟨.inl ⟨rfl, h⟩, hb⟩
theorem GenRet.found {mul : Int → Int → Int} {q : Nat} {w w' : World} {x : Int} {g cap n : Nat} (hn : n = q - 1) (h1 : 1 ≤ x) (h2 : x < q) (h3 : IsGen mul q x) (h4 : w.heap.size ≤ g) (h5 : Own w' g cap (pwL mul x (q - 1))) (hb : Below w.heap.size w w') :
    GenRet mul q w (.returned (.slice (some ⟨g, 0, none⟩) n cap)) w' := by subst hn; exact ⟨.inr ⟨x, g, cap, h1, h2, h3, rfl, h4, h5⟩, hb⟩

theorem keep4 {W w1 w' : World} {g gp k : Nat} {a b c v : Value} (hg : g < W.heap.size)
    (h : w1.cell? ⟨gp, k, none⟩ = some v ∧ w1.cell? ⟨g, 0, none⟩ = some a ∧ w1.cell? ⟨g, 1, none⟩ = some b ∧ w1.cell? ⟨g, 2, none⟩ = some c ∧ Below W.heap.size W w1) (hb : Below w1.heap.size w1 w') :
    w'.cell? ⟨gp, k, none⟩ = some v ∧ w'.cell? ⟨g, 0, none⟩ = some a ∧ w'.cell? ⟨g, 1, none⟩ = some b ∧ w'.cell? ⟨g, 2, none⟩ = some c ∧ Below W.heap.size W w' :=
  ⟨(hb.cell (World.block_lt_of_cell? w1 _ h.1)).trans h.1, keep3 hg h.2 hb⟩

set_option maxHeartbeats 2000000 in
theorem generator_calls (P : Int) (M : Nat) (A : Option Addr) (mod : List Int) (c : Nat) (q : Nat) (w : World) (hr : Rd w A mod) (hs : Shp P M mod) (hq : (q : Int) = P ^ M) :
    Calls Try.prog 67 #[.agg #[.int .i64 P, .int .i64 M, .slice A mod.length c], .int .i64 q] w fun e w' => GenRet (mulS P M (lowOf M mod)) q w e w' := by
  have hu := Try.underlying24
  have HR := Lib.hid hr
  have HS := Lib.hid hs
  have HQ := Lib.hid hq
  obtain ⟨n, HN⟩ : ∃ n, Hid (n = mod.length) := ⟨_, rfl⟩
  have hq2 : (q : Int) ≤ 256 := by rw [hq]; exact hs.q
  have hq1 : (2 : Int) ≤ q := by
    have := pow_mono P (by have := hs.p2; omega) 1 M hs.m1
    rw [Int.pow_succ, Int.pow_zero, Int.one_mul] at this
    have := hs.p2; omega
  clear hr hs hq
  rw [← HN.out]
  obtain ⟨mul, HM⟩ : ∃ mul, Hid (mul = mulS P M (lowOf M mod)) := ⟨_, rfl⟩
  rw [← HM.out]
  have HMB : Hid (∀ y x : Int, 0 ≤ mul y x ∧ mul y x < q) := by
    intro y x
    rw [HM.out, HQ.out]; exact mulS_bd HS.out y x
  have HC : Hid (∀ (W1 : World) (y x : Int), Rd W1 A mod → 0 ≤ y → y < q → 0 ≤ x → x < q → Calls Try.prog 71 #[.agg #[.int .i64 P, .int .i64 M, .slice A n c], .int .i64 y, .int .i64 x] W1 fun e w' => e = .returned (.int .i64 (mul y x)) ∧ Below W1.heap.size W1 w') := by
    intro W1 y x h1 h2 h3 h4 h5
    rw [HM.out, HN.out]
    exact multiply_calls P M A mod c y x W1 h1 HS.out h2 (by rw [← HQ.out]; exact h3) h4 (by rw [← HQ.out]; exact h5)
  have HP : Hid (∀ (W1 : World) (x : Int), Rd W1 A mod → 1 ≤ x → x < q → Calls Try.prog 70 #[.agg #[.int .i64 P, .int .i64 M, .slice A n c], .int .i64 q, .int .i64 x] W1 fun e w' => PowRet mul x q W1 e w') := by
    intro W1 x h1 h2 h3
    rw [HM.out, HN.out]
    exact powers_calls P M A mod c q x W1 h1 HS.out HQ.out h2 h3
  go_enter Try.func67, Try.ntmps67
  go_wp2
  go_loopg [5] (q - 1) (fun g x wr => ∃ xn : Nat, 1 ≤ xn ∧ xn ≤ q ∧ g + xn = q ∧ x = .int .i64 xn ∧ Hid (∀ y : Int, 1 ≤ y → y < xn → ¬ IsGen mul q y) ∧ Below (w.alloc (.cells #[.int .i64 P, .int .i64 M, .slice A n c] 24)).heap.size (w.alloc (.cells #[.int .i64 P, .int .i64 M, .slice A n c] 24)) wr)
  case atStart => exact ⟨1, Nat.le_refl _, by omega, by omega, rfl, fun y h1 h2 => by omega, Below.refl _ _⟩
  case round =>
    obtain ⟨xn, hx1, hx2, HG, rfl, HNO, hb⟩ := hrel
    replace HG := Lib.hid HG
    obtain ⟨x0, x1, x2, hs1⟩ := box3 hb
    by_cases hlt : xn < q
    · go_wp2_with fail
      go_at_call 70
      refine (HP.out _ xn ((HR.out.alloc _).below hb (Nat.le_refl _)) (by omega) (by omega)).mono ?_
      rintro e w2 ⟨gp, cap, n2, rfl, hgp, hop, hpe, hnq, hb2⟩
      have hb3 := below_step hb hb2 hb.size
      clear x0 x1 x2
      obtain ⟨x0, x1, x2, hs2⟩ := box3 hb3
      have HPE := Lib.hid hpe
      clear hpe
      by_cases hn : n2 + 1 = q - 1
      · have hc := hop.cell (q - 2) (by rw [pwL_length]; omega)
        rw [pwL_at _ _ _ _ (by omega)] at hc
        have e1 : ((n2 : Int) + 1 == (q : Int) - 1) = true := by simp; omega
        have e2 : IntKind.i64.wrap ((q : Int) - 1) = (q : Int) - 1 := IntWalk.i64_in _ (by omega)
        have e3 : IntKind.i64.wrap ((q : Int) - 2) = (q : Int) - 2 := IntWalk.i64_in _ (by omega)
        have e4 : ((q : Int) - 2).toNat = q - 2 := by omega
        have i1 : (0 : Int) ≤ (q : Int) - 2 := by omega
        have HNQ := Lib.hid hn
        have i2 : (q : Int) - 2 < (n2 : Int) + 1 := by omega
        obtain ⟨pv, HPV⟩ : ∃ pv, Hid (pv = pw mul xn (q - 2)) := ⟨_, rfl⟩
        rw [← HPV.out] at hc
        have hpv : 0 ≤ pv ∧ pv < q := by
          rw [HPV.out]
          exact pw_bd mul xn q HMB.out (by omega) (by omega) (by omega) _
        clear hn
        go_wp2
        go_region_held3 (fun w' => w'.cell? ⟨gp, q - 2, none⟩ = some (.int .i64 pv) ∧ w'.cell? ⟨w.heap.size, 0, none⟩ = some (.int .i64 P) ∧ w'.cell? ⟨w.heap.size, 1, none⟩ = some (.int .i64 M) ∧ w'.cell? ⟨w.heap.size, 2, none⟩ = some (.slice A n c) ∧ Below (w.alloc (.cells #[.int .i64 P, .int .i64 M, .slice A n c] 24)).heap.size (w.alloc (.cells #[.int .i64 P, .int .i64 M, .slice A n c] 24)) w')
          (first | (exact keep4 (by simp) (by assumption) (by assumption)) | (exact ⟨hc, x0, x1, x2, hb3.drew⟩))
          (first | (go_at_call 71; refine (HC.out _ pv xn ((HR.out.alloc _).below hb3 (Nat.le_refl _)).drew (by omega) (by omega) (by omega) (by omega)).mono ?_; rintro e w3 ⟨rfl, hb4⟩))
        rename_i hS
        obtain ⟨_, y0, y1, y2, hb5⟩ := hS
        have hop2 := Lib.hid ((hop.drew).below hb4 hop.lt)
        have hsz := hb.size
        simp at hsz
        by_cases hm : mul pv xn = 1
        · have hm' : (mul pv xn == 1) = true := by simpa using hm
          have HGN := Lib.hid (gen_of mul q xn n2 HPE.out HNQ.out (by rw [← HPV.out]; exact hm))
          clear hm hop hb2 hb3 hb4 hb x0 x1 x2
          go_wp2
          go_ret
          exact GenRet.found HNQ.out (by omega) (by omega) HGN.out (by omega) (by have := hop2.out; rw [HNQ.out] at this; exact this) (below_box hb5)
        · have hm' : (mul pv xn == 1) = false := by simpa using hm
          have HMN := Lib.hid hm
          clear hm hop hop2 hb2 hb3 hb4 hb x0 x1 x2
          go_wp2
          go_roundg (q - (xn + 1))
          case measure => have := HG.out; omega
          case rel =>
            refine ⟨xn + 1, by omega, by omega, by omega, by go_num, fun y h1 h2 => ?_, hb5⟩
            by_cases hy : y = xn
            · rw [hy]; intro hg; exact HMN.out (by rw [HPV.out]; exact hg.2.2)
            · exact HNO.out y h1 (by omega)
      · have e1 : ((n2 : Int) + 1 == (q : Int) - 1) = false := by simp; omega
        have e2 : IntKind.i64.wrap ((q : Int) - 1) = (q : Int) - 1 := IntWalk.i64_in _ (by omega)
        have HNQ := Lib.hid hn
        clear hn
        go_wp2
        go_quiet (fail)
        go_wp2
        go_roundg (q - (xn + 1))
        case measure => have := HG.out; omega
        case rel =>
          refine ⟨xn + 1, by omega, by omega, by omega, by go_num, fun y h1 h2 => ?_, below_drewN hb3 _⟩
          by_cases hy : y = xn
          · rw [hy]; intro hg; exact HNQ.out (gen_end mul q xn n2 (by omega) (by omega) (by omega) HPE.out hg)
          · exact HNO.out y h1 (by omega)
    · go_wp2
      go_ret
      exact GenRet.nil (fun y h1 h2 => HNO.out y h1 (by omega)) (below_box hb)

end Go.Proofs.Ytjbfccconjjofaa
