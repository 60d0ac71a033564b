/- The standard field of an order is the one with the least irreducible polynomial: the walk of the law. -/
import Derived.Test.YtjbfccconjjofaaStdR
import Derived.Test.YtjbfccconjjofaaSame
namespace Go.Proofs.Ytjbfccconjjofaa
open Go.RowKit
attribute [local go_sem ↓] Go.wp_at_zero Go.wp_at_succ

theorem upCell {W : World} {a : Addr} {v : Value} (o : Obj) (h : W.cell? a = some v) : (W.alloc o).cell? a = some v := (World.cell?_alloc_lt (w := W) (a := a) (o := o) (World.block_lt_of_cell? W _ h)).trans h
set_option maxHeartbeats 2000000 in
theorem lawStandard (q : Int) (w : World) : Calls Try.prog 16 #[.int .i64 q] w fun e w' => e = .returned (.bool true) ∧ Below w.heap.size w w' := by
  have hu := Try.underlying24
  have C1 : Hid (∀ W, Calls Try.prog 56 #[.int .i64 q] W fun e w' => StdRet q (.int .i64 0) (.int .i64 6) W e w') := fun W => standard_calls q W
  have C2 : Hid (∀ W, Calls Try.prog 57 #[.int .i64 q] W fun e w' => StdRet q (.bool true) (.bool false) W e w') := fun W => refStandard_calls q W
  go_enter Try.func16, Try.ntmps16
  go_wp2_with fail
  go_at_call 17
  refine (alive_calls _).mono ?_
  rintro e w1 ⟨rfl, hb1⟩
  have HB1 := Lib.hid hb1
  clear hb1
  go_wp2_with fail
  go_at_call 56
  refine (C1.out _).mono ?_
  rintro e w2 ⟨hb2, hret⟩
  have HB2 := Lib.hid (below_step HB1.out hb2 HB1.out.size)
  clear hb2 HB1
  rcases hret with ⟨P, m, mod, A, c, hstd, hr, rfl⟩ | ⟨hno, rfl⟩
  · have HSTD := Lib.hid hstd
    have HR2 := Lib.hid hr
    clear hstd hr
    obtain ⟨n, HN⟩ : ∃ n, Hid (n = mod.length) := ⟨_, rfl⟩
    rw [← HN.out]
    have HBX := Lib.hid (HB2.out.alloc HB2.out.size (.cells #[.int .i64 P, .int .i64 m, .slice A n c] 24))
    have HRX := Lib.hid (HR2.out.alloc (.cells #[.int .i64 P, .int .i64 m, .slice A n c] 24))
    go_wp2_with fail
    go_at_call 57
    refine (C2.out _).mono ?_
    rintro e w3 ⟨hb3, hret⟩
    obtain ⟨x0, x1, x2, _⟩ := box3 hb3
    have HB3 := Lib.hid (below_step HBX.out hb3 HBX.out.size)
    have HR3 := Lib.hid (HRX.out.below hb3 (Nat.le_refl _))
    clear hb3
    rcases hret with ⟨P', m', mod', A', c', hstd', hr', rfl⟩ | ⟨hno, rfl⟩
    rotate_left
    · exact absurd HSTD.out (hno _ _ _)
    obtain ⟨rfl, rfl, rfl⟩ := HSTD.out.uniq hstd'
    rw [← HN.out]
    have HR4 := Lib.hid hr'
    clear hstd' hr'
    replace x0 := upCell (.cells #[.int .i64 P, .int .i64 m, .slice A' n c'] 24) x0
    replace x1 := upCell (.cells #[.int .i64 P, .int .i64 m, .slice A' n c'] 24) x1
    replace x2 := upCell (.cells #[.int .i64 P, .int .i64 m, .slice A' n c'] 24) x2
    have HBY := Lib.hid (HB3.out.alloc HB3.out.size (.cells #[.int .i64 P, .int .i64 m, .slice A' n c'] 24))
    have CS : Hid (Calls Try.prog 27 #[.agg #[.int .i64 P, .int .i64 m, .slice A n c], .agg #[.int .i64 P, .int .i64 m, .slice A' n c']] (w3.alloc (.cells #[.int .i64 P, .int .i64 m, .slice A' n c'] 24)) fun e w' => e = .returned (.bool true) ∧ Below (w3.alloc (.cells #[.int .i64 P, .int .i64 m, .slice A' n c'] 24)).heap.size (w3.alloc (.cells #[.int .i64 P, .int .i64 m, .slice A' n c'] 24)) w') := by
      rw [HN.out]
      exact (refSame_calls P m A c mod P m A' c' mod _ (HR3.out.alloc _) (HR4.out.alloc _)).mono fun e w' ⟨b, he, hb, hl⟩ => ⟨by rw [he, hb.2 ⟨rfl, rfl, rfl⟩], hl⟩
    go_wp2_with fail
    go_at_call 27
    refine CS.out.mono ?_
    rintro e w5 ⟨rfl, hb5⟩
    have HB5 := Lib.hid (below_step HBY.out hb5 HBY.out.size)
    clear hb5 x0 x1 x2
    go_wp2
    go_ret
    exact ⟨by first | rfl | (simp; done), HB5.out⟩
  · have HNO := Lib.hid hno
    clear hno
    have HBX := Lib.hid (HB2.out.alloc HB2.out.size (.cells #[.int .i64 0, .int .i64 0, .slice none 0 0] 24))
    go_wp2_with fail
    go_at_call 57
    refine (C2.out _).mono ?_
    rintro e w3 ⟨hb3, hret⟩
    obtain ⟨x0, x1, x2, _⟩ := box3 hb3
    have HB3 := Lib.hid (below_step HBX.out hb3 HBX.out.size)
    clear hb3
    rcases hret with ⟨P', m', mod', A', c', hstd', hr', rfl⟩ | ⟨_, rfl⟩
    · exact absurd hstd' (HNO.out _ _ _)
    replace x0 := upCell (.cells #[.int .i64 0, .int .i64 0, .slice none 0 0] 24) x0
    replace x1 := upCell (.cells #[.int .i64 0, .int .i64 0, .slice none 0 0] 24) x1
    replace x2 := upCell (.cells #[.int .i64 0, .int .i64 0, .slice none 0 0] 24) x2
    have HBY := Lib.hid (HB3.out.alloc HB3.out.size (.cells #[.int .i64 0, .int .i64 0, .slice none 0 0] 24))
    have CS : Hid (∀ W, Calls Try.prog 27 #[.agg #[.int .i64 0, .int .i64 0, .slice none 0 0], .agg #[.int .i64 0, .int .i64 0, .slice none 0 0]] W fun e w' => e = .returned (.bool true) ∧ Below W.heap.size W w') := fun W =>
      (refSame_calls 0 0 none 0 [] 0 0 none 0 [] W (Rd.nil _ _) (Rd.nil _ _)).mono fun e w' ⟨b, he, hb, hl⟩ => ⟨by rw [he, hb.2 ⟨rfl, rfl, rfl⟩], hl⟩
    go_wp2_with fail
    go_at_call 27
    refine (CS.out _).mono ?_
    rintro e w5 ⟨rfl, hb5⟩
    have HB5 := Lib.hid (below_step HBY.out hb5 HBY.out.size)
    clear hb5 x0 x1 x2
    go_wp2
    go_ret
    exact ⟨by first | rfl | (simp; done), HB5.out⟩

end Go.Proofs.Ytjbfccconjjofaa
