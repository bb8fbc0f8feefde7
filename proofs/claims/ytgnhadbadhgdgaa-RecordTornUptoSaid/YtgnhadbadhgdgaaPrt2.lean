/- What the Go functions of this text compute, each as a plain Lean function, and that the machine's call comes to it. Laid by a program of this session. -/
import Derived.Test.YtgnhadbadhgdgaaPrt0
namespace Go.Proofs.Ytgnhadbadhgdgaa.Prt
open Go.RowKit Go.Proofs.YtgnhadbadhgdgaaW.PrintWords Go.Proofs.YtgnhadbadhgdgaaW.PrintLast Go.Proofs.YtgnhadbadhgdgaaW.PrintMore
attribute [local go_sem] max2_int min2_int max_two min_two max_three min_three max_four min_four   -- for this text's walks alone
set_option linter.unusedVariables false
set_option linter.unusedSimpArgs false

/-! ### record_May: function 15 -/
def record_May.f (a0_0 : Int) (a0_1 : Int) (a0_2 : ByteArray) : Option (Bool) := if a0_1 < 1 then (some false) else (if a0_1 > 1099511627776 then (some false) else (if (a0_2.size : Int) > 4096 then (some false) else (if a0_0 = 1 then (some true) else (if a0_0 = 2 then (some true) else (if a0_0 = 3 then (some (a0_2.toList == ([] : List UInt8))) else (some false))))))
set_option maxHeartbeats 8000000 in
set_option maxRecDepth 100000 in
theorem record_May.calls (a0_0 : Int) (a0_1 : Int) (a0_2 : ByteArray) (r : Bool) (w : World) (h : record_May.f a0_0 a0_1 a0_2 = some r) :
    Calls Try.prog 15 #[.agg #[.int .i64 a0_0, .int .i64 a0_1, .string a0_2]] w fun e w' => e = .returned (.bool r) ∧ Below w.heap.size w w' := by
  have hu32 := Try.underlying32
  have HB := Aside0.mk (Below.refl w.heap.size w)
  have H : (if a0_1 < 1 then (some false) else (if a0_1 > 1099511627776 then (some false) else (if (a0_2.size : Int) > 4096 then (some false) else (if a0_0 = 1 then (some true) else (if a0_0 = 2 then (some true) else (if a0_0 = 3 then (some (a0_2.toList == ([] : List UInt8))) else (some false))))))) = some r := h
  clear h
  by_cases c2 : a0_1 < 1
  · rw [if_pos c2] at H
    have c2b0 : decide (a0_1 < 1) = true := decide_eq_true c2
    clear c2
    obtain rfl := Option.some.inj H
    go_enter Try.func15, Try.ntmps15
    go_wp2_with (first | ((with_reducible refine gate_dst (N := 1) rfl ?_); (try (refine gate_guard (by rfl) ?_; dsimp only)); refine box_event ?hg (N := 1) ?hd (cs := #[.int .i64 a0_0, .int .i64 a0_1, .string a0_2]) (t := 32) ?hr ?_; (case hd => rfl); (case hg => rfl); (case hr => first | (go_simp; done) | (go_simp; rfl)); intro gb101 hg w3 hbox hb; have n0_ := Aside0.mk (below_step (by repeat (first | (with_reducible first | exact HB.out | apply below_alloc | apply pw_below_drewN | apply below_drew1) | exact HB.out)) hb); have n1_ := Aside0.mk (hbox); have n2_ := Aside0.mk ((by rw [hg]; exact (below_size (by repeat (first | (with_reducible first | exact HB.out | apply below_alloc | apply pw_below_drewN | apply below_drew1) | exact HB.out))) : w.heap.size ≤ gb101)); have n3_ := Aside0.mk ((by rw [hg]; exact (below_size (by repeat (first | (with_reducible first | exact HB.out | apply below_alloc | apply pw_below_drewN | apply below_drew1) | exact HB.out))) : w.heap.size ≤ gb101)); clear HB; have HB := n0_; have BK101 := n1_; have GW101 := n2_; have GE101 := n3_; clear n0_ n1_ n2_ n3_; clear hb hbox hg; have hcz4_0 : w3.cell? ⟨gb101, 0, none⟩ = some (.int .i64 a0_0) := (blk_cell BK101.out 0).trans rfl; have hcz4_1 : w3.cell? ⟨gb101, 1, none⟩ = some (.int .i64 a0_1) := (blk_cell BK101.out 1).trans rfl; have hcz4_2 : w3.cell? ⟨gb101, 2, none⟩ = some (.string a0_2) := (blk_cell BK101.out 2).trans rfl; have hfz4_0 := blk_frozen BK101.out 0; have hfz4_1 := blk_frozen BK101.out 1; have hfz4_2 := blk_frozen BK101.out 2))
    go_ret
    exact ⟨by first | rfl | (simp [errW_none, errW_some] <;> rfl) | (simp [*, errW_none, errW_some] <;> rfl), by repeat (first | (with_reducible first | exact HB.out | apply below_alloc | apply pw_below_drewN | apply below_drew1 | refine below_set ?_ GE101.out) | exact HB.out)⟩
  · rw [if_neg c2] at H
    have c2b0 : decide (a0_1 < 1) = false := decide_eq_false c2
    clear c2
    by_cases c5 : a0_1 > 1099511627776
    · rw [if_pos c5] at H
      have c5b0 : decide (1099511627776 < a0_1) = true := decide_eq_true c5
      clear c5
      obtain rfl := Option.some.inj H
      go_enter Try.func15, Try.ntmps15
      go_wp2_with (first | ((with_reducible refine gate_dst (N := 1) rfl ?_); (try (refine gate_guard (by rfl) ?_; dsimp only)); refine box_event ?hg (N := 1) ?hd (cs := #[.int .i64 a0_0, .int .i64 a0_1, .string a0_2]) (t := 32) ?hr ?_; (case hd => rfl); (case hg => rfl); (case hr => first | (go_simp; done) | (go_simp; rfl)); intro gb101 hg w6 hbox hb; have n0_ := Aside0.mk (below_step (by repeat (first | (with_reducible first | exact HB.out | apply below_alloc | apply pw_below_drewN | apply below_drew1) | exact HB.out)) hb); have n1_ := Aside0.mk (hbox); have n2_ := Aside0.mk ((by rw [hg]; exact (below_size (by repeat (first | (with_reducible first | exact HB.out | apply below_alloc | apply pw_below_drewN | apply below_drew1) | exact HB.out))) : w.heap.size ≤ gb101)); have n3_ := Aside0.mk ((by rw [hg]; exact (below_size (by repeat (first | (with_reducible first | exact HB.out | apply below_alloc | apply pw_below_drewN | apply below_drew1) | exact HB.out))) : w.heap.size ≤ gb101)); clear HB; have HB := n0_; have BK101 := n1_; have GW101 := n2_; have GE101 := n3_; clear n0_ n1_ n2_ n3_; clear hb hbox hg; have hcz7_0 : w6.cell? ⟨gb101, 0, none⟩ = some (.int .i64 a0_0) := (blk_cell BK101.out 0).trans rfl; have hcz7_1 : w6.cell? ⟨gb101, 1, none⟩ = some (.int .i64 a0_1) := (blk_cell BK101.out 1).trans rfl; have hcz7_2 : w6.cell? ⟨gb101, 2, none⟩ = some (.string a0_2) := (blk_cell BK101.out 2).trans rfl; have hfz7_0 := blk_frozen BK101.out 0; have hfz7_1 := blk_frozen BK101.out 1; have hfz7_2 := blk_frozen BK101.out 2))
      go_ret
      exact ⟨by first | rfl | (simp [errW_none, errW_some] <;> rfl) | (simp [*, errW_none, errW_some] <;> rfl), by repeat (first | (with_reducible first | exact HB.out | apply below_alloc | apply pw_below_drewN | apply below_drew1 | refine below_set ?_ GE101.out) | exact HB.out)⟩
    · rw [if_neg c5] at H
      have c5b0 : decide (1099511627776 < a0_1) = false := decide_eq_false c5
      clear c5
      by_cases c8 : (a0_2.size : Int) > 4096
      · rw [if_pos c8] at H
        have c8b0 : decide (4096 < (a0_2.size : Int)) = true := decide_eq_true c8
        have c8b1 : decide (4096 < a0_2.size) = true := decide_eq_true (by omega)
        clear c8
        obtain rfl := Option.some.inj H
        go_enter Try.func15, Try.ntmps15
        go_wp2_with (first | ((with_reducible refine gate_dst (N := 1) rfl ?_); (try (refine gate_guard (by rfl) ?_; dsimp only)); refine box_event ?hg (N := 1) ?hd (cs := #[.int .i64 a0_0, .int .i64 a0_1, .string a0_2]) (t := 32) ?hr ?_; (case hd => rfl); (case hg => rfl); (case hr => first | (go_simp; done) | (go_simp; rfl)); intro gb101 hg w9 hbox hb; have n0_ := Aside0.mk (below_step (by repeat (first | (with_reducible first | exact HB.out | apply below_alloc | apply pw_below_drewN | apply below_drew1) | exact HB.out)) hb); have n1_ := Aside0.mk (hbox); have n2_ := Aside0.mk ((by rw [hg]; exact (below_size (by repeat (first | (with_reducible first | exact HB.out | apply below_alloc | apply pw_below_drewN | apply below_drew1) | exact HB.out))) : w.heap.size ≤ gb101)); have n3_ := Aside0.mk ((by rw [hg]; exact (below_size (by repeat (first | (with_reducible first | exact HB.out | apply below_alloc | apply pw_below_drewN | apply below_drew1) | exact HB.out))) : w.heap.size ≤ gb101)); clear HB; have HB := n0_; have BK101 := n1_; have GW101 := n2_; have GE101 := n3_; clear n0_ n1_ n2_ n3_; clear hb hbox hg; have hcz10_0 : w9.cell? ⟨gb101, 0, none⟩ = some (.int .i64 a0_0) := (blk_cell BK101.out 0).trans rfl; have hcz10_1 : w9.cell? ⟨gb101, 1, none⟩ = some (.int .i64 a0_1) := (blk_cell BK101.out 1).trans rfl; have hcz10_2 : w9.cell? ⟨gb101, 2, none⟩ = some (.string a0_2) := (blk_cell BK101.out 2).trans rfl; have hfz10_0 := blk_frozen BK101.out 0; have hfz10_1 := blk_frozen BK101.out 1; have hfz10_2 := blk_frozen BK101.out 2))
        go_ret
        exact ⟨by first | rfl | (simp [errW_none, errW_some] <;> rfl) | (simp [*, errW_none, errW_some] <;> rfl), by repeat (first | (with_reducible first | exact HB.out | apply below_alloc | apply pw_below_drewN | apply below_drew1 | refine below_set ?_ GE101.out) | exact HB.out)⟩
      · rw [if_neg c8] at H
        have c8b0 : decide (4096 < (a0_2.size : Int)) = false := decide_eq_false c8
        have c8b1 : decide (4096 < a0_2.size) = false := decide_eq_false (by omega)
        clear c8
        by_cases c11 : a0_0 = 1
        · rw [if_pos c11] at H
          have c11b0 : (a0_0 == 1) = true := beq_iff_eq.mpr c11
          have c11b1 : (a0_0 != 1) = false := bne_eq_false_iff_eq.mpr c11
          clear c11
          obtain rfl := Option.some.inj H
          go_enter Try.func15, Try.ntmps15
          go_wp2_with (first | ((with_reducible refine gate_dst (N := 1) rfl ?_); (try (refine gate_guard (by rfl) ?_; dsimp only)); refine box_event ?hg (N := 1) ?hd (cs := #[.int .i64 a0_0, .int .i64 a0_1, .string a0_2]) (t := 32) ?hr ?_; (case hd => rfl); (case hg => rfl); (case hr => first | (go_simp; done) | (go_simp; rfl)); intro gb101 hg w12 hbox hb; have n0_ := Aside0.mk (below_step (by repeat (first | (with_reducible first | exact HB.out | apply below_alloc | apply pw_below_drewN | apply below_drew1) | exact HB.out)) hb); have n1_ := Aside0.mk (hbox); have n2_ := Aside0.mk ((by rw [hg]; exact (below_size (by repeat (first | (with_reducible first | exact HB.out | apply below_alloc | apply pw_below_drewN | apply below_drew1) | exact HB.out))) : w.heap.size ≤ gb101)); have n3_ := Aside0.mk ((by rw [hg]; exact (below_size (by repeat (first | (with_reducible first | exact HB.out | apply below_alloc | apply pw_below_drewN | apply below_drew1) | exact HB.out))) : w.heap.size ≤ gb101)); clear HB; have HB := n0_; have BK101 := n1_; have GW101 := n2_; have GE101 := n3_; clear n0_ n1_ n2_ n3_; clear hb hbox hg; have hcz13_0 : w12.cell? ⟨gb101, 0, none⟩ = some (.int .i64 a0_0) := (blk_cell BK101.out 0).trans rfl; have hcz13_1 : w12.cell? ⟨gb101, 1, none⟩ = some (.int .i64 a0_1) := (blk_cell BK101.out 1).trans rfl; have hcz13_2 : w12.cell? ⟨gb101, 2, none⟩ = some (.string a0_2) := (blk_cell BK101.out 2).trans rfl; have hfz13_0 := blk_frozen BK101.out 0; have hfz13_1 := blk_frozen BK101.out 1; have hfz13_2 := blk_frozen BK101.out 2))
          go_ret
          exact ⟨by first | rfl | (simp [errW_none, errW_some] <;> rfl) | (simp [*, errW_none, errW_some] <;> rfl), by repeat (first | (with_reducible first | exact HB.out | apply below_alloc | apply pw_below_drewN | apply below_drew1 | refine below_set ?_ GE101.out) | exact HB.out)⟩
        · rw [if_neg c11] at H
          have c11b0 : (a0_0 == 1) = false := beq_eq_false_iff_ne.mpr c11
          have c11b1 : (a0_0 != 1) = true := bne_iff_ne.mpr c11
          by_cases c14 : a0_0 = 2
          · rw [if_pos c14] at H
            have c14b0 : (a0_0 == 2) = true := beq_iff_eq.mpr c14
            have c14b1 : (a0_0 != 2) = false := bne_eq_false_iff_eq.mpr c14
            clear c14
            obtain rfl := Option.some.inj H
            go_enter Try.func15, Try.ntmps15
            go_wp2_with (first | ((with_reducible refine gate_dst (N := 1) rfl ?_); (try (refine gate_guard (by rfl) ?_; dsimp only)); refine box_event ?hg (N := 1) ?hd (cs := #[.int .i64 a0_0, .int .i64 a0_1, .string a0_2]) (t := 32) ?hr ?_; (case hd => rfl); (case hg => rfl); (case hr => first | (go_simp; done) | (go_simp; rfl)); intro gb101 hg w15 hbox hb; have n0_ := Aside0.mk (below_step (by repeat (first | (with_reducible first | exact HB.out | apply below_alloc | apply pw_below_drewN | apply below_drew1) | exact HB.out)) hb); have n1_ := Aside0.mk (hbox); have n2_ := Aside0.mk ((by rw [hg]; exact (below_size (by repeat (first | (with_reducible first | exact HB.out | apply below_alloc | apply pw_below_drewN | apply below_drew1) | exact HB.out))) : w.heap.size ≤ gb101)); have n3_ := Aside0.mk ((by rw [hg]; exact (below_size (by repeat (first | (with_reducible first | exact HB.out | apply below_alloc | apply pw_below_drewN | apply below_drew1) | exact HB.out))) : w.heap.size ≤ gb101)); clear HB; have HB := n0_; have BK101 := n1_; have GW101 := n2_; have GE101 := n3_; clear n0_ n1_ n2_ n3_; clear hb hbox hg; have hcz16_0 : w15.cell? ⟨gb101, 0, none⟩ = some (.int .i64 a0_0) := (blk_cell BK101.out 0).trans rfl; have hcz16_1 : w15.cell? ⟨gb101, 1, none⟩ = some (.int .i64 a0_1) := (blk_cell BK101.out 1).trans rfl; have hcz16_2 : w15.cell? ⟨gb101, 2, none⟩ = some (.string a0_2) := (blk_cell BK101.out 2).trans rfl; have hfz16_0 := blk_frozen BK101.out 0; have hfz16_1 := blk_frozen BK101.out 1; have hfz16_2 := blk_frozen BK101.out 2))
            go_ret
            exact ⟨by first | rfl | (simp [errW_none, errW_some] <;> rfl) | (simp [*, errW_none, errW_some] <;> rfl), by repeat (first | (with_reducible first | exact HB.out | apply below_alloc | apply pw_below_drewN | apply below_drew1 | refine below_set ?_ GE101.out) | exact HB.out)⟩
          · rw [if_neg c14] at H
            have c14b0 : (a0_0 == 2) = false := beq_eq_false_iff_ne.mpr c14
            have c14b1 : (a0_0 != 2) = true := bne_iff_ne.mpr c14
            by_cases c17 : a0_0 = 3
            · rw [if_pos c17] at H
              have c17b0 : (a0_0 == 3) = true := beq_iff_eq.mpr c17
              have c17b1 : (a0_0 != 3) = false := bne_eq_false_iff_eq.mpr c17
              clear c17
              obtain rfl := Option.some.inj H
              go_enter Try.func15, Try.ntmps15
              go_wp2_with (first | ((with_reducible refine gate_dst (N := 1) rfl ?_); (try (refine gate_guard (by rfl) ?_; dsimp only)); refine box_event ?hg (N := 1) ?hd (cs := #[.int .i64 a0_0, .int .i64 a0_1, .string a0_2]) (t := 32) ?hr ?_; (case hd => rfl); (case hg => rfl); (case hr => first | (go_simp; done) | (go_simp; rfl)); intro gb101 hg w18 hbox hb; have n0_ := Aside0.mk (below_step (by repeat (first | (with_reducible first | exact HB.out | apply below_alloc | apply pw_below_drewN | apply below_drew1) | exact HB.out)) hb); have n1_ := Aside0.mk (hbox); have n2_ := Aside0.mk ((by rw [hg]; exact (below_size (by repeat (first | (with_reducible first | exact HB.out | apply below_alloc | apply pw_below_drewN | apply below_drew1) | exact HB.out))) : w.heap.size ≤ gb101)); have n3_ := Aside0.mk ((by rw [hg]; exact (below_size (by repeat (first | (with_reducible first | exact HB.out | apply below_alloc | apply pw_below_drewN | apply below_drew1) | exact HB.out))) : w.heap.size ≤ gb101)); clear HB; have HB := n0_; have BK101 := n1_; have GW101 := n2_; have GE101 := n3_; clear n0_ n1_ n2_ n3_; clear hb hbox hg; have hcz19_0 : w18.cell? ⟨gb101, 0, none⟩ = some (.int .i64 a0_0) := (blk_cell BK101.out 0).trans rfl; have hcz19_1 : w18.cell? ⟨gb101, 1, none⟩ = some (.int .i64 a0_1) := (blk_cell BK101.out 1).trans rfl; have hcz19_2 : w18.cell? ⟨gb101, 2, none⟩ = some (.string a0_2) := (blk_cell BK101.out 2).trans rfl; have hfz19_0 := blk_frozen BK101.out 0; have hfz19_1 := blk_frozen BK101.out 1; have hfz19_2 := blk_frozen BK101.out 2))
              go_ret
              exact ⟨by first | rfl | (simp [errW_none, errW_some] <;> rfl) | (simp [*, errW_none, errW_some] <;> rfl), by repeat (first | (with_reducible first | exact HB.out | apply below_alloc | apply pw_below_drewN | apply below_drew1 | refine below_set ?_ GE101.out) | exact HB.out)⟩
            · rw [if_neg c17] at H
              have c17b0 : (a0_0 == 3) = false := beq_eq_false_iff_ne.mpr c17
              have c17b1 : (a0_0 != 3) = true := bne_iff_ne.mpr c17
              obtain rfl := Option.some.inj H
              go_enter Try.func15, Try.ntmps15
              go_wp2_with (first | ((with_reducible refine gate_dst (N := 1) rfl ?_); (try (refine gate_guard (by rfl) ?_; dsimp only)); refine box_event ?hg (N := 1) ?hd (cs := #[.int .i64 a0_0, .int .i64 a0_1, .string a0_2]) (t := 32) ?hr ?_; (case hd => rfl); (case hg => rfl); (case hr => first | (go_simp; done) | (go_simp; rfl)); intro gb101 hg w20 hbox hb; have n0_ := Aside0.mk (below_step (by repeat (first | (with_reducible first | exact HB.out | apply below_alloc | apply pw_below_drewN | apply below_drew1) | exact HB.out)) hb); have n1_ := Aside0.mk (hbox); have n2_ := Aside0.mk ((by rw [hg]; exact (below_size (by repeat (first | (with_reducible first | exact HB.out | apply below_alloc | apply pw_below_drewN | apply below_drew1) | exact HB.out))) : w.heap.size ≤ gb101)); have n3_ := Aside0.mk ((by rw [hg]; exact (below_size (by repeat (first | (with_reducible first | exact HB.out | apply below_alloc | apply pw_below_drewN | apply below_drew1) | exact HB.out))) : w.heap.size ≤ gb101)); clear HB; have HB := n0_; have BK101 := n1_; have GW101 := n2_; have GE101 := n3_; clear n0_ n1_ n2_ n3_; clear hb hbox hg; have hcz21_0 : w20.cell? ⟨gb101, 0, none⟩ = some (.int .i64 a0_0) := (blk_cell BK101.out 0).trans rfl; have hcz21_1 : w20.cell? ⟨gb101, 1, none⟩ = some (.int .i64 a0_1) := (blk_cell BK101.out 1).trans rfl; have hcz21_2 : w20.cell? ⟨gb101, 2, none⟩ = some (.string a0_2) := (blk_cell BK101.out 2).trans rfl; have hfz21_0 := blk_frozen BK101.out 0; have hfz21_1 := blk_frozen BK101.out 1; have hfz21_2 := blk_frozen BK101.out 2))
              go_ret
              exact ⟨by first | rfl | (simp [errW_none, errW_some] <;> rfl) | (simp [*, errW_none, errW_some] <;> rfl), by repeat (first | (with_reducible first | exact HB.out | apply below_alloc | apply pw_below_drewN | apply below_drew1 | refine below_set ?_ GE101.out) | exact HB.out)⟩

/-! ### record_one: function 27 -/
def record_one.f (a0_0 : Int) (a0_1 : Int) (a0_2 : ByteArray) : Option (List Int) := if 0 ≤ a0_0 ∧ a0_0 < 256 ∧ 0 ≤ a0_1 ∧ a0_1 ≤ 1099511627777 ∧ a0_2.size ≤ 1000000 then some (Ext.oneB a0_0.toNat a0_1.toNat a0_2) else none
theorem record_one.calls (a0_0 : Int) (a0_1 : Int) (a0_2 : ByteArray) (r : List Int) (w : World) (h : record_one.f a0_0 a0_1 a0_2 = some r) :
    Calls Try.prog 27 #[.agg #[.int .i64 a0_0, .int .i64 a0_1, .string a0_2]] w fun e w' => ∃ v0_ : Value, e = .returned (v0_) ∧ Kd.R (Kd.int .u8) 5 w' w.heap.size (fun _ => True) v0_ r ∧ Below w.heap.size w w' := by
  unfold record_one.f at h
  split at h
  · rename_i hb
    obtain ⟨k, rfl⟩ := Int.eq_ofNat_of_zero_le (show 0 ≤ a0_0 by omega)
    obtain ⟨n, rfl⟩ := Int.eq_ofNat_of_zero_le (show 0 ≤ a0_1 by omega)
    simp only [Option.some.injEq, Int.toNat_natCast] at h
    subst h
    refine (Ext.one_any k n a0_2 w (by omega) (by omega) (by omega)).mono ?_
    rintro e w' ⟨v', he, ho, hb⟩
    exact ⟨v', he, Kd.R_of_own (enc := Value.int .u8) (h1 := fun _ => rfl) ho (fun _ _ => trivial), hb⟩
  · cases h

/-! ### record_Encode: function 10 -/
def record_Encode.l0 : Nat → List Int → List (S32) → Int → Int → Option (List Int × Int)
  | 0, _, _, _, _ => none
  | k + 1, x4, x7, x8, x9 => if x9 < x8 then (if 0 ≤ x9 then (if x9 < (x7.length : Int) then ((record_May.f ((rd_T32 x7 x9).f0) ((rd_T32 x7 x9).f1) ((rd_T32 x7 x9).f2)).bind fun t104 => (if t104 = true then ((record_one.f ((rd_T32 x7 x9).f0) ((rd_T32 x7 x9).f1) ((rd_T32 x7 x9).f2)).bind fun t105 => (if x4.length + t105.length < 140737488355328 then (record_Encode.l0 k (x4 ++ t105) x7 x8 (wrap64 (x9 + 1))) else (none))) else (some (([] : List Int), 1)))) else (none)) else (none)) else (some (x4, 0))
def record_Encode.f (k : Nat) (l0 : List (S32)) : Option (List Int × Int) := record_Encode.l0 k ([] : List Int) l0 (l0.length : Int) 0
theorem record_Encode.mono_l : ∀ k, (∀ y0 y1 y2 y3, LeO (record_Encode.l0 k y0 y1 y2 y3) (record_Encode.l0 (k + 1) y0 y1 y2 y3))
  | 0 => fun _ _ _ _ r h => by simp [record_Encode.l0] at h
  | k + 1 => by
    have ih0 := record_Encode.mono_l k
    · intro y0 y1 y2 y3
      unfold record_Encode.l0
      repeat' first
      | (with_reducible exact ih0 _ _ _ _)
      | (with_reducible exact LeO.refl _)
      | (with_reducible exact LeO.none _)
      | (with_reducible refine LeO.ite ?_ ?_)
      | (with_reducible refine LeO.bind ?_ (fun _ => ?_))
      | exact ih0 _ _ _ _
      | exact LeO.none _
      | refine LeO.ite ?_ ?_
      | refine LeO.bind ?_ (fun _ => ?_)
theorem record_Encode.mono : ∀ a0 k, LeO (record_Encode.f k a0) (record_Encode.f (k + 1) a0) := by
  intro a0 k
  have ih0 := record_Encode.mono_l k
  unfold record_Encode.f
  repeat' first
      | (with_reducible exact ih0 _ _ _ _)
      | (with_reducible exact LeO.refl _)
      | (with_reducible exact LeO.none _)
      | (with_reducible refine LeO.ite ?_ ?_)
      | (with_reducible refine LeO.bind ?_ (fun _ => ?_))
      | exact ih0 _ _ _ _
      | exact LeO.none _
      | refine LeO.ite ?_ ?_
      | refine LeO.bind ?_ (fun _ => ?_)
set_option maxHeartbeats 8000000 in
set_option maxRecDepth 100000 in
theorem record_Encode.calls (k : Nat) (A0 : Option Addr) (c0 : Nat) (l0 : List (S32)) (r1 : List Int) (r2 : Int) (w : World) (hr0 : Kd.C k32 w A0 l0.length l0) (hc0 : l0.length ≤ c0) (h : record_Encode.f k l0 = some (r1, r2)) :
    Calls Try.prog 10 #[.slice A0 l0.length c0] w fun e w' => ∃ v0_ : Value, e = .returned (.tuple #[v0_, .int .i64 r2]) ∧ Kd.R (Kd.int .u8) 5 w' w.heap.size (fun _ => True) v0_ r1 ∧ Below w.heap.size w w' := by
  have hu32 := Try.underlying32
  have HR0 := Aside0.mk hr0
  have HC0 := Aside0.mk hc0
  clear hr0 hc0
  have HB := Aside0.mk (Below.refl w.heap.size w)
  have H : (record_Encode.l0 k ([] : List Int) l0 (l0.length : Int) 0) = some (r1, r2) := h
  clear h
  have H' := Aside0.mk H
  clear H
  go_enter Try.func10, Try.ntmps10
  go_wp2
  go_loopg [4, 9] k (fun kq v4 v9 w' => ∃ (x4_1 : List Int) (x9_1 : Int), v9 = .int .i64 x9_1 ∧ Aside0 (record_Encode.l0 kq x4_1 l0 (l0.length : Int) x9_1 = some (r1, r2)) ∧ Aside0 (kq ≤ k) ∧ Aside0 (Kd.R (Kd.int .u8) 5 w' w.heap.size (fun _ => True) v4 x4_1) ∧ Aside0 (Below w.heap.size w w'))
  case atStart => exact ⟨(([] : List Int)), (0), (by first | rfl | (simp; done) | (simp [*]; done)), H', ⟨Nat.le_refl _⟩, ⟨by first | exact Kd.R_nil _ _ _ _ _ | exact Kd.N_nil _ _ _ _ _ | exact Kd.V_nil _ _ _ _ _ | exact Kd.Q_nil _ _ _ _ _ | exact Kd.S_nil _ _ _ _ _⟩, ⟨by repeat (first | (with_reducible first | exact HB.out | apply below_alloc | apply pw_below_drewN | apply below_drew1) | exact HB.out)⟩⟩
  case round =>
    clear H'
    try clear c1
    obtain ⟨x4_1, x9_1, rfl, HA, HK1, HO_4, HB⟩ := hrel
    cases gk with
    | zero => exact absurd HA.out (by simp [record_Encode.l0])
    | succ k1 =>
      have H := HA.out
      clear HA
      simp only [record_Encode.l0] at H
      by_cases c2 : x9_1 < (l0.length : Int)
      · rw [if_pos c2] at H
        have c2b0 : decide (x9_1 < (l0.length : Int)) = true := decide_eq_true c2
        clear c2
        by_cases c3 : 0 ≤ x9_1
        · rw [if_pos c3] at H
          have c3b0 : decide (0 ≤ x9_1) = true := decide_eq_true c3
          clear c3
          by_cases c4 : x9_1 < (l0.length : Int)
          · rw [if_pos c4] at H
            have c4b0 : decide (x9_1 < (l0.length : Int)) = true := decide_eq_true c4
            clear c4
            replace H := Option.bind_eq_some_iff.mp H
            obtain ⟨t104, A50, H⟩ := H
            replace H : (if t104 = true then ((record_one.f ((rd_T32 l0 x9_1).f0) ((rd_T32 l0 x9_1).f1) ((rd_T32 l0 x9_1).f2)).bind fun t105 => (if x4_1.length + t105.length < 140737488355328 then (record_Encode.l0 k1 (x4_1 ++ t105) l0 (l0.length : Int) (wrap64 (x9_1 + 1))) else (none))) else (some (([] : List Int), 1))) = some (r1, r2) := H
            have A5 := Aside0.mk A50
            clear A50
            by_cases c6 : t104 = true
            · subst c6
              have H1 : ((record_one.f ((rd_T32 l0 x9_1).f0) ((rd_T32 l0 x9_1).f1) ((rd_T32 l0 x9_1).f2)).bind fun t105 => (if x4_1.length + t105.length < 140737488355328 then (record_Encode.l0 k1 (x4_1 ++ t105) l0 (l0.length : Int) (wrap64 (x9_1 + 1))) else (none))) = some (r1, r2) := by rw [if_pos rfl] at H; exact H
              clear H
              have H := H1
              clear H1
              replace H := Option.bind_eq_some_iff.mp H
              obtain ⟨t105, A70, H⟩ := H
              replace H : (if x4_1.length + t105.length < 140737488355328 then (record_Encode.l0 k1 (x4_1 ++ t105) l0 (l0.length : Int) (wrap64 (x9_1 + 1))) else (none)) = some (r1, r2) := H
              have A7 := Aside0.mk A70
              clear A70
              by_cases c8 : x4_1.length + t105.length < 140737488355328
              · rw [if_pos c8] at H
                have LMc8 := Aside0.mk c8
                clear c8
                obtain ⟨y108, hy108⟩ : ∃ y_ : List Int, y_ = (x4_1 ++ t105) := ⟨_, rfl⟩
                replace H : (record_Encode.l0 k1 y108 l0 (l0.length : Int) (wrap64 (x9_1 + 1))) = some (r1, r2) := by first | (rw [hy108]; with_reducible exact H) | (have H2_ := (Option.bind_some _ _).symm.trans H; rw [hy108]; with_reducible exact H2_) | (have H2_ := (Option.bind_some _ _).symm.trans H; with_reducible exact H2_) | with_reducible exact H | (rw [hy108]; exact H) | exact H
                have Ny108 := Aside0.mk hy108
                clear hy108
                have H' := Aside0.mk H
                clear H
                have p102 : 0 ≤ (x9_1 : Int) := of_decide_eq_true (by first | (with_reducible assumption) | assumption)
                have q102 : x9_1 < (l0.length : Int) := of_decide_eq_true (by first | (with_reducible assumption) | assumption)
                obtain ⟨ad102, e102, hx102_0, hx102_1, hx102_2⟩ := at_T32 HR0.out x9_1 p102 q102
                cases e102
                replace hx102_0 := (HB.out.cell (World.block_lt_of_cell? w _ hx102_0)).trans hx102_0
                replace hx102_1 := (HB.out.cell (World.block_lt_of_cell? w _ hx102_1)).trans hx102_1
                replace hx102_2 := (HB.out.cell (World.block_lt_of_cell? w _ hx102_2)).trans hx102_2
                replace p102 := eq_true p102
                replace q102 := eq_true q102
                go_wp2_with (first | ((with_reducible refine gate_dst (N := 6) rfl ?_); refine box_event ?hg (N := 6) ?hd (cs := #[.int .i64 0, .int .i64 0, .string (⟨#[]⟩ : ByteArray)]) (t := 32) ?hr ?_; (case hd => rfl); (case hg => rfl); (case hr => first | (go_simp; done) | (go_simp; rfl)); intro gb103 hg w9 hbox hb; have n0_ := Aside0.mk (Kd.R_below (by (with_reducible repeat (first | apply Kd.R_alloc | apply Kd.R_drewN | apply Kd.R_drew)); exact HO_4.out) hb); have n1_ := Aside0.mk (below_step (by repeat (first | (with_reducible first | exact HB.out | apply below_alloc | apply pw_below_drewN | apply below_drew1) | exact HB.out)) hb); have n2_ := Aside0.mk (hbox); have n3_ := Aside0.mk ((by rw [hg]; exact (below_size (by repeat (first | (with_reducible first | exact HB.out | apply below_alloc | apply pw_below_drewN | apply below_drew1) | exact HB.out))) : w.heap.size ≤ gb103)); have n4_ := Aside0.mk ((by rw [hg]; exact (below_size (by repeat (first | (with_reducible first | exact HB.out | apply below_alloc | apply pw_below_drewN | apply below_drew1) | exact HB.out))) : w.heap.size ≤ gb103)); clear HO_4; clear HB; have HO_4 := n0_; have HB := n1_; have BK103 := n2_; have GW103 := n3_; have GE103 := n4_; clear n0_ n1_ n2_ n3_ n4_; clear hb hbox hg; have hcz10_0 : w9.cell? ⟨gb103, 0, none⟩ = some (.int .i64 0) := (blk_cell BK103.out 0).trans rfl; have hcz10_1 : w9.cell? ⟨gb103, 1, none⟩ = some (.int .i64 0) := (blk_cell BK103.out 1).trans rfl; have hcz10_2 : w9.cell? ⟨gb103, 2, none⟩ = some (.string (⟨#[]⟩ : ByteArray)) := (blk_cell BK103.out 2).trans rfl; have hfz10_0 := blk_frozen BK103.out 0; have hfz10_1 := blk_frozen BK103.out 1; have hfz10_2 := blk_frozen BK103.out 2) | ((with_reducible refine gate_callee (f := 15) rfl ?_); refine goesL_ (some 14) rfl rfl Try.func15 (by kernel_rfl) rfl #[.agg #[.int .i64 ((rd_T32 l0 x9_1).f0), .int .i64 ((rd_T32 l0 x9_1).f1), .string ((rd_T32 l0 x9_1).f2)]] rfl (by (try simp only [List.map_toArray, List.map_cons, List.map_nil]); first | done | rfl | (simp only [List.length_drop, List.length_take]; rfl)) ?_; (with_reducible refine (record_May.calls ((rd_T32 l0 x9_1).f0) ((rd_T32 l0 x9_1).f1) ((rd_T32 l0 x9_1).f2) true _ A5.out).mono ?_); rintro e w11 ⟨rfl, hb⟩; refine ⟨_, rfl, ?_⟩; have n0_ := Aside0.mk (Kd.R_below (by (with_reducible repeat (first | apply Kd.R_alloc | apply Kd.R_drewN | apply Kd.R_drew)); exact (Kd.R_mono (Kd.R_far (p := ⟨gb103, 2, none⟩) (Kd.R_far (p := ⟨gb103, 1, none⟩) (Kd.R_far (p := ⟨gb103, 0, none⟩) (Kd.R_types HO_4.out BK103.out (by decide)) (fun _ hk => hk.2) (.int .i64 ((rd_T32 l0 x9_1).f0))) (fun _ hk => hk.2) (.int .i64 ((rd_T32 l0 x9_1).f1))) (fun _ hk => hk.2) (.string ((rd_T32 l0 x9_1).f2))) (fun _ h_ => h_.1))) hb); have n1_ := Aside0.mk (blk_below (g := gb103) (o := .cells #[.int .i64 ((rd_T32 l0 x9_1).f0), .int .i64 ((rd_T32 l0 x9_1).f1), .string ((rd_T32 l0 x9_1).f2)] 32 (0, 0)) (by (with_reducible repeat (first | refine blk_drewN ?_ _ | refine blk_drew ?_ | refine blk_alloc ?_ _)); refine blk_put (cs := #[.int .i64 ((rd_T32 l0 x9_1).f0), .int .i64 ((rd_T32 l0 x9_1).f1), .string (⟨#[]⟩ : ByteArray)]) ?_ 2 _ rfl; (with_reducible repeat (first | refine blk_drewN ?_ _ | refine blk_drew ?_ | refine blk_alloc ?_ _)); refine blk_put (cs := #[.int .i64 ((rd_T32 l0 x9_1).f0), .int .i64 0, .string (⟨#[]⟩ : ByteArray)]) ?_ 1 _ rfl; (with_reducible repeat (first | refine blk_drewN ?_ _ | refine blk_drew ?_ | refine blk_alloc ?_ _)); refine blk_put (cs := #[.int .i64 0, .int .i64 0, .string (⟨#[]⟩ : ByteArray)]) ?_ 0 _ rfl; (with_reducible repeat (first | refine blk_drewN ?_ _ | refine blk_drew ?_ | refine blk_alloc ?_ _)); exact BK103.out) hb); have n2_ := Aside0.mk (below_step (by repeat (first | (with_reducible first | exact HB.out | apply below_alloc | apply pw_below_drewN | apply below_drew1 | refine below_set ?_ GE103.out) | exact HB.out)) hb); clear HO_4; clear BK103; clear HB; have HO_4 := n0_; have BK103 := n1_; have HB := n2_; clear n0_ n1_ n2_; (try clear hb); (try clear hb2); (try clear hk); (try clear hi); have hcz12_0 : w11.cell? ⟨gb103, 0, none⟩ = some (.int .i64 ((rd_T32 l0 x9_1).f0)) := (blk_cell BK103.out 0).trans rfl; have hcz12_1 : w11.cell? ⟨gb103, 1, none⟩ = some (.int .i64 ((rd_T32 l0 x9_1).f1)) := (blk_cell BK103.out 1).trans rfl; have hcz12_2 : w11.cell? ⟨gb103, 2, none⟩ = some (.string ((rd_T32 l0 x9_1).f2)) := (blk_cell BK103.out 2).trans rfl; have hfz12_0 := blk_frozen BK103.out 0; have hfz12_1 := blk_frozen BK103.out 1; have hfz12_2 := blk_frozen BK103.out 2) | ((with_reducible refine gate_callee (f := 27) rfl ?_); refine goesL_ (some 18) rfl rfl Try.func27 (by kernel_rfl) rfl #[.agg #[.int .i64 ((rd_T32 l0 x9_1).f0), .int .i64 ((rd_T32 l0 x9_1).f1), .string ((rd_T32 l0 x9_1).f2)]] rfl (by (try simp only [List.map_toArray, List.map_cons, List.map_nil]); first | done | rfl | (simp only [List.length_drop, List.length_take]; rfl)) ?_; (with_reducible refine (record_one.calls ((rd_T32 l0 x9_1).f0) ((rd_T32 l0 x9_1).f1) ((rd_T32 l0 x9_1).f2) t105 _ A7.out).mono ?_); rintro e w13 ⟨v106, rfl, ho0, hb⟩; refine ⟨_, rfl, ?_⟩; have n0_ := Aside0.mk (Kd.R_elder' (by (with_reducible repeat (first | apply Kd.R_alloc | apply Kd.R_drewN | apply Kd.R_drew)); exact HO_4.out) (Kd.R_base ho0) hb); have n1_ := Aside0.mk (Kd.R_lower (Kd.R_new' ho0 (Kd.R_lt (by (with_reducible repeat (first | apply Kd.R_alloc | apply Kd.R_drewN | apply Kd.R_drew)); exact HO_4.out))) (below_size (by repeat (first | (with_reducible first | exact HB.out | apply below_alloc | apply pw_below_drewN | apply below_drew1 | refine below_set ?_ GE103.out) | exact HB.out)))); have n2_ := Aside0.mk (blk_below (g := gb103) (o := .cells #[.int .i64 ((rd_T32 l0 x9_1).f0), .int .i64 ((rd_T32 l0 x9_1).f1), .string ((rd_T32 l0 x9_1).f2)] 32 (0, 0)) (by (with_reducible repeat (first | refine blk_drewN ?_ _ | refine blk_drew ?_ | refine blk_alloc ?_ _)); exact BK103.out) hb); have n3_ := Aside0.mk (below_step (by repeat (first | (with_reducible first | exact HB.out | apply below_alloc | apply pw_below_drewN | apply below_drew1 | refine below_set ?_ GE103.out) | exact HB.out)) hb); clear HO_4; clear BK103; clear HB; have HO_4 := n0_; have HO107 := n1_; have BK103 := n2_; have HB := n3_; clear n0_ n1_ n2_ n3_; (try clear hb); (try clear hb2); (try clear hk); (try clear hi); (try clear ho0); obtain ⟨Ao15, co15, eo15⟩ := Kd.R_slice HO107.out; subst eo15) | ((with_reducible refine gate_builtin (b := .append) (xs := #[.tmp 16, .tmp 18]) rfl ?_); at_builtin; refine Kd.R_append_rows (Kd.int .u8) (w0 := w) w.heap.size rfl (.tmp 16) (.tmp 18) 24 5 (.int .u8 0) 1 rfl Try.underlying24 info5 rfl (by decide) (by omega) u4 x4_1 t105 _ _ _ (fun k_ => some k_ ≠ (.slice Ao15 t105.length co15 : Value).ownBlock) (fun _ => False) rfl rfl ?aO ?aR (fun _ _ h => h) (fun _ h => h.elim) ?aF ?aB ?aS ?aL ?_; (case aR => repeat (first | exact (Kd.R_reads' HO107.out).2.2 | (with_reducible refine Kd.C_alloc ?_ _) | (with_reducible refine Kd.C_drewN ?_ _) | (with_reducible refine Kd.C_drew ?_))); (case aB => exact (by repeat (first | (with_reducible first | exact HB.out | apply below_alloc | apply pw_below_drewN | apply below_drew1 | refine below_set ?_ GE103.out) | exact HB.out))); (case aF => exact (fun k_ hk => Kd.fresh' (Kd.R_lt (by (with_reducible repeat (first | apply Kd.R_alloc | apply Kd.R_drewN | apply Kd.R_drew)); exact HO107.out)) k_ hk)); (case aO => exact (by (with_reducible repeat (first | apply Kd.R_alloc | apply Kd.R_drewN | apply Kd.R_drew)); exact Kd.R_mono HO_4.out (fun _ hk => hk.2))); (case aS => exact (below_size (by repeat (first | (with_reducible first | exact HB.out | apply below_alloc | apply pw_below_drewN | apply below_drew1 | refine below_set ?_ GE103.out) | exact HB.out)))); (case aL => have := LMc8.out; omega); intro v109 w14 ho hb hg hat; rw [← Ny108.out] at ho; have n0_ := Aside0.mk (blk_grown (g := gb103) (o := .cells #[.int .i64 ((rd_T32 l0 x9_1).f0), .int .i64 ((rd_T32 l0 x9_1).f1), .string ((rd_T32 l0 x9_1).f2)] 32 (0, 0)) (by (with_reducible repeat (first | refine blk_drewN ?_ _ | refine blk_drew ?_ | refine blk_alloc ?_ _)); exact BK103.out) hg (Kd.R_ne HO_4.out BK103.out (by decide))); have n1_ := Aside0.mk (Kd.R_after (ok := (fun _ => True)) (by (with_reducible repeat (first | apply Kd.R_alloc | apply Kd.R_drewN | apply Kd.R_drew)); exact HO107.out) hg hat); have n2_ := Aside0.mk (hb); have n3_ := Aside0.mk (ho); clear BK103; clear HO107; clear HB; clear HO_4; have BK103 := n0_; have HO107 := n1_; have HB := n2_; have HO110 := n3_; clear n0_ n1_ n2_ n3_; clear ho hb hg hat))
                go_roundg k1
                case measure => have := HK1.out; omega
                case rel => exact ⟨(y108), (wrap64 (x9_1 + 1)), (by first | rfl | (simp; done) | (simp [*]; done)), H', ⟨by have := HK1.out; omega⟩, ⟨by (with_reducible repeat (first | apply Kd.R_alloc | apply Kd.R_drewN | apply Kd.R_drew)); exact Kd.R_mono HO110.out (fun _ hk => trivial)⟩, ⟨by repeat (first | (with_reducible first | exact HB.out | apply below_alloc | apply pw_below_drewN | apply below_drew1 | refine below_set ?_ GE103.out) | exact HB.out)⟩⟩
              · rw [if_neg c8] at H
                exact absurd H (by simp)
            · replace c6 := Bool.eq_false_iff.mpr c6
              subst c6
              have H1 : (some (([] : List Int), 1)) = some (r1, r2) := by rw [if_neg (show ¬ (false = true) by decide)] at H; exact H
              clear H
              have H := H1
              clear H1
              simp only [Option.some.injEq, Prod.mk.injEq] at H
              obtain ⟨rfl, rfl⟩ := H
              have p102 : 0 ≤ (x9_1 : Int) := of_decide_eq_true (by first | (with_reducible assumption) | assumption)
              have q102 : x9_1 < (l0.length : Int) := of_decide_eq_true (by first | (with_reducible assumption) | assumption)
              obtain ⟨ad102, e102, hx102_0, hx102_1, hx102_2⟩ := at_T32 HR0.out x9_1 p102 q102
              cases e102
              replace hx102_0 := (HB.out.cell (World.block_lt_of_cell? w _ hx102_0)).trans hx102_0
              replace hx102_1 := (HB.out.cell (World.block_lt_of_cell? w _ hx102_1)).trans hx102_1
              replace hx102_2 := (HB.out.cell (World.block_lt_of_cell? w _ hx102_2)).trans hx102_2
              replace p102 := eq_true p102
              replace q102 := eq_true q102
              go_wp2_with (first | ((with_reducible refine gate_dst (N := 6) rfl ?_); refine box_event ?hg (N := 6) ?hd (cs := #[.int .i64 0, .int .i64 0, .string (⟨#[]⟩ : ByteArray)]) (t := 32) ?hr ?_; (case hd => rfl); (case hg => rfl); (case hr => first | (go_simp; done) | (go_simp; rfl)); intro gb103 hg w16 hbox hb; have n0_ := Aside0.mk (Kd.R_below (by (with_reducible repeat (first | apply Kd.R_alloc | apply Kd.R_drewN | apply Kd.R_drew)); exact HO_4.out) hb); have n1_ := Aside0.mk (below_step (by repeat (first | (with_reducible first | exact HB.out | apply below_alloc | apply pw_below_drewN | apply below_drew1) | exact HB.out)) hb); have n2_ := Aside0.mk (hbox); have n3_ := Aside0.mk ((by rw [hg]; exact (below_size (by repeat (first | (with_reducible first | exact HB.out | apply below_alloc | apply pw_below_drewN | apply below_drew1) | exact HB.out))) : w.heap.size ≤ gb103)); have n4_ := Aside0.mk ((by rw [hg]; exact (below_size (by repeat (first | (with_reducible first | exact HB.out | apply below_alloc | apply pw_below_drewN | apply below_drew1) | exact HB.out))) : w.heap.size ≤ gb103)); clear HO_4; clear HB; have HO_4 := n0_; have HB := n1_; have BK103 := n2_; have GW103 := n3_; have GE103 := n4_; clear n0_ n1_ n2_ n3_ n4_; clear hb hbox hg; have hcz17_0 : w16.cell? ⟨gb103, 0, none⟩ = some (.int .i64 0) := (blk_cell BK103.out 0).trans rfl; have hcz17_1 : w16.cell? ⟨gb103, 1, none⟩ = some (.int .i64 0) := (blk_cell BK103.out 1).trans rfl; have hcz17_2 : w16.cell? ⟨gb103, 2, none⟩ = some (.string (⟨#[]⟩ : ByteArray)) := (blk_cell BK103.out 2).trans rfl; have hfz17_0 := blk_frozen BK103.out 0; have hfz17_1 := blk_frozen BK103.out 1; have hfz17_2 := blk_frozen BK103.out 2) | ((with_reducible refine gate_callee (f := 15) rfl ?_); refine goesL_ (some 14) rfl rfl Try.func15 (by kernel_rfl) rfl #[.agg #[.int .i64 ((rd_T32 l0 x9_1).f0), .int .i64 ((rd_T32 l0 x9_1).f1), .string ((rd_T32 l0 x9_1).f2)]] rfl (by (try simp only [List.map_toArray, List.map_cons, List.map_nil]); first | done | rfl | (simp only [List.length_drop, List.length_take]; rfl)) ?_; (with_reducible refine (record_May.calls ((rd_T32 l0 x9_1).f0) ((rd_T32 l0 x9_1).f1) ((rd_T32 l0 x9_1).f2) false _ A5.out).mono ?_); rintro e w18 ⟨rfl, hb⟩; refine ⟨_, rfl, ?_⟩; have n0_ := Aside0.mk (Kd.R_below (by (with_reducible repeat (first | apply Kd.R_alloc | apply Kd.R_drewN | apply Kd.R_drew)); exact (Kd.R_mono (Kd.R_far (p := ⟨gb103, 2, none⟩) (Kd.R_far (p := ⟨gb103, 1, none⟩) (Kd.R_far (p := ⟨gb103, 0, none⟩) (Kd.R_types HO_4.out BK103.out (by decide)) (fun _ hk => hk.2) (.int .i64 ((rd_T32 l0 x9_1).f0))) (fun _ hk => hk.2) (.int .i64 ((rd_T32 l0 x9_1).f1))) (fun _ hk => hk.2) (.string ((rd_T32 l0 x9_1).f2))) (fun _ h_ => h_.1))) hb); have n1_ := Aside0.mk (blk_below (g := gb103) (o := .cells #[.int .i64 ((rd_T32 l0 x9_1).f0), .int .i64 ((rd_T32 l0 x9_1).f1), .string ((rd_T32 l0 x9_1).f2)] 32 (0, 0)) (by (with_reducible repeat (first | refine blk_drewN ?_ _ | refine blk_drew ?_ | refine blk_alloc ?_ _)); refine blk_put (cs := #[.int .i64 ((rd_T32 l0 x9_1).f0), .int .i64 ((rd_T32 l0 x9_1).f1), .string (⟨#[]⟩ : ByteArray)]) ?_ 2 _ rfl; (with_reducible repeat (first | refine blk_drewN ?_ _ | refine blk_drew ?_ | refine blk_alloc ?_ _)); refine blk_put (cs := #[.int .i64 ((rd_T32 l0 x9_1).f0), .int .i64 0, .string (⟨#[]⟩ : ByteArray)]) ?_ 1 _ rfl; (with_reducible repeat (first | refine blk_drewN ?_ _ | refine blk_drew ?_ | refine blk_alloc ?_ _)); refine blk_put (cs := #[.int .i64 0, .int .i64 0, .string (⟨#[]⟩ : ByteArray)]) ?_ 0 _ rfl; (with_reducible repeat (first | refine blk_drewN ?_ _ | refine blk_drew ?_ | refine blk_alloc ?_ _)); exact BK103.out) hb); have n2_ := Aside0.mk (below_step (by repeat (first | (with_reducible first | exact HB.out | apply below_alloc | apply pw_below_drewN | apply below_drew1 | refine below_set ?_ GE103.out) | exact HB.out)) hb); clear HO_4; clear BK103; clear HB; have HO_4 := n0_; have BK103 := n1_; have HB := n2_; clear n0_ n1_ n2_; (try clear hb); (try clear hb2); (try clear hk); (try clear hi)))
              go_ret2
              exact ⟨_, by first | rfl | (simp [errW_none, errW_some] <;> rfl) | (simp [*, errW_none, errW_some] <;> rfl), by first | exact Kd.R_nil _ _ _ _ _ | exact Kd.N_nil _ _ _ _ _ | exact Kd.V_nil _ _ _ _ _ | exact Kd.Q_nil _ _ _ _ _ | exact Kd.S_nil _ _ _ _ _, by repeat (first | (with_reducible first | exact HB.out | apply below_alloc | apply pw_below_drewN | apply below_drew1 | refine below_set ?_ GE103.out) | exact HB.out)⟩
          · rw [if_neg c4] at H
            exact absurd H (by simp)
        · rw [if_neg c3] at H
          exact absurd H (by simp)
      · rw [if_neg c2] at H
        have c2b0 : decide (x9_1 < (l0.length : Int)) = false := decide_eq_false c2
        clear c2
        simp only [Option.some.injEq, Prod.mk.injEq] at H
        obtain ⟨rfl, rfl⟩ := H
        go_wp2
        go_ret2
        exact ⟨_, by first | rfl | (simp [errW_none, errW_some] <;> rfl) | (simp [*, errW_none, errW_some] <;> rfl), by (with_reducible repeat (first | apply Kd.R_alloc | apply Kd.R_drewN | apply Kd.R_drew)); exact HO_4.out, by repeat (first | (with_reducible first | exact HB.out | apply below_alloc | apply pw_below_drewN | apply below_drew1) | exact HB.out)⟩

-- NOT PRINTED: function 29 (record_writer_byte)

-- NOT PRINTED: function 30 (record_writer_number)

/-! ### record_Sum: function 20 -/
mutual
def record_Sum.l0 : Nat → Int → List (List Int) → Int → Int → Option (Int)
  | 0, _, _, _, _ => none
  | k + 1, x3, x8, x9, x10 => if x10 < x9 then (if 0 ≤ x10 then (if x10 < (x8.length : Int) then (record_Sum.l1 k x3 x8 x9 x10 (rd_L4 x8 x10) ((rd_L4 x8 x10).length : Int) 0) else (none)) else (none)) else (some (Go.bits .xor .u32 (-1) x3))
def record_Sum.l1 : Nat → Int → List (List Int) → Int → Int → List Int → Int → Int → Option (Int)
  | 0, _, _, _, _, _, _, _ => none
  | k + 1, x3, x8, x9, x10, x14, x15, x16 => if x16 < x15 then (if 0 ≤ x16 then (if x16 < (x14.length : Int) then (record_Sum.l2 k (Go.bits .xor .u32 x3 ((rd x14 x16) % 4294967296)) x8 x9 x10 x14 x15 x16 0) else (none)) else (none)) else (record_Sum.l0 k x3 x8 x9 (wrap64 (x10 + 1)))
def record_Sum.l2 : Nat → Int → List (List Int) → Int → Int → List Int → Int → Int → Int → Option (Int)
  | 0, _, _, _, _, _, _, _, _ => none
  | k + 1, x3, x8, x9, x10, x14, x15, x16, x24 => if x24 < 8 then (record_Sum.l2 k (Go.bits .xor .u32 (x3 / 2) (Go.bits .and .u32 3988292384 ((-(Go.bits .and .u32 x3 1)) % 4294967296))) x8 x9 x10 x14 x15 x16 (wrap64 (x24 + 1))) else (record_Sum.l1 k x3 x8 x9 x10 x14 x15 (wrap64 (x16 + 1)))
end
def record_Sum.f (k : Nat) (l0 : List (List Int)) : Option (Int) := record_Sum.l0 k 4294967295 l0 (l0.length : Int) 0
theorem record_Sum.mono_l : ∀ k, (∀ y0 y1 y2 y3, LeO (record_Sum.l0 k y0 y1 y2 y3) (record_Sum.l0 (k + 1) y0 y1 y2 y3)) ∧ (∀ y0 y1 y2 y3 y4 y5 y6, LeO (record_Sum.l1 k y0 y1 y2 y3 y4 y5 y6) (record_Sum.l1 (k + 1) y0 y1 y2 y3 y4 y5 y6)) ∧ (∀ y0 y1 y2 y3 y4 y5 y6 y7, LeO (record_Sum.l2 k y0 y1 y2 y3 y4 y5 y6 y7) (record_Sum.l2 (k + 1) y0 y1 y2 y3 y4 y5 y6 y7))
  | 0 => ⟨fun _ _ _ _ r h => by simp [record_Sum.l0] at h, fun _ _ _ _ _ _ _ r h => by simp [record_Sum.l1] at h, fun _ _ _ _ _ _ _ _ r h => by simp [record_Sum.l2] at h⟩
  | k + 1 => by
    obtain ⟨ih0, ih1, ih2⟩ := record_Sum.mono_l k
    refine ⟨?_, ?_, ?_⟩
    · intro y0 y1 y2 y3
      unfold record_Sum.l0
      repeat' first
      | (with_reducible exact ih0 _ _ _ _)
      | (with_reducible exact ih1 _ _ _ _ _ _ _)
      | (with_reducible exact ih2 _ _ _ _ _ _ _ _)
      | (with_reducible exact LeO.refl _)
      | (with_reducible exact LeO.none _)
      | (with_reducible refine LeO.ite ?_ ?_)
      | (with_reducible refine LeO.bind ?_ (fun _ => ?_))
      | exact ih0 _ _ _ _
      | exact ih1 _ _ _ _ _ _ _
      | exact ih2 _ _ _ _ _ _ _ _
      | exact LeO.none _
      | refine LeO.ite ?_ ?_
      | refine LeO.bind ?_ (fun _ => ?_)
    · intro y0 y1 y2 y3 y4 y5 y6
      unfold record_Sum.l1
      repeat' first
      | (with_reducible exact ih0 _ _ _ _)
      | (with_reducible exact ih1 _ _ _ _ _ _ _)
      | (with_reducible exact ih2 _ _ _ _ _ _ _ _)
      | (with_reducible exact LeO.refl _)
      | (with_reducible exact LeO.none _)
      | (with_reducible refine LeO.ite ?_ ?_)
      | (with_reducible refine LeO.bind ?_ (fun _ => ?_))
      | exact ih0 _ _ _ _
      | exact ih1 _ _ _ _ _ _ _
      | exact ih2 _ _ _ _ _ _ _ _
      | exact LeO.none _
      | refine LeO.ite ?_ ?_
      | refine LeO.bind ?_ (fun _ => ?_)
    · intro y0 y1 y2 y3 y4 y5 y6 y7
      unfold record_Sum.l2
      repeat' first
      | (with_reducible exact ih0 _ _ _ _)
      | (with_reducible exact ih1 _ _ _ _ _ _ _)
      | (with_reducible exact ih2 _ _ _ _ _ _ _ _)
      | (with_reducible exact LeO.refl _)
      | (with_reducible exact LeO.none _)
      | (with_reducible refine LeO.ite ?_ ?_)
      | (with_reducible refine LeO.bind ?_ (fun _ => ?_))
      | exact ih0 _ _ _ _
      | exact ih1 _ _ _ _ _ _ _
      | exact ih2 _ _ _ _ _ _ _ _
      | exact LeO.none _
      | refine LeO.ite ?_ ?_
      | refine LeO.bind ?_ (fun _ => ?_)
theorem record_Sum.mono : ∀ a0 k, LeO (record_Sum.f k a0) (record_Sum.f (k + 1) a0) := by
  intro a0 k
  obtain ⟨ih0, ih1, ih2⟩ := record_Sum.mono_l k
  unfold record_Sum.f
  repeat' first
      | (with_reducible exact ih0 _ _ _ _)
      | (with_reducible exact ih1 _ _ _ _ _ _ _)
      | (with_reducible exact ih2 _ _ _ _ _ _ _ _)
      | (with_reducible exact LeO.refl _)
      | (with_reducible exact LeO.none _)
      | (with_reducible refine LeO.ite ?_ ?_)
      | (with_reducible refine LeO.bind ?_ (fun _ => ?_))
      | exact ih0 _ _ _ _
      | exact ih1 _ _ _ _ _ _ _
      | exact ih2 _ _ _ _ _ _ _ _
      | exact LeO.none _
      | refine LeO.ite ?_ ?_
      | refine LeO.bind ?_ (fun _ => ?_)
set_option maxHeartbeats 8000000 in
set_option maxRecDepth 100000 in
theorem record_Sum.calls (k : Nat) (A0 : Option Addr) (c0 : Nat) (l0 : List (List Int)) (r : Int) (w : World) (hr0 : Kd.C (Kd.slice 5 (Kd.int .u8)) w A0 l0.length l0) (hc0 : l0.length ≤ c0) (h : record_Sum.f k l0 = some r) :
    Calls Try.prog 20 #[.slice A0 l0.length c0] w fun e w' => e = .returned (.int .u32 r) ∧ Drawn0 w w' := by
  have HR0 := Aside0.mk hr0
  have HC0 := Aside0.mk hc0
  clear hr0 hc0
  have H : (record_Sum.l0 k 4294967295 l0 (l0.length : Int) 0) = some r := h
  clear h
  have H' := Aside0.mk H
  clear H
  go_enter Try.func20, Try.ntmps20
  go_wp2
  go_loopg [3, 10] k (fun kq v3 v10 w' => ∃ (x3_1 : Int) (x10_1 : Int), v3 = .int .u32 x3_1 ∧ v10 = .int .i64 x10_1 ∧ Aside0 (record_Sum.l0 kq x3_1 l0 (l0.length : Int) x10_1 = some r) ∧ Aside0 (kq ≤ k) ∧ Drawn0 w w')
  case atStart => exact ⟨(4294967295), (0), (by first | rfl | (simp; done) | (simp [*]; done)), (by first | rfl | (simp; done) | (simp [*]; done)), H', ⟨Nat.le_refl _⟩, by repeat (first | exact Drawn0.refl _ | apply Drawn0.step)⟩
  case round =>
    clear H'
    obtain ⟨x3_1, x10_1, rfl, rfl, HA, HK1, ⟨m1, rfl⟩⟩ := hrel
    cases gk with
    | zero => exact absurd HA.out (by simp [record_Sum.l0])
    | succ k1 =>
      have H := HA.out
      clear HA
      simp only [record_Sum.l0] at H
      by_cases c2 : x10_1 < (l0.length : Int)
      · rw [if_pos c2] at H
        have c2b0 : decide (x10_1 < (l0.length : Int)) = true := decide_eq_true c2
        clear c2
        by_cases c3 : 0 ≤ x10_1
        · rw [if_pos c3] at H
          have c3b0 : decide (0 ≤ x10_1) = true := decide_eq_true c3
          clear c3
          by_cases c4 : x10_1 < (l0.length : Int)
          · rw [if_pos c4] at H
            have c4b0 : decide (x10_1 < (l0.length : Int)) = true := decide_eq_true c4
            clear c4
            have H' := Aside0.mk H
            clear H
            have p111 : 0 ≤ (x10_1 : Int) := of_decide_eq_true (by first | (with_reducible assumption) | assumption)
            have q111 : x10_1 < (l0.length : Int) := of_decide_eq_true (by first | (with_reducible assumption) | assumption)
            obtain ⟨ad111, A111_0, c111_0, e111, hx111_0, hl111_0, hi111_0⟩ := at_L4 HR0.out x10_1 p111 q111
            cases e111
            have HR111_0 := Aside0.mk hi111_0
            have HC111_0 := Aside0.mk hl111_0
            clear hi111_0 hl111_0
            replace p111 := eq_true p111
            replace q111 := eq_true q111
            go_wp2
            go_loopg [3, 16] k1 (fun kq v3 v16 w' => ∃ (x3_2 : Int) (x16_2 : Int), v3 = .int .u32 x3_2 ∧ v16 = .int .i64 x16_2 ∧ Aside0 (record_Sum.l1 kq x3_2 l0 (l0.length : Int) x10_1 (rd_L4 l0 x10_1) ((rd_L4 l0 x10_1).length : Int) x16_2 = some r) ∧ Aside0 (kq ≤ k1) ∧ Drawn0 w w')
            case atStart => exact ⟨(x3_1), (0), (by first | rfl | (simp; done) | (simp [*]; done)), (by first | rfl | (simp; done) | (simp [*]; done)), H', ⟨Nat.le_refl _⟩, by repeat (first | exact Drawn0.refl _ | apply Drawn0.step)⟩
            case round =>
              clear H'
              try clear c1
              try clear p1
              try clear q1
              try clear hx1
              try clear c2
              try clear c2b0
              try clear p2
              try clear c3
              try clear c3b0
              try clear c4
              try clear c4b0
              try clear hx111_0
              try clear p111
              try clear q111
              obtain ⟨x3_2, x16_2, rfl, rfl, HA, HK2, ⟨m2, rfl⟩⟩ := hrel
              cases gk with
              | zero => exact absurd HA.out (by simp [record_Sum.l1])
              | succ k2 =>
                have H := HA.out
                clear HA
                simp only [record_Sum.l1] at H
                by_cases c5 : x16_2 < ((rd_L4 l0 x10_1).length : Int)
                · rw [if_pos c5] at H
                  have c5b0 : decide (x16_2 < ((rd_L4 l0 x10_1).length : Int)) = true := decide_eq_true c5
                  clear c5
                  by_cases c6 : 0 ≤ x16_2
                  · rw [if_pos c6] at H
                    have c6b0 : decide (0 ≤ x16_2) = true := decide_eq_true c6
                    clear c6
                    by_cases c7 : x16_2 < ((rd_L4 l0 x10_1).length : Int)
                    · rw [if_pos c7] at H
                      have c7b0 : decide (x16_2 < ((rd_L4 l0 x10_1).length : Int)) = true := decide_eq_true c7
                      clear c7
                      have H' := Aside0.mk H
                      clear H
                      have p112 : 0 ≤ (x16_2 : Int) := of_decide_eq_true (by first | (with_reducible assumption) | assumption)
                      have q112 : x16_2 < ((rd_L4 l0 x10_1).length : Int) := of_decide_eq_true (by first | (with_reducible assumption) | assumption)
                      obtain ⟨ad112, e112, hx112_0⟩ := Kd.at_int HR111_0.out x16_2 p112 q112
                      cases e112
                      replace p112 := eq_true p112
                      replace q112 := eq_true q112
                      go_wp2
                      go_loopg [3, 24] k2 (fun kq v3 v24 w' => ∃ (x3_3 : Int) (x24_3 : Int), v3 = .int .u32 x3_3 ∧ v24 = .int .i64 x24_3 ∧ Aside0 (record_Sum.l2 kq x3_3 l0 (l0.length : Int) x10_1 (rd_L4 l0 x10_1) ((rd_L4 l0 x10_1).length : Int) x16_2 x24_3 = some r) ∧ Aside0 (kq ≤ k2) ∧ Drawn0 w w')
                      case atStart => exact ⟨(Go.bits .xor .u32 x3_2 ((rd (rd_L4 l0 x10_1) x16_2) % 4294967296)), (0), (by first | rfl | (simp; done) | (simp [*]; done)), (by first | rfl | (simp; done) | (simp [*]; done)), H', ⟨Nat.le_refl _⟩, by repeat (first | exact Drawn0.refl _ | apply Drawn0.step)⟩
                      case round =>
                        clear H'
                        try clear c1
                        try clear p1
                        try clear q1
                        try clear hx1
                        try clear c2
                        try clear c2b0
                        try clear p2
                        try clear c3
                        try clear c3b0
                        try clear c4
                        try clear c4b0
                        try clear c5
                        try clear c5b0
                        try clear c6
                        try clear c6b0
                        try clear c7
                        try clear c7b0
                        try clear hx111_0
                        try clear hx112_0
                        try clear p1
                        try clear p111
                        try clear p112
                        try clear p2
                        try clear q1
                        try clear q111
                        try clear q112
                        obtain ⟨x3_3, x24_3, rfl, rfl, HA, HK3, ⟨m3, rfl⟩⟩ := hrel
                        cases gk with
                        | zero => exact absurd HA.out (by simp [record_Sum.l2])
                        | succ k3 =>
                          have H := HA.out
                          clear HA
                          simp only [record_Sum.l2] at H
                          by_cases c8 : x24_3 < 8
                          · rw [if_pos c8] at H
                            have c8b0 : decide (x24_3 < 8) = true := decide_eq_true c8
                            clear c8
                            have H' := Aside0.mk H
                            clear H
                            go_wp2
                            go_roundg k3
                            case measure => have := HK1.out; have := HK2.out; have := HK3.out; omega
                            case rel => exact ⟨(Go.bits .xor .u32 (x3_3 / 2) (Go.bits .and .u32 3988292384 ((-(Go.bits .and .u32 x3_3 1)) % 4294967296))), (wrap64 (x24_3 + 1)), (by first | rfl | (simp; done) | (simp [*]; done)), (by first | rfl | (simp; done) | (simp [*]; done)), H', ⟨by have := HK1.out; have := HK2.out; have := HK3.out; omega⟩, by repeat (first | exact Drawn0.refl _ | apply Drawn0.step)⟩
                          · rw [if_neg c8] at H
                            have c8b0 : decide (x24_3 < 8) = false := decide_eq_false c8
                            clear c8
                            have H' := Aside0.mk H
                            clear H
                            go_wp2
                            go_roundg k3
                            case measure => have := HK1.out; have := HK2.out; have := HK3.out; omega
                            case rel => exact ⟨(x3_3), (wrap64 (x16_2 + 1)), (by first | rfl | (simp; done) | (simp [*]; done)), (by first | rfl | (simp; done) | (simp [*]; done)), H', ⟨by have := HK1.out; have := HK2.out; have := HK3.out; omega⟩, by repeat (first | exact Drawn0.refl _ | apply Drawn0.step)⟩
                    · rw [if_neg c7] at H
                      exact absurd H (by simp)
                  · rw [if_neg c6] at H
                    exact absurd H (by simp)
                · rw [if_neg c5] at H
                  have c5b0 : decide (x16_2 < ((rd_L4 l0 x10_1).length : Int)) = false := decide_eq_false c5
                  clear c5
                  have H' := Aside0.mk H
                  clear H
                  go_wp2
                  go_roundg k2
                  case measure => have := HK1.out; have := HK2.out; omega
                  case rel => exact ⟨(x3_2), (wrap64 (x10_1 + 1)), (by first | rfl | (simp; done) | (simp [*]; done)), (by first | rfl | (simp; done) | (simp [*]; done)), H', ⟨by have := HK1.out; have := HK2.out; omega⟩, by repeat (first | exact Drawn0.refl _ | apply Drawn0.step)⟩
          · rw [if_neg c4] at H
            exact absurd H (by simp)
        · rw [if_neg c3] at H
          exact absurd H (by simp)
      · rw [if_neg c2] at H
        have c2b0 : decide (x10_1 < (l0.length : Int)) = false := decide_eq_false c2
        clear c2
        obtain rfl := Option.some.inj H
        go_wp2
        go_ret
        exact ⟨by first | rfl | (simp; done) | (simp [*]; done), by repeat (first | exact Drawn0.refl _ | apply Drawn0.step)⟩

-- NOT PRINTED: function 31 (record_writer_sealed)

/-! ### record_Head: function 12 -/
theorem bytes_R {w : World} {base : Nat} {v : Value} {l : List Int} (h : w.ownsRow base 5 1 v l.length (Ext.bytesV l)) : Kd.R (Kd.int .u8) 5 w base (fun _ => True) v l :=
  Kd.R_of_own (enc := Value.int .u8) (h1 := fun _ => rfl) h (fun _ _ => trivial)
def record_Head.f (a0 : Int) : Option (List Int × Int) := if 1 ≤ a0 ∧ a0 ≤ 1099511627777 then some (Ext.sealB (Ext.headB a0.toNat), 0) else some ([], 2)
theorem record_Head.calls (a0 : Int) (r1 : List Int) (r2 : Int) (w : World) (h : record_Head.f a0 = some (r1, r2)) :
    Calls Try.prog 12 #[.int .i64 a0] w fun e w' => ∃ v0_ : Value, e = .returned (.tuple #[v0_, .int .i64 r2]) ∧ Kd.R (Kd.int .u8) 5 w' w.heap.size (fun _ => True) v0_ r1 ∧ Below w.heap.size w w' := by
  unfold record_Head.f at h
  split at h
  · rename_i hb
    obtain ⟨n, rfl⟩ := Int.eq_ofNat_of_zero_le (show 0 ≤ a0 by omega)
    simp only [Option.some.injEq, Prod.mk.injEq, Int.toNat_natCast] at h
    obtain ⟨rfl, rfl⟩ := h
    refine (Ext.head_yes n w (by omega) (by omega)).mono ?_
    rintro e w' ⟨v', he, ho, hb⟩
    exact ⟨v', he, bytes_R ho, hb⟩
  · rename_i hb
    simp only [Option.some.injEq, Prod.mk.injEq] at h
    obtain ⟨rfl, rfl⟩ := h
    refine (Ext.head_no a0 w (by omega)).mono ?_
    rintro e w' ⟨he, rfl⟩
    exact ⟨_, he, Kd.R_nil _ _ _ _ _, Below.refl _ _⟩

-- NOT PRINTED: function 34 (record_reader_byte)

-- NOT PRINTED: function 35 (record_reader_take)

-- NOT PRINTED: function 36 (record_reader_number)

-- NOT PRINTED: function 37 (record_reader_sum)

/-! ### record_Decode: function 22 -/
def record_Decode.f (l0 : List Int) : Option (Int × Int × ByteArray × Int × Int) := if isB l0 ∧ l0.length ≤ 1099511627776 then some ((Ext.decF l0).1.1, (Ext.decF l0).1.2.1, (Ext.decF l0).1.2.2, (Ext.decF l0).2.1, (Ext.decF l0).2.2) else none
theorem record_Decode.calls (A0 : Option Addr) (c0 : Nat) (l0 : List Int) (r1 : Int) (r2 : Int) (r3 : ByteArray) (r4 : Int) (r5 : Int) (w : World) (hr0 : Kd.C (Kd.int .u8) w A0 l0.length l0) (hc0 : l0.length ≤ c0) (h : record_Decode.f l0 = some (r1, r2, r3, r4, r5)) :
    Calls Try.prog 22 #[.slice A0 l0.length c0] w fun e w' => e = .returned (.tuple #[.agg #[.int .i64 r1, .int .i64 r2, .string r3], .int .i64 r4, .int .i64 r5]) ∧ Below w.heap.size w w' := by
  unfold record_Decode.f at h
  split at h
  · rename_i hb
    simp only [Option.some.injEq, Prod.mk.injEq] at h
    obtain ⟨rfl, rfl, rfl, rfl, rfl⟩ := h
    exact (Ext.decode_any A0 c0 l0 w hr0 hb.1 hc0 hb.2).mono fun e w' h => h
  · cases h

/-! ### record_Scan: function 24 -/
def numS (b : List Int) : Int × Nat × Bool := Ext.numF b 7 0 0 (Ext.rdB b 0 true).2.1 (Ext.rdB b 0 true).2.2
def sumF' (b : List Int) : Nat × Bool := Ext.sumF b (crcN (b.take (numS b).2.1)) 4 (numS b).2.1 (numS b).2.2
def record_Scan.l0 : Nat → List Int → Int → List (S32) → Int → Option (Int × (List (S32)) × Int × Int)
  | 0, _, _, _, _ => none
  | k + 1, x0, x6, x11, x12 => if 0 ≤ x12 then (if x12 ≤ (x0.length : Int) then ((record_Decode.f (x0.drop (x12 : Int).toNat)).bind fun bt270 => (if bt270.2.2.2.2 = 0 then (if x11.length < 4398046511104 then (record_Scan.l0 k x0 x6 (x11 ++ [(⟨bt270.1, bt270.2.1, bt270.2.2.1⟩ : S32)]) (wrap64 (x12 + bt270.2.2.2.1))) else (none)) else (some (x6, x11, x12, 0)))) else (none)) else (none)
def record_Scan.f (k : Nat) (l0 : List Int) : Option (Int × (List (S32)) × Int × Int) :=
  if isB l0 ∧ l0.length ≤ 1099511627776 then
    if (sumF' l0).2 = true ∧ (Ext.rdB l0 0 true).1 = 72 ∧ 1 ≤ (numS l0).1 ∧ (numS l0).1 ≤ 1099511627777 then record_Scan.l0 k l0 (numS l0).1 ([] : List S32) ((sumF' l0).1 : Int) else some (0, ([] : List S32), 0, 31)
  else none
theorem record_Scan.mono_l : ∀ k y0 y1 y2 y3, LeO (record_Scan.l0 k y0 y1 y2 y3) (record_Scan.l0 (k + 1) y0 y1 y2 y3)
  | 0 => fun _ _ _ _ r h => by simp [record_Scan.l0] at h
  | k + 1 => by
    have ih0 := record_Scan.mono_l k
    intro y0 y1 y2 y3
    unfold record_Scan.l0
    repeat' first
      | (with_reducible exact ih0 _ _ _ _)
      | (with_reducible exact LeO.refl _)
      | (with_reducible exact LeO.none _)
      | (with_reducible refine LeO.ite ?_ ?_)
      | (with_reducible refine LeO.bind ?_ (fun _ => ?_))
      | exact ih0 _ _ _ _
      | exact LeO.none _
      | refine LeO.ite ?_ ?_
      | refine LeO.bind ?_ (fun _ => ?_)
theorem record_Scan.mono : ∀ a0 k, LeO (record_Scan.f k a0) (record_Scan.f (k + 1) a0) := by
  intro a0 k
  unfold record_Scan.f
  exact LeO.ite (LeO.ite (record_Scan.mono_l k _ _ _ _) (LeO.refl _)) (LeO.none _)
set_option maxHeartbeats 8000000 in
set_option maxRecDepth 100000 in
theorem record_Scan.calls (k : Nat) (A0 : Option Addr) (c0 : Nat) (l0 : List Int) (r1 : Int) (r2 : List (S32)) (r3 : Int) (r4 : Int) (w : World) (hr0 : Kd.C (Kd.int .u8) w A0 l0.length l0) (hc0 : l0.length ≤ c0) (h : record_Scan.f k l0 = some (r1, r2, r3, r4)) :
    Calls Try.prog 24 #[.slice A0 l0.length c0] w fun e w' => ∃ v1_ : Value, e = .returned (.tuple #[.int .i64 r1, v1_, .int .i64 r3, .int .i64 r4]) ∧ Kd.R k32 32 w' w.heap.size (fun _ => True) v1_ r2 ∧ Below w.heap.size w w' := by
  unfold record_Scan.f at h
  split at h
  case isFalse => cases h
  case isTrue hbl =>
  obtain ⟨hB, hl⟩ := hbl
  have hu32 := Try.underlying32
  have HR0 := Aside0.mk hr0
  have HC0 := Aside0.mk hc0
  have HI := Aside0.mk hB
  have HLA := Aside0.mk (fun ad (h : A0 = some ad) (hn : 0 < l0.length) => Kd.C_lt (h ▸ hr0) hn (by decide))
  have HRR := Aside0.mk h
  clear hr0 h hB
  go_enter Try.func24, Try.ntmps24
  go_wp2_with (first
    | ((with_reducible refine gate_dst (N := 16) rfl ?_); refine box_event ?hg (N := 16) ?hd (cs := #[.slice A0 l0.length c0, .int .i64 0, .bool true]) (t := 61) ?hr ?_; (case hd => rfl); (case hg => rfl); (case hr => first | (go_simp; done) | (go_simp; rfl)); intro g1 hg w1 hbox hb; have BK1 := Aside0.mk hbox; have HB1 := Aside0.mk (And.intro hg hb); clear hbox hb hg))
  have hgl1 : g1 < w1.heap.size := blk_lt BK1.out
  have ho1 : w.heap.size ≤ g1 := by rw [HB1.out.1]; exact Nat.le_refl _
  have HBw := Aside0.mk HB1.out.2
  have HC1 := Aside0.mk (Kd.C_below HR0.out HBw.out)
  have HA1 := Aside0.mk (show ∀ ad, A0 = some ad → 0 < l0.length → ad.block ≠ g1 from fun ad h hn => by have := HLA.out ad h hn; omega)
  have HRD := Aside0.mk (show Ext.RdAt g1 A0 l0.length c0 0 true w1 from BK1.out)
  clear BK1 HB1
  refine (Ext.rbyte_any g1 A0 c0 0 true l0 w1 HRD.out HC1.out HA1.out HC0.out (by omega) (Nat.zero_le _)).mono ?_
  rintro e w2 ⟨rfl, hd, hf⟩
  have HAT := Aside0.mk (Ext.rdB_at (b := l0) (ok := true) (Nat.zero_le _))
  obtain ⟨X, hX⟩ : ∃ X, Ext.rdB l0 0 true = X := ⟨_, rfl⟩
  rw [hX] at hd HAT ⊢
  have HX := Aside0.mk hX
  obtain ⟨mark, at1, ok1⟩ := X
  have HD := Aside0.mk hd
  have HF := Aside0.mk hf
  clear hX hd hf
  go_wp2_with (fail)
  refine (Ext.number_read g1 A0 c0 at1 ok1 l0 w2 HD.out (Kd.C_keep (0 : Int) HC1.out HF.out.keep HA1.out) HI.out HA1.out HC0.out (by omega) HAT.out).mono ?_
  rintro e w3 ⟨rfl, hd, hf⟩
  have HAT2 := Aside0.mk (Ext.numF_at 7 0 0 at1 ok1 HAT.out)
  have HNR := Aside0.mk (Ext.numF_range (b := l0) 7 0 0 at1 ok1)
  obtain ⟨Y, hY⟩ : ∃ Y, Ext.numF l0 7 0 0 at1 ok1 = Y := ⟨_, rfl⟩
  rw [hY] at hd HAT2 HNR ⊢
  have HY := Aside0.mk hY
  obtain ⟨n, at2, ok2⟩ := Y
  have HD2 := Aside0.mk hd
  have HF2 := Aside0.mk (HF.out.trans hf)
  clear hY hd hf HD HF
  go_wp2_with (fail)
  refine (Ext.sum_read g1 A0 c0 at2 ok2 l0 w3 HD2.out (Kd.C_keep (0 : Int) HC1.out HF2.out.keep HA1.out) HI.out HA1.out HC0.out hl HAT2.out).mono ?_
  rintro e w4 ⟨rfl, hd, hf⟩
  obtain ⟨U, hU⟩ : ∃ U, Ext.sumF l0 (crcN (l0.take at2)) 4 at2 ok2 = U := ⟨_, rfl⟩
  rw [hU] at hd
  have HU := Aside0.mk hU
  have HAT4 := Aside0.mk (show U.1 ≤ l0.length from hU ▸ Ext.sumF_at 4 at2 ok2 HAT2.out)
  obtain ⟨at4, ok4⟩ := U
  have HFin := Aside0.mk (show (if ok4 = true ∧ mark = 72 ∧ 1 ≤ n ∧ n ≤ 1099511627777 then record_Scan.l0 k l0 n ([] : List S32) (at4 : Int) else some (0, ([] : List S32), 0, 31)) = some (r1, r2, r3, r4) by
    have h := HRR.out
    simp only [numS, sumF', HX.out, HY.out, HU.out] at h
    exact h)
  have HB := Aside0.mk (Ext.below_frk HBw.out (HF2.out.trans hf) (by omega) HBw.out.size)
  have hy2 : w4.cell? ⟨g1, 2, none⟩ = some (.bool ok4) := (blk_cell hd 2).trans rfl
  have hy1 : w4.cell? ⟨g1, 1, none⟩ = some (.int .i64 (at4 : Int)) := (blk_cell hd 1).trans rfl
  clear hU hd hf HRR HX HY HU HD2 HF2 HC1 HRD
  by_cases hg : ok4 = true ∧ mark = 72 ∧ 1 ≤ n ∧ n ≤ 1099511627777
  · have H' := Aside0.mk (show record_Scan.l0 k l0 n ([] : List S32) (at4 : Int) = some (r1, r2, r3, r4) by have h := HFin.out; rw [if_pos hg] at h; exact h)
    obtain ⟨rfl, rfl, hn1, hn2⟩ := hg
    clear HFin
    have hn3 : decide (n < 1) = false := by simp; omega
    have hn4 : decide (1099511627777 < n) = false := by simp; omega
    go_wp2_with (fail)
    clear hy1 hy2 hn1 hn2 hn3 hn4
    have HJ3 := Aside0.mk (Nat.zero_le k)
    go_loopg [9, 10] k (fun kq v11 v12 w' => ∃ (x11_2 : List (S32)) (x12_2 : Int), v12 = .int .i64 x12_2 ∧ Aside0 (record_Scan.l0 kq l0 n x11_2 x12_2 = some (r1, r2, r3, r4)) ∧ Aside0 (kq ≤ k) ∧ Aside0 (Kd.R k32 32 w' w.heap.size (fun _ => True) v11 x11_2) ∧ Aside0 (Below w.heap.size w w'))
    case atStart => exact ⟨(([] : List (S32))), ((at4 : Int)), (by first | rfl | (simp; done) | (simp [*]; done)), H', ⟨Nat.le_refl _⟩, ⟨by first | exact Kd.R_nil _ _ _ _ _ | exact Kd.N_nil _ _ _ _ _ | exact Kd.V_nil _ _ _ _ _ | exact Kd.Q_nil _ _ _ _ _ | exact Kd.S_nil _ _ _ _ _⟩, ⟨by repeat (first | (with_reducible first | exact HB.out | apply below_alloc | apply pw_below_drewN | apply below_drew1) | exact HB.out)⟩⟩
    case round =>
      clear H'
      try clear c1
      try clear c2
      try clear p2
      try clear c3
      try clear c6
      try clear c7
      try clear c7b0
      try clear c7b1
      try clear c10
      try clear p2
      obtain ⟨x11_2, x12_2, rfl, HA, HK2, HO_11, HB⟩ := hrel
      cases gk with
      | zero => exact absurd HA.out (by simp [record_Scan.l0])
      | succ k2 =>
        have H := HA.out
        clear HA
        simp only [record_Scan.l0] at H
        by_cases c12 : 0 ≤ x12_2
        · rw [if_pos c12] at H
          have c12b0 := eq_true c12
          have c12b1 : decide (0 ≤ x12_2) = true := decide_eq_true c12
          clear c12
          by_cases c13 : x12_2 ≤ (l0.length : Int)
          · rw [if_pos c13] at H
            have c13b0 := eq_true c13
            have c13b1 : decide (x12_2 ≤ (l0.length : Int)) = true := decide_eq_true c13
            clear c13
            replace H := Option.bind_eq_some_iff.mp H
            obtain ⟨⟨t270, t271, t272, t273, t274⟩, A140, H⟩ := H
            replace H : (if t274 = 0 then (if x11_2.length < 4398046511104 then (record_Scan.l0 k2 l0 n (x11_2 ++ [(⟨t270, t271, t272⟩ : S32)]) (wrap64 (x12_2 + t273))) else (none)) else (some (n, x11_2, x12_2, 0))) = some (r1, r2, r3, r4) := H
            have A14 := Aside0.mk A140
            clear A140
            by_cases c15 : t274 = 0
            · rw [if_pos c15] at H
              have c15b0 : (t274 == 0) = true := beq_iff_eq.mpr c15
              have c15b1 : (t274 != 0) = false := bne_eq_false_iff_eq.mpr c15
              clear c15
              by_cases c16 : x11_2.length < 4398046511104
              · rw [if_pos c16] at H
                have LMc16 := Aside0.mk c16
                clear c16
                obtain ⟨y276, hy276⟩ : ∃ y_ : List (S32), y_ = (x11_2 ++ [(⟨t270, t271, t272⟩ : S32)]) := ⟨_, rfl⟩
                replace H : (record_Scan.l0 k2 l0 n y276 (wrap64 (x12_2 + t273))) = some (r1, r2, r3, r4) := by first | (rw [hy276]; with_reducible exact H) | (have H2_ := (Option.bind_some _ _).symm.trans H; rw [hy276]; with_reducible exact H2_) | (have H2_ := (Option.bind_some _ _).symm.trans H; with_reducible exact H2_) | with_reducible exact H | (rw [hy276]; exact H) | exact H
                have Ny276 := Aside0.mk hy276
                clear hy276
                have H' := Aside0.mk H
                clear H
                obtain ⟨i017, hi017, _, hsz17, _⟩ := info_parts info5
                obtain ⟨A17, hcut17, hA17, hC17⟩ := print_drop_of (P := Try.prog) (Value.int .u8) 0 24 5 .i64 Try.underlying24 hi017 hsz17 A0 c0 l0 x12_2 (of_decide_eq_true (by first | (with_reducible assumption) | assumption)) (of_decide_eq_true (by first | (with_reducible assumption) | assumption)) HC0.out
                have HR269 := Aside0.mk (Kd.C_of_reads (h1 := fun _ => rfl) (hA17 _ (Kd.reads_of_C HR0.out)))
                have HC269 := Aside0.mk hC17
                clear hA17 hC17 hi017 hsz17
                go_wp2_with (first | ((with_reducible refine gate_callee (f := 22) rfl ?_); refine goesL_ (some 48) rfl rfl Try.func22 (by kernel_rfl) rfl #[.slice A17 (l0.drop (x12_2 : Int).toNat).length (c0 - x12_2.toNat)] rfl (by (try simp only [List.map_toArray, List.map_cons, List.map_nil]); first | done | (rw [show (l0.drop (x12_2 : Int).toNat).length = (l0.length - x12_2.toNat) from List.length_drop] <;> rfl) | rfl | (simp only [List.length_drop, List.length_take]; rfl)) ?_; (with_reducible refine (record_Decode.calls _ _ (l0.drop (x12_2 : Int).toNat) t270 t271 t272 t273 t274 _ ?side1 ?side2 A14.out).mono ?_); (case side1 => repeat (first | exact (Kd.C_below HR269.out HB.out) | (with_reducible refine Kd.C_alloc ?_ _) | (with_reducible refine Kd.C_drewN ?_ _) | (with_reducible refine Kd.C_drew ?_))); (case side2 => exact HC269.out); rintro e w18 ⟨rfl, hb⟩; refine ⟨_, rfl, ?_⟩; have n0_ := Aside0.mk (Kd.R_below (by (with_reducible repeat (first | apply Kd.R_alloc | apply Kd.R_drewN | apply Kd.R_drew)); exact HO_11.out) hb); have n1_ := Aside0.mk (below_step (by repeat (first | (with_reducible first | exact HB.out | apply below_alloc | apply pw_below_drewN | apply below_drew1) | exact HB.out)) hb); clear HO_11; clear HB; have HO_11 := n0_; have HB := n1_; clear n0_ n1_; (try clear hb); (try clear hb2); (try clear hk); (try clear hi)) | ((with_reducible refine gate_dst (N := 11) rfl ?_); refine box_event ?hg (N := 11) ?hd (cs := #[.int .i64 0, .int .i64 0, .string (⟨#[]⟩ : ByteArray)]) (t := 32) ?hr ?_; (case hd => rfl); (case hg => rfl); (case hr => first | (go_simp; done) | (go_simp; rfl)); intro gb275 hg w19 hbox hb; have n0_ := Aside0.mk (Kd.R_below (Kd.R_elderB (by (with_reducible repeat (first | apply Kd.R_alloc | apply Kd.R_drewN | apply Kd.R_drew)); exact HO_11.out) gb275 (Nat.le_of_eq hg.symm)) hb); have n1_ := Aside0.mk (below_step (by repeat (first | (with_reducible first | exact HB.out | apply below_alloc | apply pw_below_drewN | apply below_drew1) | exact HB.out)) hb); have n2_ := Aside0.mk (hbox); have n3_ := Aside0.mk ((by rw [hg]; exact (below_size (by repeat (first | (with_reducible first | exact HB.out | apply below_alloc | apply pw_below_drewN | apply below_drew1) | exact HB.out))) : w.heap.size ≤ gb275)); have n4_ := Aside0.mk ((by rw [hg]; exact (below_size (by repeat (first | (with_reducible first | exact HB.out | apply below_alloc | apply pw_below_drewN | apply below_drew1) | exact HB.out))) : w.heap.size ≤ gb275)); clear HO_11; clear HB; have HO_11 := n0_; have HB := n1_; have BK275 := n2_; have GW275 := n3_; have GE275 := n4_; clear n0_ n1_ n2_ n3_ n4_; clear hb hbox hg; have hcz20_0 : w19.cell? ⟨gb275, 0, none⟩ = some (.int .i64 0) := (blk_cell BK275.out 0).trans rfl; have hcz20_1 : w19.cell? ⟨gb275, 1, none⟩ = some (.int .i64 0) := (blk_cell BK275.out 1).trans rfl; have hcz20_2 : w19.cell? ⟨gb275, 2, none⟩ = some (.string (⟨#[]⟩ : ByteArray)) := (blk_cell BK275.out 2).trans rfl; have hfz20_0 := blk_frozen BK275.out 0; have hfz20_1 := blk_frozen BK275.out 1; have hfz20_2 := blk_frozen BK275.out 2) | ((with_reducible refine gate_builtin (b := .append) (xs := #[.tmp 57, .tmp 59]) rfl ?_); at_builtin; refine Kd.R_append k32 (w0 := w) w.heap.size rfl (.tmp 57) (.tmp 59) 22 32 (.agg #[(.int .i64 0), (.int .i64 0), (.string ⟨#[]⟩)]) 32 rfl Try.underlying22 info32 rfl (by decide) (by omega) u9 x11_2 (⟨t270, t271, t272⟩ : S32) [.int .i64 t270, .int .i64 t271, .string t272] (fun k_ => k_ ≠ gb275) (fun _ => False) rfl (by first | (go_simp; done) | (go_simp; rfl)) ?aP (fun _ hk => hk.elim) ?aF ?aO ?aB ?aS ?aL ?_; (case aP => exact k32_mkM _ _ _ (⟨t270, t271, t272⟩ : S32)); (case aB => exact (by repeat (first | (with_reducible first | exact HB.out | apply below_alloc | apply pw_below_drewN | apply below_drew1 | refine below_set ?_ GE275.out) | exact HB.out))); (case aF => exact (fun k_ hk => Kd.freshB (g := gb275) (o := .cells #[.int .i64 t270, .int .i64 t271, .string t272] 32 (0, 0)) (by (with_reducible repeat (first | refine blk_drewN ?_ _ | refine blk_drew ?_ | refine blk_alloc ?_ _)); refine blk_put (cs := #[.int .i64 t270, .int .i64 t271, .string (⟨#[]⟩ : ByteArray)]) ?_ 2 _ rfl; (with_reducible repeat (first | refine blk_drewN ?_ _ | refine blk_drew ?_ | refine blk_alloc ?_ _)); refine blk_put (cs := #[.int .i64 t270, .int .i64 0, .string (⟨#[]⟩ : ByteArray)]) ?_ 1 _ rfl; (with_reducible repeat (first | refine blk_drewN ?_ _ | refine blk_drew ?_ | refine blk_alloc ?_ _)); refine blk_put (cs := #[.int .i64 0, .int .i64 0, .string (⟨#[]⟩ : ByteArray)]) ?_ 0 _ rfl; (with_reducible repeat (first | refine blk_drewN ?_ _ | refine blk_drew ?_ | refine blk_alloc ?_ _)); exact BK275.out) k_ hk)); (case aO => exact (by (with_reducible repeat (first | apply Kd.R_alloc | apply Kd.R_drewN | apply Kd.R_drew)); exact Kd.R_mono (Kd.R_far (p := ⟨gb275, 2, none⟩) (Kd.R_far (p := ⟨gb275, 1, none⟩) (Kd.R_far (p := ⟨gb275, 0, none⟩) (Kd.R_mono HO_11.out (fun k_ hk => (⟨hk, hk.2⟩ : _ ∧ k_ ≠ gb275))) (fun _ hk => hk.2) (.int .i64 t270)) (fun _ hk => hk.2) (.int .i64 t271)) (fun _ hk => hk.2) (.string t272)) (fun _ hk => hk.1.2))); (case aS => exact (below_size (by repeat (first | (with_reducible first | exact HB.out | apply below_alloc | apply pw_below_drewN | apply below_drew1 | refine below_set ?_ GE275.out) | exact HB.out)))); (case aL => have := LMc16.out; omega); intro v277 w21 ho hb hg hat; rw [← Ny276.out] at ho; have n0_ := Aside0.mk (blk_grown (g := gb275) (o := .cells #[.int .i64 t270, .int .i64 t271, .string t272] 32 (0, 0)) (by (with_reducible repeat (first | refine blk_drewN ?_ _ | refine blk_drew ?_ | refine blk_alloc ?_ _)); refine blk_put (cs := #[.int .i64 t270, .int .i64 t271, .string (⟨#[]⟩ : ByteArray)]) ?_ 2 _ rfl; (with_reducible repeat (first | refine blk_drewN ?_ _ | refine blk_drew ?_ | refine blk_alloc ?_ _)); refine blk_put (cs := #[.int .i64 t270, .int .i64 0, .string (⟨#[]⟩ : ByteArray)]) ?_ 1 _ rfl; (with_reducible repeat (first | refine blk_drewN ?_ _ | refine blk_drew ?_ | refine blk_alloc ?_ _)); refine blk_put (cs := #[.int .i64 0, .int .i64 0, .string (⟨#[]⟩ : ByteArray)]) ?_ 0 _ rfl; (with_reducible repeat (first | refine blk_drewN ?_ _ | refine blk_drew ?_ | refine blk_alloc ?_ _)); exact BK275.out) hg (Kd.R_away HO_11.out (fun _ hk => hk.2))); have n1_ := Aside0.mk (hb); have n2_ := Aside0.mk (ho); clear BK275; clear HB; clear HO_11; have BK275 := n0_; have HB := n1_; have HO278 := n2_; clear n0_ n1_ n2_; clear ho hb hg hat))
                go_roundg k2
                case measure => have := HJ3.out; have := HK2.out; omega
                case rel => exact ⟨(y276), (wrap64 (x12_2 + t273)), (by first | rfl | (simp; done) | (simp [*]; done)), H', ⟨by have := HJ3.out; have := HK2.out; omega⟩, ⟨by (with_reducible repeat (first | apply Kd.R_alloc | apply Kd.R_drewN | apply Kd.R_drew)); exact Kd.R_mono HO278.out (fun _ hk => trivial)⟩, ⟨by repeat (first | (with_reducible first | exact HB.out | apply below_alloc | apply pw_below_drewN | apply below_drew1 | refine below_set ?_ GE275.out) | exact HB.out)⟩⟩
              · rw [if_neg c16] at H
                exact absurd H (by simp)
            · rw [if_neg c15] at H
              have c15b0 : (t274 == 0) = false := beq_eq_false_iff_ne.mpr c15
              have c15b1 : (t274 != 0) = true := bne_iff_ne.mpr c15
              simp only [Option.some.injEq, Prod.mk.injEq] at H
              obtain ⟨rfl, rfl, rfl, rfl⟩ := H
              obtain ⟨i022, hi022, _, hsz22, _⟩ := info_parts info5
              obtain ⟨A22, hcut22, hA22, hC22⟩ := print_drop_of (P := Try.prog) (Value.int .u8) 0 24 5 .i64 Try.underlying24 hi022 hsz22 A0 c0 l0 x12_2 (of_decide_eq_true (by first | (with_reducible assumption) | assumption)) (of_decide_eq_true (by first | (with_reducible assumption) | assumption)) HC0.out
              have HR269 := Aside0.mk (Kd.C_of_reads (h1 := fun _ => rfl) (hA22 _ (Kd.reads_of_C HR0.out)))
              have HC269 := Aside0.mk hC22
              clear hA22 hC22 hi022 hsz22
              go_wp2_with (first | ((with_reducible refine gate_callee (f := 22) rfl ?_); refine goesL_ (some 48) rfl rfl Try.func22 (by kernel_rfl) rfl #[.slice A22 (l0.drop (x12_2 : Int).toNat).length (c0 - x12_2.toNat)] rfl (by (try simp only [List.map_toArray, List.map_cons, List.map_nil]); first | done | (rw [show (l0.drop (x12_2 : Int).toNat).length = (l0.length - x12_2.toNat) from List.length_drop] <;> rfl) | rfl | (simp only [List.length_drop, List.length_take]; rfl)) ?_; (with_reducible refine (record_Decode.calls _ _ (l0.drop (x12_2 : Int).toNat) t270 t271 t272 t273 t274 _ ?side1 ?side2 A14.out).mono ?_); (case side1 => repeat (first | exact (Kd.C_below HR269.out HB.out) | (with_reducible refine Kd.C_alloc ?_ _) | (with_reducible refine Kd.C_drewN ?_ _) | (with_reducible refine Kd.C_drew ?_))); (case side2 => exact HC269.out); rintro e w23 ⟨rfl, hb⟩; refine ⟨_, rfl, ?_⟩; have n0_ := Aside0.mk (Kd.R_below (by (with_reducible repeat (first | apply Kd.R_alloc | apply Kd.R_drewN | apply Kd.R_drew)); exact HO_11.out) hb); have n1_ := Aside0.mk (below_step (by repeat (first | (with_reducible first | exact HB.out | apply below_alloc | apply pw_below_drewN | apply below_drew1) | exact HB.out)) hb); clear HO_11; clear HB; have HO_11 := n0_; have HB := n1_; clear n0_ n1_; (try clear hb); (try clear hb2); (try clear hk); (try clear hi)) | ((with_reducible refine gate_dst (N := 11) rfl ?_); refine box_event ?hg (N := 11) ?hd (cs := #[.int .i64 0, .int .i64 0, .string (⟨#[]⟩ : ByteArray)]) (t := 32) ?hr ?_; (case hd => rfl); (case hg => rfl); (case hr => first | (go_simp; done) | (go_simp; rfl)); intro gb275 hg w24 hbox hb; have n0_ := Aside0.mk (Kd.R_below (Kd.R_elderB (by (with_reducible repeat (first | apply Kd.R_alloc | apply Kd.R_drewN | apply Kd.R_drew)); exact HO_11.out) gb275 (Nat.le_of_eq hg.symm)) hb); have n1_ := Aside0.mk (below_step (by repeat (first | (with_reducible first | exact HB.out | apply below_alloc | apply pw_below_drewN | apply below_drew1) | exact HB.out)) hb); have n2_ := Aside0.mk (hbox); have n3_ := Aside0.mk ((by rw [hg]; exact (below_size (by repeat (first | (with_reducible first | exact HB.out | apply below_alloc | apply pw_below_drewN | apply below_drew1) | exact HB.out))) : w.heap.size ≤ gb275)); have n4_ := Aside0.mk ((by rw [hg]; exact (below_size (by repeat (first | (with_reducible first | exact HB.out | apply below_alloc | apply pw_below_drewN | apply below_drew1) | exact HB.out))) : w.heap.size ≤ gb275)); clear HO_11; clear HB; have HO_11 := n0_; have HB := n1_; have BK275 := n2_; have GW275 := n3_; have GE275 := n4_; clear n0_ n1_ n2_ n3_ n4_; clear hb hbox hg; have hcz25_0 : w24.cell? ⟨gb275, 0, none⟩ = some (.int .i64 0) := (blk_cell BK275.out 0).trans rfl; have hcz25_1 : w24.cell? ⟨gb275, 1, none⟩ = some (.int .i64 0) := (blk_cell BK275.out 1).trans rfl; have hcz25_2 : w24.cell? ⟨gb275, 2, none⟩ = some (.string (⟨#[]⟩ : ByteArray)) := (blk_cell BK275.out 2).trans rfl; have hfz25_0 := blk_frozen BK275.out 0; have hfz25_1 := blk_frozen BK275.out 1; have hfz25_2 := blk_frozen BK275.out 2))
              refine bodyPost_ret (results_list (rs := [.tmp 2, .tmp 3, .tmp 4, .tmp 5]) rfl (by simp) (.tmp (.tmp (.tmp (.tmp .nil))))) rfl ?_
              exact ⟨_, by first | rfl | (simp [errW_none, errW_some] <;> rfl) | (simp [*, errW_none, errW_some] <;> rfl), by (with_reducible repeat (first | apply Kd.R_alloc | apply Kd.R_drewN | apply Kd.R_drew)); exact Kd.R_mono (Kd.R_far (p := ⟨gb275, 2, none⟩) (Kd.R_far (p := ⟨gb275, 1, none⟩) (Kd.R_far (p := ⟨gb275, 0, none⟩) (Kd.R_mono HO_11.out (fun k_ hk => (⟨hk, hk.2⟩ : _ ∧ k_ ≠ gb275))) (fun _ hk => hk.2) (.int .i64 t270)) (fun _ hk => hk.2) (.int .i64 t271)) (fun _ hk => hk.2) (.string t272)) (fun _ hk => trivial), by repeat (first | (with_reducible first | exact HB.out | apply below_alloc | apply pw_below_drewN | apply below_drew1 | refine below_set ?_ GE275.out) | exact HB.out)⟩
          · rw [if_neg c13] at H
            exact absurd H (by simp)
        · rw [if_neg c12] at H
          exact absurd H (by simp)
  · have H := HFin.out
    rw [if_neg hg] at H
    simp only [Option.some.injEq, Prod.mk.injEq] at H
    obtain ⟨rfl, rfl, rfl, rfl⟩ := H
    clear HFin
    by_cases h4 : ok4 = true
    · subst h4
      by_cases hm : mark = 72
      · subst hm
        by_cases hn : n < 1
        · go_wp2_with (fail)
          refine bodyPost_ret (results_list (rs := [.tmp 2, .tmp 3, .tmp 4, .tmp 5]) rfl (by simp) (.tmp (.tmp (.tmp (.tmp .nil))))) rfl ?_
          exact ⟨_, rfl, Kd.R_nil _ _ _ _ _, HB.out⟩
        · have hn2 : 1099511627777 < n := by
            rcases Int.lt_or_le 1099511627777 n with h | h
            · exact h
            · exact absurd ⟨rfl, rfl, by omega, h⟩ hg
          have hn3 : decide (n < 1) = false := by simp; omega
          go_wp2_with (fail)
          refine bodyPost_ret (results_list (rs := [.tmp 2, .tmp 3, .tmp 4, .tmp 5]) rfl (by simp) (.tmp (.tmp (.tmp (.tmp .nil))))) rfl ?_
          exact ⟨_, rfl, Kd.R_nil _ _ _ _ _, HB.out⟩
      · have hmk1 : (mark != 72) = true := by simp [hm]
        clear hg
        go_wp2_with (fail)
        refine bodyPost_ret (results_list (rs := [.tmp 2, .tmp 3, .tmp 4, .tmp 5]) rfl (by simp) (.tmp (.tmp (.tmp (.tmp .nil))))) rfl ?_
        exact ⟨_, rfl, Kd.R_nil _ _ _ _ _, HB.out⟩
    · obtain rfl : ok4 = false := by simpa using h4
      clear hg
      go_wp2_with (fail)
      refine bodyPost_ret (results_list (rs := [.tmp 2, .tmp 3, .tmp 4, .tmp 5]) rfl (by simp) (.tmp (.tmp (.tmp (.tmp .nil))))) rfl ?_
      exact ⟨_, rfl, Kd.R_nil _ _ _ _ _, HB.out⟩

end Go.Proofs.Ytgnhadbadhgdgaa.Prt
