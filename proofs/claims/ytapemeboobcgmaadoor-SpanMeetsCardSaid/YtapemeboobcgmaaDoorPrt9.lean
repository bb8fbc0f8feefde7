/- What the Go functions of this text compute, each as a plain Lean function, and that the machine's call comes to it. Laid by a program of this session. -/
import Derived.Test.YtapemeboobcgmaaDoorPrt0
import Derived.Test.YtapemeboobcgmaaDoorPrt1
import Derived.Test.YtapemeboobcgmaaDoorPrt2
import Derived.Test.YtapemeboobcgmaaDoorPrt4
namespace Go.Proofs.YtapemeboobcgmaaDoor.Prt
open Go.RowKit Go.Proofs.YtapemeboobcgmaaDoorW.PrintWords Go.Proofs.YtapemeboobcgmaaDoorW.PrintLast Go.Proofs.YtapemeboobcgmaaDoorW.PrintMore
attribute [local go_sem] max2_int min2_int max_two min_two max_three min_three max_four min_four   -- for this text's walks alone
set_option linter.unusedVariables false
set_option linter.unusedSimpArgs false

attribute [local go_sem high] eqA23
/-! ### trommellaw10_SpanMeets: function 7 -/
mutual
def trommellaw10_SpanMeets.j0 : Nat → Bool → Int → Int → Int → Int → Option (Bool)
  | 0, _, _, _, _, _ => none
  | k + 1, x22, x230000, x230001, x231000, x231001 => if x22 = true then (some true) else (if x230000 > x231000 then (trommellaw10_SpanMeets.j1 k x231000 x231001 x230000 x230001) else (trommellaw10_SpanMeets.j1 k x230000 x230001 x231000 x231001))
def trommellaw10_SpanMeets.j1 : Nat → Int → Int → Int → Int → Option (Bool)
  | 0, _, _, _, _ => none
  | k + 1, x230000, x230001, x231000, x231001 => (span_Bounds.f x230000 x230001).bind fun bt234 => ((span_Bounds.f x231000 x231001).bind fun bt236 => (if 0 ≤ x230000 then (if (wrap64 ((wrap64 (bt234.2 - bt234.1)) + 1)) = (shl .i64 1 x230000) then (if 0 ≤ x231000 then (if (wrap64 ((wrap64 (bt236.2 - bt236.1)) + 1)) = (shl .i64 1 x231000) then ((span_Has.f x230000 x230001 bt234.1).bind fun t238 => (if t238 = true then ((span_Has.f x230000 x230001 bt234.2).bind fun t239 => (if t239 = true then ((span_Has.f x230000 x230001 (wrap64 (bt234.1 - 1))).bind fun t240 => (if t240 = true then (trommellaw10_SpanMeets.j2 k bt234.1 bt234.2 bt236.1 bt236.2 true x230000 x230001 x231000 x231001) else ((span_Has.f x230000 x230001 (wrap64 (bt234.2 + 1))).bind fun t241 => (trommellaw10_SpanMeets.j2 k bt234.1 bt234.2 bt236.1 bt236.2 t241 x230000 x230001 x231000 x231001)))) else (trommellaw10_SpanMeets.j2 k bt234.1 bt234.2 bt236.1 bt236.2 true x230000 x230001 x231000 x231001))) else (trommellaw10_SpanMeets.j2 k bt234.1 bt234.2 bt236.1 bt236.2 true x230000 x230001 x231000 x231001))) else (trommellaw10_SpanMeets.j2 k bt234.1 bt234.2 bt236.1 bt236.2 true x230000 x230001 x231000 x231001)) else (none)) else (trommellaw10_SpanMeets.j2 k bt234.1 bt234.2 bt236.1 bt236.2 true x230000 x230001 x231000 x231001)) else (none)))
def trommellaw10_SpanMeets.j2 : Nat → Int → Int → Int → Int → Bool → Int → Int → Int → Int → Option (Bool)
  | 0, _, _, _, _, _, _, _, _, _ => none
  | k + 1, x5, x6, x7, x8, x81, x230000, x230001, x231000, x231001 => if x81 = true then (some false) else (trommellaw10_SpanMeets.l0 k x5 x6 x7 x8 x231000 x231001 x230000 x230001)
def trommellaw10_SpanMeets.l0 : Nat → Int → Int → Int → Int → Int → Int → Int → Int → Option (Bool)
  | 0, _, _, _, _, _, _, _, _ => none
  | k + 1, x5, x6, x7, x8, x231000, x231001, x243000, x243001 => if x243000 < x231000 then ((span_Parent.f x243000 x243001).bind fun bt243 => (if bt243.2.2 = true then (if bt243.1 = (wrap64 (x243000 + 1)) then (trommellaw10_SpanMeets.l0 k x5 x6 x7 x8 x231000 x231001 bt243.1 bt243.2.1) else (some false)) else (some false))) else (if x5 ≤ x8 then (if ((decide (x7 ≤ x6)) == (x243000 == x231000 && (x243001 == x231001))) = true then (if x7 ≤ x6 then (if x7 ≤ x5 then (some (decide (x6 ≤ x8))) else (some false)) else (some true)) else (some false)) else (if (false == (x243000 == x231000 && (x243001 == x231001))) = true then (some true) else (some false)))
end
def trommellaw10_SpanMeets.f (k : Nat) (a0_0 : Int) (a0_1 : Int) (a1_0 : Int) (a1_1 : Int) : Option (Bool) := (trommellaw10_fixed.f k).bind fun t231 => (if t231 = true then ((span_Check.f a0_0 a0_1).bind fun t232 => (if t232 = 0 then ((span_Check.f a1_0 a1_1).bind fun t233 => (trommellaw10_SpanMeets.j0 k (t233 != 0) a0_0 a0_1 a1_0 a1_1)) else (trommellaw10_SpanMeets.j0 k true a0_0 a0_1 a1_0 a1_1))) else (some false))
theorem trommellaw10_SpanMeets.mono_l : ∀ k, (∀ y0 y1 y2 y3 y4, LeO (trommellaw10_SpanMeets.j0 k y0 y1 y2 y3 y4) (trommellaw10_SpanMeets.j0 (k + 1) y0 y1 y2 y3 y4)) ∧ (∀ y0 y1 y2 y3, LeO (trommellaw10_SpanMeets.j1 k y0 y1 y2 y3) (trommellaw10_SpanMeets.j1 (k + 1) y0 y1 y2 y3)) ∧ (∀ y0 y1 y2 y3 y4 y5 y6 y7 y8, LeO (trommellaw10_SpanMeets.j2 k y0 y1 y2 y3 y4 y5 y6 y7 y8) (trommellaw10_SpanMeets.j2 (k + 1) y0 y1 y2 y3 y4 y5 y6 y7 y8)) ∧ (∀ y0 y1 y2 y3 y4 y5 y6 y7, LeO (trommellaw10_SpanMeets.l0 k y0 y1 y2 y3 y4 y5 y6 y7) (trommellaw10_SpanMeets.l0 (k + 1) y0 y1 y2 y3 y4 y5 y6 y7))
  | 0 => ⟨fun _ _ _ _ _ r h => by simp [trommellaw10_SpanMeets.j0] at h, fun _ _ _ _ r h => by simp [trommellaw10_SpanMeets.j1] at h, fun _ _ _ _ _ _ _ _ _ r h => by simp [trommellaw10_SpanMeets.j2] at h, fun _ _ _ _ _ _ _ _ r h => by simp [trommellaw10_SpanMeets.l0] at h⟩
  | k + 1 => by
    obtain ⟨ih0, ih1, ih2, ih3⟩ := trommellaw10_SpanMeets.mono_l k
    refine ⟨?_, ?_, ?_, ?_⟩
    · intro y0 y1 y2 y3 y4
      unfold trommellaw10_SpanMeets.j0
      repeat' first
      | (with_reducible exact ih0 _ _ _ _ _)
      | (with_reducible exact ih1 _ _ _ _)
      | (with_reducible exact ih2 _ _ _ _ _ _ _ _ _)
      | (with_reducible exact ih3 _ _ _ _ _ _ _ _)
      | (with_reducible exact trommellaw10_fixed.mono _)
      | (with_reducible exact LeO.refl _)
      | (with_reducible exact LeO.none _)
      | (with_reducible refine LeO.ite ?_ ?_)
      | (with_reducible refine LeO.bind ?_ (fun _ => ?_))
      | exact ih0 _ _ _ _ _
      | exact ih1 _ _ _ _
      | exact ih2 _ _ _ _ _ _ _ _ _
      | exact ih3 _ _ _ _ _ _ _ _
      | exact trommellaw10_fixed.mono _
      | exact LeO.none _
      | refine LeO.ite ?_ ?_
      | refine LeO.bind ?_ (fun _ => ?_)
    · intro y0 y1 y2 y3
      unfold trommellaw10_SpanMeets.j1
      repeat' first
      | (with_reducible exact ih0 _ _ _ _ _)
      | (with_reducible exact ih1 _ _ _ _)
      | (with_reducible exact ih2 _ _ _ _ _ _ _ _ _)
      | (with_reducible exact ih3 _ _ _ _ _ _ _ _)
      | (with_reducible exact trommellaw10_fixed.mono _)
      | (with_reducible exact LeO.refl _)
      | (with_reducible exact LeO.none _)
      | (with_reducible refine LeO.ite ?_ ?_)
      | (with_reducible refine LeO.bind ?_ (fun _ => ?_))
      | exact ih0 _ _ _ _ _
      | exact ih1 _ _ _ _
      | exact ih2 _ _ _ _ _ _ _ _ _
      | exact ih3 _ _ _ _ _ _ _ _
      | exact trommellaw10_fixed.mono _
      | exact LeO.none _
      | refine LeO.ite ?_ ?_
      | refine LeO.bind ?_ (fun _ => ?_)
    · intro y0 y1 y2 y3 y4 y5 y6 y7 y8
      unfold trommellaw10_SpanMeets.j2
      repeat' first
      | (with_reducible exact ih0 _ _ _ _ _)
      | (with_reducible exact ih1 _ _ _ _)
      | (with_reducible exact ih2 _ _ _ _ _ _ _ _ _)
      | (with_reducible exact ih3 _ _ _ _ _ _ _ _)
      | (with_reducible exact trommellaw10_fixed.mono _)
      | (with_reducible exact LeO.refl _)
      | (with_reducible exact LeO.none _)
      | (with_reducible refine LeO.ite ?_ ?_)
      | (with_reducible refine LeO.bind ?_ (fun _ => ?_))
      | exact ih0 _ _ _ _ _
      | exact ih1 _ _ _ _
      | exact ih2 _ _ _ _ _ _ _ _ _
      | exact ih3 _ _ _ _ _ _ _ _
      | exact trommellaw10_fixed.mono _
      | exact LeO.none _
      | refine LeO.ite ?_ ?_
      | refine LeO.bind ?_ (fun _ => ?_)
    · intro y0 y1 y2 y3 y4 y5 y6 y7
      unfold trommellaw10_SpanMeets.l0
      repeat' first
      | (with_reducible exact ih0 _ _ _ _ _)
      | (with_reducible exact ih1 _ _ _ _)
      | (with_reducible exact ih2 _ _ _ _ _ _ _ _ _)
      | (with_reducible exact ih3 _ _ _ _ _ _ _ _)
      | (with_reducible exact trommellaw10_fixed.mono _)
      | (with_reducible exact LeO.refl _)
      | (with_reducible exact LeO.none _)
      | (with_reducible refine LeO.ite ?_ ?_)
      | (with_reducible refine LeO.bind ?_ (fun _ => ?_))
      | exact ih0 _ _ _ _ _
      | exact ih1 _ _ _ _
      | exact ih2 _ _ _ _ _ _ _ _ _
      | exact ih3 _ _ _ _ _ _ _ _
      | exact trommellaw10_fixed.mono _
      | exact LeO.none _
      | refine LeO.ite ?_ ?_
      | refine LeO.bind ?_ (fun _ => ?_)
theorem trommellaw10_SpanMeets.mono : ∀ a0 a1 a2 a3 k, LeO (trommellaw10_SpanMeets.f k a0 a1 a2 a3) (trommellaw10_SpanMeets.f (k + 1) a0 a1 a2 a3) := by
  intro a0 a1 a2 a3 k
  obtain ⟨ih0, ih1, ih2, ih3⟩ := trommellaw10_SpanMeets.mono_l k
  unfold trommellaw10_SpanMeets.f
  repeat' first
      | (with_reducible exact ih0 _ _ _ _ _)
      | (with_reducible exact ih1 _ _ _ _)
      | (with_reducible exact ih2 _ _ _ _ _ _ _ _ _)
      | (with_reducible exact ih3 _ _ _ _ _ _ _ _)
      | (with_reducible exact trommellaw10_fixed.mono _)
      | (with_reducible exact LeO.refl _)
      | (with_reducible exact LeO.none _)
      | (with_reducible refine LeO.ite ?_ ?_)
      | (with_reducible refine LeO.bind ?_ (fun _ => ?_))
      | exact ih0 _ _ _ _ _
      | exact ih1 _ _ _ _
      | exact ih2 _ _ _ _ _ _ _ _ _
      | exact ih3 _ _ _ _ _ _ _ _
      | exact trommellaw10_fixed.mono _
      | exact LeO.none _
      | refine LeO.ite ?_ ?_
      | refine LeO.bind ?_ (fun _ => ?_)
set_option maxHeartbeats 8000000 in
set_option maxRecDepth 100000 in
theorem trommellaw10_SpanMeets.calls (k : Nat) (a0_0 : Int) (a0_1 : Int) (a1_0 : Int) (a1_1 : Int) (r : Bool) (w : World) (hG : GLaid w) (h : trommellaw10_SpanMeets.f k a0_0 a0_1 a1_0 a1_1 = some r) :
    Calls Tryd.prog 7 #[.agg #[.int .i64 a0_0, .int .i64 a0_1], .agg #[.int .i64 a1_0, .int .i64 a1_1]] w fun e w' => e = .returned (.bool r) ∧ Below w.heap.size w w' := by
  have hu23 := Tryd.underlying23
  have HG := Aside0.mk hG
  clear hG
  have HB := Aside0.mk (Below.refl w.heap.size w)
  have H : ((trommellaw10_fixed.f k).bind fun t231 => (if t231 = true then ((span_Check.f a0_0 a0_1).bind fun t232 => (if t232 = 0 then ((span_Check.f a1_0 a1_1).bind fun t233 => (trommellaw10_SpanMeets.j0 k (t233 != 0) a0_0 a0_1 a1_0 a1_1)) else (trommellaw10_SpanMeets.j0 k true a0_0 a0_1 a1_0 a1_1))) else (some false))) = some r := h
  clear h
  replace H := Option.bind_eq_some_iff.mp H
  obtain ⟨t231, A30, H⟩ := H
  replace H : (if t231 = true then ((span_Check.f a0_0 a0_1).bind fun t232 => (if t232 = 0 then ((span_Check.f a1_0 a1_1).bind fun t233 => (trommellaw10_SpanMeets.j0 k (t233 != 0) a0_0 a0_1 a1_0 a1_1)) else (trommellaw10_SpanMeets.j0 k true a0_0 a0_1 a1_0 a1_1))) else (some false)) = some r := H
  have A3 := Aside0.mk A30
  clear A30
  by_cases c4 : t231 = true
  · subst c4
    have H1 : ((span_Check.f a0_0 a0_1).bind fun t232 => (if t232 = 0 then ((span_Check.f a1_0 a1_1).bind fun t233 => (trommellaw10_SpanMeets.j0 k (t233 != 0) a0_0 a0_1 a1_0 a1_1)) else (trommellaw10_SpanMeets.j0 k true a0_0 a0_1 a1_0 a1_1))) = some r := by rw [if_pos rfl] at H; exact H
    clear H
    have H := H1
    clear H1
    have HC5 := Aside0.mk H
    clear H
    go_enter Tryd.func7, Tryd.ntmps7
    go_upto_region 3 with (first | ((with_reducible refine gate_dst (N := 2) rfl ?_); refine box_event ?hg (N := 2) ?hd (cs := #[.int .i64 a0_0, .int .i64 a0_1]) (t := 23) ?hr ?_; (case hd => rfl); (case hg => rfl); (case hr => first | (go_simp; done) | (go_simp; rfl)); intro gb229 hg w6 hbox hb; have n0_ := Aside0.mk (below_step (by repeat (first | (with_reducible first | exact HB.out | apply below_alloc | apply pw_below_drewN | apply below_drew1) | exact HB.out)) hb); have n1_ := Aside0.mk (hbox); have n2_ := Aside0.mk ((by rw [hg]; exact (below_size (by repeat (first | (with_reducible first | exact HB.out | apply below_alloc | apply pw_below_drewN | apply below_drew1) | exact HB.out))) : w.heap.size ≤ gb229)); have n3_ := Aside0.mk ((by rw [hg]; exact (below_size (by repeat (first | (with_reducible first | exact HB.out | apply below_alloc | apply pw_below_drewN | apply below_drew1) | exact HB.out))) : w.heap.size ≤ gb229)); clear HB; have HB := n0_; have BK229 := n1_; have GW229 := n2_; have GE229 := n3_; clear n0_ n1_ n2_ n3_; clear hb hbox hg) | ((with_reducible refine gate_dst (N := 3) rfl ?_); refine box_event ?hg (N := 3) ?hd (cs := #[.int .i64 a1_0, .int .i64 a1_1]) (t := 23) ?hr ?_; (case hd => rfl); (case hg => rfl); (case hr => first | (go_simp; done) | (go_simp; rfl)); intro gb230 hg w7 hbox hb; have n0_ := Aside0.mk (blk_below (g := gb229) (o := .cells #[.int .i64 a0_0, .int .i64 a0_1] 23 (0, 0)) (by (with_reducible repeat (first | refine blk_drewN ?_ _ | refine blk_drew ?_ | refine blk_alloc ?_ _)); exact BK229.out) hb); have n1_ := Aside0.mk (below_step (by repeat (first | (with_reducible first | exact HB.out | apply below_alloc | apply pw_below_drewN | apply below_drew1 | refine below_set ?_ GE229.out) | exact HB.out)) hb); have n2_ := Aside0.mk (hbox); have n3_ := Aside0.mk ((by rw [hg]; exact (below_size (by repeat (first | (with_reducible first | exact HB.out | apply below_alloc | apply pw_below_drewN | apply below_drew1 | refine below_set ?_ GE229.out) | exact HB.out))) : w.heap.size ≤ gb230)); have n4_ := Aside0.mk ((by rw [hg]; exact (below_size (by repeat (first | (with_reducible first | exact HB.out | apply below_alloc | apply pw_below_drewN | apply below_drew1 | refine below_set ?_ GE229.out) | exact HB.out))) : w.heap.size ≤ gb230)); have n5_ := Aside0.mk ((by rw [hg]; exact Nat.ne_of_lt (blk_lt (g := gb229) (o := .cells #[.int .i64 a0_0, .int .i64 a0_1] 23 (0, 0)) (by (with_reducible repeat (first | refine blk_drewN ?_ _ | refine blk_drew ?_ | refine blk_alloc ?_ _)); exact BK229.out)) : gb229 ≠ gb230)); have n6_ := Aside0.mk ((by rw [hg]; exact Nat.ne_of_gt (blk_lt (g := gb229) (o := .cells #[.int .i64 a0_0, .int .i64 a0_1] 23 (0, 0)) (by (with_reducible repeat (first | refine blk_drewN ?_ _ | refine blk_drew ?_ | refine blk_alloc ?_ _)); exact BK229.out)) : gb230 ≠ gb229)); clear BK229; clear HB; have BK229 := n0_; have HB := n1_; have BK230 := n2_; have GW230 := n3_; have GE230 := n4_; have NB229_230 := n5_; have NB230_229 := n6_; clear n0_ n1_ n2_ n3_ n4_ n5_ n6_; clear hb hbox hg) | ((with_reducible refine gate_callee (f := 9) rfl ?_); refine goesL_ (some 13) rfl rfl Tryd.func9 (by kernel_rfl) rfl #[] rfl (by (try simp only [List.map_toArray, List.map_cons, List.map_nil]); first | done | rfl | (simp only [List.length_drop, List.length_take]; rfl)) ?_; (with_reducible refine (trommellaw10_fixed.calls k  true _ ?side1 A3.out).mono ?_); (case side1 => exact GLaid.below HG.out (by repeat (first | (with_reducible first | exact HB.out | apply below_alloc | apply pw_below_drewN | apply below_drew1 | refine below_set ?_ GE229.out | refine below_set ?_ GE230.out) | exact HB.out))); rintro e w8 ⟨rfl, hb⟩; refine ⟨_, rfl, ?_⟩; have n0_ := Aside0.mk (blk_below (g := gb229) (o := .cells #[.int .i64 a0_0, .int .i64 a0_1] 23 (0, 0)) (by (with_reducible repeat (first | refine blk_drewN ?_ _ | refine blk_drew ?_ | refine blk_alloc ?_ _)); exact BK229.out) hb); have n1_ := Aside0.mk (blk_below (g := gb230) (o := .cells #[.int .i64 a1_0, .int .i64 a1_1] 23 (0, 0)) (by (with_reducible repeat (first | refine blk_drewN ?_ _ | refine blk_drew ?_ | refine blk_alloc ?_ _)); exact BK230.out) hb); have n2_ := Aside0.mk (below_step (by repeat (first | (with_reducible first | exact HB.out | apply below_alloc | apply pw_below_drewN | apply below_drew1 | refine below_set ?_ GE229.out | refine below_set ?_ GE230.out) | exact HB.out)) hb); clear BK229; clear BK230; clear HB; have BK229 := n0_; have BK230 := n1_; have HB := n2_; clear n0_ n1_ n2_; (try clear hb); (try clear hb2); (try clear hk); (try clear hi)))
    (try simp only [Act.put, List.setIfInBounds_toArray, List.set_cons_zero, List.set_cons_succ])
    go_cut [22] (fun v22 wc => ∃ (kq : Nat) (x22_4 : Bool), v22 = .bool x22_4 ∧ Aside0 (trommellaw10_SpanMeets.j0 kq x22_4 a0_0 a0_1 a1_0 a1_1 = some r) ∧ Aside0 (kq ≤ k) ∧ Aside0 (wc.heap[gb229]? = some (.cells #[.int .i64 a0_0, .int .i64 a0_1] 23 (0, 0))) ∧ Aside0 (wc.heap[gb230]? = some (.cells #[.int .i64 a1_0, .int .i64 a1_1] 23 (0, 0))) ∧ Aside0 (Below w.heap.size w wc))
    case first =>
      have H := HC5.out
      clear HC5
      replace H := Option.bind_eq_some_iff.mp H
      obtain ⟨t232, A90, H⟩ := H
      replace H : (if t232 = 0 then ((span_Check.f a1_0 a1_1).bind fun t233 => (trommellaw10_SpanMeets.j0 k (t233 != 0) a0_0 a0_1 a1_0 a1_1)) else (trommellaw10_SpanMeets.j0 k true a0_0 a0_1 a1_0 a1_1)) = some r := H
      have A9 := Aside0.mk A90
      clear A90
      by_cases c10 : t232 = 0
      · rw [if_pos c10] at H
        have c10b0 : (t232 == 0) = true := beq_iff_eq.mpr c10
        have c10b1 : (t232 != 0) = false := bne_eq_false_iff_eq.mpr c10
        clear c10
        (first | rw [c10b0] | (simp only [i64_w, i32_w]; rw [c10b0]) | skip)
        replace H := Option.bind_eq_some_iff.mp H
        obtain ⟨t233, A110, H⟩ := H
        replace H : (trommellaw10_SpanMeets.j0 k (t233 != 0) a0_0 a0_1 a1_0 a1_1) = some r := H
        have A11 := Aside0.mk A110
        clear A110
        have H' := Aside0.mk H
        clear H
        have hnb12 := NB229_230.out
        have hnc12 := NB230_229.out
        have hcz13_0 : w8.cell? ⟨gb229, 0, none⟩ = some (.int .i64 a0_0) := (blk_cell BK229.out 0).trans rfl
        have hcz13_1 : w8.cell? ⟨gb229, 1, none⟩ = some (.int .i64 a0_1) := (blk_cell BK229.out 1).trans rfl
        have hfz13_0 := blk_frozen BK229.out 0
        have hfz13_1 := blk_frozen BK229.out 1
        go_wp2_with (first | ((with_reducible refine gate_callee (f := 14) rfl ?_); refine goesL_ (some 16) rfl rfl Tryd.func14 (by kernel_rfl) rfl #[.agg #[.int .i64 a0_0, .int .i64 a0_1]] rfl (by (try simp only [List.map_toArray, List.map_cons, List.map_nil]); first | done | rfl | (simp only [List.length_drop, List.length_take]; rfl)) ?_; (with_reducible refine (span_Check.calls a0_0 a0_1 t232 _ A9.out).mono ?_); rintro e w14 ⟨rfl, hb⟩; refine ⟨_, rfl, ?_⟩; have n0_ := Aside0.mk (blk_below (g := gb229) (o := .cells #[.int .i64 a0_0, .int .i64 a0_1] 23 (0, 0)) (by (with_reducible repeat (first | refine blk_drewN ?_ _ | refine blk_drew ?_ | refine blk_alloc ?_ _)); exact BK229.out) hb); have n1_ := Aside0.mk (blk_below (g := gb230) (o := .cells #[.int .i64 a1_0, .int .i64 a1_1] 23 (0, 0)) (by (with_reducible repeat (first | refine blk_drewN ?_ _ | refine blk_drew ?_ | refine blk_alloc ?_ _)); exact BK230.out) hb); have n2_ := Aside0.mk (below_step (by repeat (first | (with_reducible first | exact HB.out | apply below_alloc | apply pw_below_drewN | apply below_drew1 | refine below_set ?_ GE229.out | refine below_set ?_ GE230.out) | exact HB.out)) hb); clear BK229; clear BK230; clear HB; have BK229 := n0_; have BK230 := n1_; have HB := n2_; clear n0_ n1_ n2_; (try clear hb); (try clear hb2); (try clear hk); (try clear hi); have hcz15_0 : w14.cell? ⟨gb230, 0, none⟩ = some (.int .i64 a1_0) := (blk_cell BK230.out 0).trans rfl; have hcz15_1 : w14.cell? ⟨gb230, 1, none⟩ = some (.int .i64 a1_1) := (blk_cell BK230.out 1).trans rfl; have hfz15_0 := blk_frozen BK230.out 0; have hfz15_1 := blk_frozen BK230.out 1) | (go_at_call 14; (with_reducible refine (span_Check.calls a1_0 a1_1 t233 _ A11.out).mono ?_); rintro e w16 ⟨rfl, hb⟩; have n0_ := Aside0.mk (blk_below (g := gb229) (o := .cells #[.int .i64 a0_0, .int .i64 a0_1] 23 (0, 0)) (by (with_reducible repeat (first | refine blk_drewN ?_ _ | refine blk_drew ?_ | refine blk_alloc ?_ _)); exact BK229.out) hb); have n1_ := Aside0.mk (blk_below (g := gb230) (o := .cells #[.int .i64 a1_0, .int .i64 a1_1] 23 (0, 0)) (by (with_reducible repeat (first | refine blk_drewN ?_ _ | refine blk_drew ?_ | refine blk_alloc ?_ _)); exact BK230.out) hb); have n2_ := Aside0.mk (below_step (by repeat (first | (with_reducible first | exact HB.out | apply below_alloc | apply pw_below_drewN | apply below_drew1 | refine below_set ?_ GE229.out | refine below_set ?_ GE230.out) | exact HB.out)) hb); clear BK229; clear BK230; clear HB; have BK229 := n0_; have BK230 := n1_; have HB := n2_; clear n0_ n1_ n2_; (try clear hb); (try clear hb2); (try clear hk); (try clear hi)))
        go_meet
        case rel => exact ⟨_, ((t233 != 0)), (by first | rfl | (simp; done) | (simp [*]; done)), H', ⟨by first | omega | exact Nat.le_refl _⟩, ⟨by (with_reducible repeat (first | refine blk_drewN ?_ _ | refine blk_drew ?_ | refine blk_alloc ?_ _)); exact BK229.out⟩, ⟨by (with_reducible repeat (first | refine blk_drewN ?_ _ | refine blk_drew ?_ | refine blk_alloc ?_ _)); exact BK230.out⟩, ⟨by repeat (first | (with_reducible first | exact HB.out | apply below_alloc | apply pw_below_drewN | apply below_drew1 | refine below_set ?_ GE229.out | refine below_set ?_ GE230.out) | exact HB.out)⟩⟩
      · rw [if_neg c10] at H
        have c10b0 : (t232 == 0) = false := beq_eq_false_iff_ne.mpr c10
        have c10b1 : (t232 != 0) = true := bne_iff_ne.mpr c10
        (first | rw [c10b0] | (simp only [i64_w, i32_w]; rw [c10b0]) | skip)
        have H' := Aside0.mk H
        clear H
        have hnb17 := NB229_230.out
        have hnc17 := NB230_229.out
        have hcz18_0 : w8.cell? ⟨gb229, 0, none⟩ = some (.int .i64 a0_0) := (blk_cell BK229.out 0).trans rfl
        have hcz18_1 : w8.cell? ⟨gb229, 1, none⟩ = some (.int .i64 a0_1) := (blk_cell BK229.out 1).trans rfl
        have hfz18_0 := blk_frozen BK229.out 0
        have hfz18_1 := blk_frozen BK229.out 1
        go_wp2_with (first | ((with_reducible refine gate_callee (f := 14) rfl ?_); refine goesL_ (some 16) rfl rfl Tryd.func14 (by kernel_rfl) rfl #[.agg #[.int .i64 a0_0, .int .i64 a0_1]] rfl (by (try simp only [List.map_toArray, List.map_cons, List.map_nil]); first | done | rfl | (simp only [List.length_drop, List.length_take]; rfl)) ?_; (with_reducible refine (span_Check.calls a0_0 a0_1 t232 _ A9.out).mono ?_); rintro e w19 ⟨rfl, hb⟩; refine ⟨_, rfl, ?_⟩; have n0_ := Aside0.mk (blk_below (g := gb229) (o := .cells #[.int .i64 a0_0, .int .i64 a0_1] 23 (0, 0)) (by (with_reducible repeat (first | refine blk_drewN ?_ _ | refine blk_drew ?_ | refine blk_alloc ?_ _)); exact BK229.out) hb); have n1_ := Aside0.mk (blk_below (g := gb230) (o := .cells #[.int .i64 a1_0, .int .i64 a1_1] 23 (0, 0)) (by (with_reducible repeat (first | refine blk_drewN ?_ _ | refine blk_drew ?_ | refine blk_alloc ?_ _)); exact BK230.out) hb); have n2_ := Aside0.mk (below_step (by repeat (first | (with_reducible first | exact HB.out | apply below_alloc | apply pw_below_drewN | apply below_drew1 | refine below_set ?_ GE229.out | refine below_set ?_ GE230.out) | exact HB.out)) hb); clear BK229; clear BK230; clear HB; have BK229 := n0_; have BK230 := n1_; have HB := n2_; clear n0_ n1_ n2_; (try clear hb); (try clear hb2); (try clear hk); (try clear hi)))
        go_meet
        case rel => exact ⟨_, (true), (by first | rfl | (simp; done) | (simp [*]; done)), H', ⟨by first | omega | exact Nat.le_refl _⟩, ⟨by (with_reducible repeat (first | refine blk_drewN ?_ _ | refine blk_drew ?_ | refine blk_alloc ?_ _)); exact BK229.out⟩, ⟨by (with_reducible repeat (first | refine blk_drewN ?_ _ | refine blk_drew ?_ | refine blk_alloc ?_ _)); exact BK230.out⟩, ⟨by repeat (first | (with_reducible first | exact HB.out | apply below_alloc | apply pw_below_drewN | apply below_drew1 | refine below_set ?_ GE229.out | refine below_set ?_ GE230.out) | exact HB.out)⟩⟩
    case rest =>
      clear HC5
      try clear c1
      try clear p2
      try clear c4
      try clear c7
      try clear c9
      try clear c10
      try clear c10b0
      try clear c10b1
      try clear c12
      try clear c14
      try clear c17
      try clear hcz13_0
      try clear hcz13_1
      try clear hcz15_0
      try clear hcz15_1
      try clear hcz18_0
      try clear hcz18_1
      try clear hfz13_0
      try clear hfz13_1
      try clear hfz15_0
      try clear hfz15_1
      try clear hfz18_0
      try clear hfz18_1
      obtain ⟨kq, x22_4, rfl, HA, HJ4, BK229, BK230, HB⟩ := hcut
      cases kq with
      | zero => exact absurd HA.out (by simp [trommellaw10_SpanMeets.j0])
      | succ kj4 =>
        have H := HA.out
        clear HA
        simp only [trommellaw10_SpanMeets.j0] at H
        by_cases c20 : x22_4 = true
        · subst c20
          have H1 : (some true) = some r := by rw [if_pos rfl] at H; exact H
          clear H
          have H := H1
          clear H1
          obtain rfl := Option.some.inj H
          go_wp2
          go_ret
          exact ⟨by first | rfl | (simp [errW_none, errW_some] <;> rfl) | (simp [*, errW_none, errW_some] <;> rfl), by repeat (first | (with_reducible first | exact HB.out | apply below_alloc | apply pw_below_drewN | apply below_drew1 | refine below_set ?_ GE229.out | refine below_set ?_ GE230.out) | exact HB.out)⟩
        · replace c20 := Bool.eq_false_iff.mpr c20
          subst c20
          have H1 : (if a0_0 > a1_0 then (trommellaw10_SpanMeets.j1 kj4 a1_0 a1_1 a0_0 a0_1) else (trommellaw10_SpanMeets.j1 kj4 a0_0 a0_1 a1_0 a1_1)) = some r := by rw [if_neg (show ¬ (false = true) by decide)] at H; exact H
          clear H
          have H := H1
          clear H1
          have HC21 := Aside0.mk H
          clear H
          have hnb22 := NB229_230.out
          have hnc22 := NB230_229.out
          have hcz23_0 : wc.cell? ⟨gb229, 0, none⟩ = some (.int .i64 a0_0) := (blk_cell BK229.out 0).trans rfl
          have hcz23_1 : wc.cell? ⟨gb229, 1, none⟩ = some (.int .i64 a0_1) := (blk_cell BK229.out 1).trans rfl
          have hfz23_0 := blk_frozen BK229.out 0
          have hfz23_1 := blk_frozen BK229.out 1
          have hcz24_0 : wc.cell? ⟨gb230, 0, none⟩ = some (.int .i64 a1_0) := (blk_cell BK230.out 0).trans rfl
          have hcz24_1 : wc.cell? ⟨gb230, 1, none⟩ = some (.int .i64 a1_1) := (blk_cell BK230.out 1).trans rfl
          have hfz24_0 := blk_frozen BK230.out 0
          have hfz24_1 := blk_frozen BK230.out 1
          go_upto_if 27 with (fail)
          go_cut [] (fun wc => ∃ (kq : Nat) (x230000_20 : Int) (x230001_20 : Int) (x231000_20 : Int) (x231001_20 : Int), Aside0 (trommellaw10_SpanMeets.j1 kq x230000_20 x230001_20 x231000_20 x231001_20 = some r) ∧ Aside0 (kq ≤ kj4) ∧ Aside0 (wc.heap[gb229]? = some (.cells #[.int .i64 x230000_20, .int .i64 x230001_20] 23 (0, 0))) ∧ Aside0 (wc.heap[gb230]? = some (.cells #[.int .i64 x231000_20, .int .i64 x231001_20] 23 (0, 0))) ∧ Aside0 (Below w.heap.size w wc))
          case first =>
            have H := HC21.out
            clear HC21
            by_cases c25 : a0_0 > a1_0
            · rw [if_pos c25] at H
              have c25b0 : decide (a1_0 < a0_0) = true := decide_eq_true c25
              clear c25
              (first | rw [c25b0] | (simp only [i64_w, i32_w]; rw [c25b0]) | skip)
              have H' := Aside0.mk H
              clear H
              have hnb26 := NB230_229.out
              have hnc26 := NB229_230.out
              have hcz27_0 : wc.cell? ⟨gb230, 0, none⟩ = some (.int .i64 a1_0) := (blk_cell BK230.out 0).trans rfl
              have hcz27_1 : wc.cell? ⟨gb230, 1, none⟩ = some (.int .i64 a1_1) := (blk_cell BK230.out 1).trans rfl
              have hfz27_0 := blk_frozen BK230.out 0
              have hfz27_1 := blk_frozen BK230.out 1
              have hcz28_0 : wc.cell? ⟨gb229, 0, none⟩ = some (.int .i64 a0_0) := (blk_cell BK229.out 0).trans rfl
              have hcz28_1 : wc.cell? ⟨gb229, 1, none⟩ = some (.int .i64 a0_1) := (blk_cell BK229.out 1).trans rfl
              have hfz28_0 := blk_frozen BK229.out 0
              have hfz28_1 := blk_frozen BK229.out 1
              go_wp2
              go_meet
              case rel => exact ⟨_, (a1_0), (a1_1), (a0_0), (a0_1), H', ⟨by have := HJ4.out; first | omega | exact Nat.le_refl _⟩, ⟨by (with_reducible repeat (first | refine blk_drewN ?_ _ | refine blk_drew ?_ | refine blk_alloc ?_ _)); refine blk_far ?_ NB229_230.out _; (with_reducible repeat (first | refine blk_drewN ?_ _ | refine blk_drew ?_ | refine blk_alloc ?_ _)); refine blk_far ?_ NB229_230.out _; (with_reducible repeat (first | refine blk_drewN ?_ _ | refine blk_drew ?_ | refine blk_alloc ?_ _)); refine blk_put (cs := #[.int .i64 a1_0, .int .i64 a0_1]) ?_ 1 _ rfl; (with_reducible repeat (first | refine blk_drewN ?_ _ | refine blk_drew ?_ | refine blk_alloc ?_ _)); refine blk_put (cs := #[.int .i64 a0_0, .int .i64 a0_1]) ?_ 0 _ rfl; (with_reducible repeat (first | refine blk_drewN ?_ _ | refine blk_drew ?_ | refine blk_alloc ?_ _)); exact BK229.out⟩, ⟨by (with_reducible repeat (first | refine blk_drewN ?_ _ | refine blk_drew ?_ | refine blk_alloc ?_ _)); refine blk_put (cs := #[.int .i64 a0_0, .int .i64 a1_1]) ?_ 1 _ rfl; (with_reducible repeat (first | refine blk_drewN ?_ _ | refine blk_drew ?_ | refine blk_alloc ?_ _)); refine blk_put (cs := #[.int .i64 a1_0, .int .i64 a1_1]) ?_ 0 _ rfl; (with_reducible repeat (first | refine blk_drewN ?_ _ | refine blk_drew ?_ | refine blk_alloc ?_ _)); refine blk_far ?_ NB230_229.out _; (with_reducible repeat (first | refine blk_drewN ?_ _ | refine blk_drew ?_ | refine blk_alloc ?_ _)); refine blk_far ?_ NB230_229.out _; (with_reducible repeat (first | refine blk_drewN ?_ _ | refine blk_drew ?_ | refine blk_alloc ?_ _)); exact BK230.out⟩, ⟨by repeat (first | (with_reducible first | exact HB.out | apply below_alloc | apply pw_below_drewN | apply below_drew1 | refine below_set ?_ GE229.out | refine below_set ?_ GE230.out) | exact HB.out)⟩⟩
            · rw [if_neg c25] at H
              have c25b0 : decide (a1_0 < a0_0) = false := decide_eq_false c25
              clear c25
              (first | rw [c25b0] | (simp only [i64_w, i32_w]; rw [c25b0]) | skip)
              have H' := Aside0.mk H
              clear H
              go_wp2
              go_meet
              case rel => exact ⟨_, (a0_0), (a0_1), (a1_0), (a1_1), H', ⟨by have := HJ4.out; first | omega | exact Nat.le_refl _⟩, ⟨by (with_reducible repeat (first | refine blk_drewN ?_ _ | refine blk_drew ?_ | refine blk_alloc ?_ _)); exact BK229.out⟩, ⟨by (with_reducible repeat (first | refine blk_drewN ?_ _ | refine blk_drew ?_ | refine blk_alloc ?_ _)); exact BK230.out⟩, ⟨by repeat (first | (with_reducible first | exact HB.out | apply below_alloc | apply pw_below_drewN | apply below_drew1 | refine below_set ?_ GE229.out | refine below_set ?_ GE230.out) | exact HB.out)⟩⟩
          case rest =>
            clear HC21
            try clear c1
            try clear c2
            try clear p2
            try clear c4
            try clear c7
            try clear c9
            try clear c10
            try clear c10b0
            try clear c10b1
            try clear c12
            try clear c14
            try clear c17
            try clear c20
            try clear c22
            try clear c25
            try clear c25b0
            try clear c26
            try clear hcz13_0
            try clear hcz13_1
            try clear hcz15_0
            try clear hcz15_1
            try clear hcz18_0
            try clear hcz18_1
            try clear hcz23_0
            try clear hcz23_1
            try clear hcz24_0
            try clear hcz24_1
            try clear hcz27_0
            try clear hcz27_1
            try clear hcz28_0
            try clear hcz28_1
            try clear hfz13_0
            try clear hfz13_1
            try clear hfz15_0
            try clear hfz15_1
            try clear hfz18_0
            try clear hfz18_1
            try clear hfz23_0
            try clear hfz23_1
            try clear hfz24_0
            try clear hfz24_1
            try clear hfz27_0
            try clear hfz27_1
            try clear hfz28_0
            try clear hfz28_1
            try clear p2
            obtain ⟨kq, x230000_20, x230001_20, x231000_20, x231001_20, HA, HJ20, BK229, BK230, HB⟩ := hcut
            cases kq with
            | zero => exact absurd HA.out (by simp [trommellaw10_SpanMeets.j1])
            | succ kj20 =>
              have H := HA.out
              clear HA
              simp only [trommellaw10_SpanMeets.j1] at H
              replace H := Option.bind_eq_some_iff.mp H
              obtain ⟨⟨t234, t235⟩, A290, H⟩ := H
              replace H : ((span_Bounds.f x231000_20 x231001_20).bind fun bt236 => (if 0 ≤ x230000_20 then (if (wrap64 ((wrap64 (t235 - t234)) + 1)) = (shl .i64 1 x230000_20) then (if 0 ≤ x231000_20 then (if (wrap64 ((wrap64 (bt236.2 - bt236.1)) + 1)) = (shl .i64 1 x231000_20) then ((span_Has.f x230000_20 x230001_20 t234).bind fun t238 => (if t238 = true then ((span_Has.f x230000_20 x230001_20 t235).bind fun t239 => (if t239 = true then ((span_Has.f x230000_20 x230001_20 (wrap64 (t234 - 1))).bind fun t240 => (if t240 = true then (trommellaw10_SpanMeets.j2 kj20 t234 t235 bt236.1 bt236.2 true x230000_20 x230001_20 x231000_20 x231001_20) else ((span_Has.f x230000_20 x230001_20 (wrap64 (t235 + 1))).bind fun t241 => (trommellaw10_SpanMeets.j2 kj20 t234 t235 bt236.1 bt236.2 t241 x230000_20 x230001_20 x231000_20 x231001_20)))) else (trommellaw10_SpanMeets.j2 kj20 t234 t235 bt236.1 bt236.2 true x230000_20 x230001_20 x231000_20 x231001_20))) else (trommellaw10_SpanMeets.j2 kj20 t234 t235 bt236.1 bt236.2 true x230000_20 x230001_20 x231000_20 x231001_20))) else (trommellaw10_SpanMeets.j2 kj20 t234 t235 bt236.1 bt236.2 true x230000_20 x230001_20 x231000_20 x231001_20)) else (none)) else (trommellaw10_SpanMeets.j2 kj20 t234 t235 bt236.1 bt236.2 true x230000_20 x230001_20 x231000_20 x231001_20)) else (none))) = some r := H
              have A29 := Aside0.mk A290
              clear A290
              replace H := Option.bind_eq_some_iff.mp H
              obtain ⟨⟨t236, t237⟩, A300, H⟩ := H
              replace H : (if 0 ≤ x230000_20 then (if (wrap64 ((wrap64 (t235 - t234)) + 1)) = (shl .i64 1 x230000_20) then (if 0 ≤ x231000_20 then (if (wrap64 ((wrap64 (t237 - t236)) + 1)) = (shl .i64 1 x231000_20) then ((span_Has.f x230000_20 x230001_20 t234).bind fun t238 => (if t238 = true then ((span_Has.f x230000_20 x230001_20 t235).bind fun t239 => (if t239 = true then ((span_Has.f x230000_20 x230001_20 (wrap64 (t234 - 1))).bind fun t240 => (if t240 = true then (trommellaw10_SpanMeets.j2 kj20 t234 t235 t236 t237 true x230000_20 x230001_20 x231000_20 x231001_20) else ((span_Has.f x230000_20 x230001_20 (wrap64 (t235 + 1))).bind fun t241 => (trommellaw10_SpanMeets.j2 kj20 t234 t235 t236 t237 t241 x230000_20 x230001_20 x231000_20 x231001_20)))) else (trommellaw10_SpanMeets.j2 kj20 t234 t235 t236 t237 true x230000_20 x230001_20 x231000_20 x231001_20))) else (trommellaw10_SpanMeets.j2 kj20 t234 t235 t236 t237 true x230000_20 x230001_20 x231000_20 x231001_20))) else (trommellaw10_SpanMeets.j2 kj20 t234 t235 t236 t237 true x230000_20 x230001_20 x231000_20 x231001_20)) else (none)) else (trommellaw10_SpanMeets.j2 kj20 t234 t235 t236 t237 true x230000_20 x230001_20 x231000_20 x231001_20)) else (none)) = some r := H
              have A30 := Aside0.mk A300
              clear A300
              have HC31 := Aside0.mk H
              clear H
              have hnb32 := NB229_230.out
              have hnc32 := NB230_229.out
              have hcz33_0 : wc.cell? ⟨gb229, 0, none⟩ = some (.int .i64 x230000_20) := (blk_cell BK229.out 0).trans rfl
              have hcz33_1 : wc.cell? ⟨gb229, 1, none⟩ = some (.int .i64 x230001_20) := (blk_cell BK229.out 1).trans rfl
              have hfz33_0 := blk_frozen BK229.out 0
              have hfz33_1 := blk_frozen BK229.out 1
              go_upto_region 9 with (first | ((with_reducible refine gate_callee (f := 10) rfl ?_); refine goesL_ (some 32) rfl rfl Tryd.func10 (by kernel_rfl) rfl #[.agg #[.int .i64 x230000_20, .int .i64 x230001_20]] rfl (by (try simp only [List.map_toArray, List.map_cons, List.map_nil]); first | done | rfl | (simp only [List.length_drop, List.length_take]; rfl)) ?_; (with_reducible refine (span_Bounds.calls x230000_20 x230001_20 t234 t235 _ A29.out).mono ?_); rintro e w34 ⟨rfl, hb⟩; refine ⟨_, rfl, ?_⟩; have n0_ := Aside0.mk (blk_below (g := gb229) (o := .cells #[.int .i64 x230000_20, .int .i64 x230001_20] 23 (0, 0)) (by (with_reducible repeat (first | refine blk_drewN ?_ _ | refine blk_drew ?_ | refine blk_alloc ?_ _)); exact BK229.out) hb); have n1_ := Aside0.mk (blk_below (g := gb230) (o := .cells #[.int .i64 x231000_20, .int .i64 x231001_20] 23 (0, 0)) (by (with_reducible repeat (first | refine blk_drewN ?_ _ | refine blk_drew ?_ | refine blk_alloc ?_ _)); exact BK230.out) hb); have n2_ := Aside0.mk (below_step (by repeat (first | (with_reducible first | exact HB.out | apply below_alloc | apply pw_below_drewN | apply below_drew1 | refine below_set ?_ GE229.out | refine below_set ?_ GE230.out) | exact HB.out)) hb); clear BK229; clear BK230; clear HB; have BK229 := n0_; have BK230 := n1_; have HB := n2_; clear n0_ n1_ n2_; (try clear hb); (try clear hb2); (try clear hk); (try clear hi); have hcz35_0 : w34.cell? ⟨gb230, 0, none⟩ = some (.int .i64 x231000_20) := (blk_cell BK230.out 0).trans rfl; have hcz35_1 : w34.cell? ⟨gb230, 1, none⟩ = some (.int .i64 x231001_20) := (blk_cell BK230.out 1).trans rfl; have hfz35_0 := blk_frozen BK230.out 0; have hfz35_1 := blk_frozen BK230.out 1) | ((with_reducible refine gate_callee (f := 10) rfl ?_); refine goesL_ (some 37) rfl rfl Tryd.func10 (by kernel_rfl) rfl #[.agg #[.int .i64 x231000_20, .int .i64 x231001_20]] rfl (by (try simp only [List.map_toArray, List.map_cons, List.map_nil]); first | done | rfl | (simp only [List.length_drop, List.length_take]; rfl)) ?_; (with_reducible refine (span_Bounds.calls x231000_20 x231001_20 t236 t237 _ A30.out).mono ?_); rintro e w36 ⟨rfl, hb⟩; refine ⟨_, rfl, ?_⟩; have n0_ := Aside0.mk (blk_below (g := gb229) (o := .cells #[.int .i64 x230000_20, .int .i64 x230001_20] 23 (0, 0)) (by (with_reducible repeat (first | refine blk_drewN ?_ _ | refine blk_drew ?_ | refine blk_alloc ?_ _)); exact BK229.out) hb); have n1_ := Aside0.mk (blk_below (g := gb230) (o := .cells #[.int .i64 x231000_20, .int .i64 x231001_20] 23 (0, 0)) (by (with_reducible repeat (first | refine blk_drewN ?_ _ | refine blk_drew ?_ | refine blk_alloc ?_ _)); exact BK230.out) hb); have n2_ := Aside0.mk (below_step (by repeat (first | (with_reducible first | exact HB.out | apply below_alloc | apply pw_below_drewN | apply below_drew1 | refine below_set ?_ GE229.out | refine below_set ?_ GE230.out) | exact HB.out)) hb); clear BK229; clear BK230; clear HB; have BK229 := n0_; have BK230 := n1_; have HB := n2_; clear n0_ n1_ n2_; (try clear hb); (try clear hb2); (try clear hk); (try clear hi)))
              (try simp only [Act.put, List.setIfInBounds_toArray, List.set_cons_zero, List.set_cons_succ])
              go_cut [81] (fun v81 wc => ∃ (kq : Nat) (x81_30 : Bool), v81 = .bool x81_30 ∧ Aside0 (trommellaw10_SpanMeets.j2 kq t234 t235 t236 t237 x81_30 x230000_20 x230001_20 x231000_20 x231001_20 = some r) ∧ Aside0 (kq ≤ kj20) ∧ Aside0 (wc.heap[gb229]? = some (.cells #[.int .i64 x230000_20, .int .i64 x230001_20] 23 (0, 0))) ∧ Aside0 (wc.heap[gb230]? = some (.cells #[.int .i64 x231000_20, .int .i64 x231001_20] 23 (0, 0))) ∧ Aside0 (Below w.heap.size w wc))
              case first =>
                have H := HC31.out
                clear HC31
                by_cases c37 : 0 ≤ x230000_20
                · rw [if_pos c37] at H
                  have c37b0 := eq_true c37
                  have c37b1 : decide (0 ≤ x230000_20) = true := decide_eq_true c37
                  clear c37
                  obtain ⟨ji38, hji38⟩ : ∃ j_ : Int, (shl .i64 1 x230000_20) = j_ := ⟨_, rfl⟩
                  replace H : (if (wrap64 ((wrap64 (t235 - t234)) + 1)) = (ji38) then (if 0 ≤ x231000_20 then (if (wrap64 ((wrap64 (t237 - t236)) + 1)) = (shl .i64 1 x231000_20) then ((span_Has.f x230000_20 x230001_20 t234).bind fun t238 => (if t238 = true then ((span_Has.f x230000_20 x230001_20 t235).bind fun t239 => (if t239 = true then ((span_Has.f x230000_20 x230001_20 (wrap64 (t234 - 1))).bind fun t240 => (if t240 = true then (trommellaw10_SpanMeets.j2 kj20 t234 t235 t236 t237 true x230000_20 x230001_20 x231000_20 x231001_20) else ((span_Has.f x230000_20 x230001_20 (wrap64 (t235 + 1))).bind fun t241 => (trommellaw10_SpanMeets.j2 kj20 t234 t235 t236 t237 t241 x230000_20 x230001_20 x231000_20 x231001_20)))) else (trommellaw10_SpanMeets.j2 kj20 t234 t235 t236 t237 true x230000_20 x230001_20 x231000_20 x231001_20))) else (trommellaw10_SpanMeets.j2 kj20 t234 t235 t236 t237 true x230000_20 x230001_20 x231000_20 x231001_20))) else (trommellaw10_SpanMeets.j2 kj20 t234 t235 t236 t237 true x230000_20 x230001_20 x231000_20 x231001_20)) else (none)) else (trommellaw10_SpanMeets.j2 kj20 t234 t235 t236 t237 true x230000_20 x230001_20 x231000_20 x231001_20)) = some r := by first | (rw [hji38] at H; exact H) | (simp only [hji38] at H ⊢; exact H)
                  have hji38_ : (IntKind.i64.wrap (1 * 2 ^ min x230000_20.toNat 64)) = ji38 := hji38
                  have hji38z : x230000_20 ≤ 64 → (IntKind.i64.wrap (1 * 2 ^ x230000_20.toNat)) = ji38 := shl_small hji38
                  have hji38u : (IntKind.i64.wrap (2 ^ min x230000_20.toNat 64)) = ji38 := by have h_ := hji38_; rw [Int.one_mul] at h_; exact h_
                  have hji38v : x230000_20 ≤ 64 → (IntKind.i64.wrap (2 ^ x230000_20.toNat)) = ji38 := fun hle_ => by have h_ := hji38z hle_; rw [Int.one_mul] at h_; exact h_
                  have hji38y : (wrap64 (1 * 2 ^ min x230000_20.toNat 64)) = ji38 := (i64_w _).symm.trans hji38_
                  have hji38x : x230000_20 ≤ 64 → (wrap64 (1 * 2 ^ x230000_20.toNat)) = ji38 := fun h_ => (i64_w _).symm.trans (hji38z h_)
                  by_cases c39 : (wrap64 ((wrap64 (t235 - t234)) + 1)) = (ji38)
                  · rw [if_pos c39] at H
                    have c39b0 : ((wrap64 ((wrap64 (t235 - t234)) + 1)) == (ji38)) = true := beq_iff_eq.mpr c39
                    have c39b1 : ((wrap64 ((wrap64 (t235 - t234)) + 1)) != (ji38)) = false := bne_eq_false_iff_eq.mpr c39
                    clear c39
                    (first | rw [c39b0] | (simp only [i64_w, i32_w]; rw [c39b0]) | skip)
                    by_cases c40 : 0 ≤ x231000_20
                    · rw [if_pos c40] at H
                      have c40b0 := eq_true c40
                      have c40b1 : decide (0 ≤ x231000_20) = true := decide_eq_true c40
                      clear c40
                      obtain ⟨ji41, hji41⟩ : ∃ j_ : Int, (shl .i64 1 x231000_20) = j_ := ⟨_, rfl⟩
                      replace H : (if (wrap64 ((wrap64 (t237 - t236)) + 1)) = (ji41) then ((span_Has.f x230000_20 x230001_20 t234).bind fun t238 => (if t238 = true then ((span_Has.f x230000_20 x230001_20 t235).bind fun t239 => (if t239 = true then ((span_Has.f x230000_20 x230001_20 (wrap64 (t234 - 1))).bind fun t240 => (if t240 = true then (trommellaw10_SpanMeets.j2 kj20 t234 t235 t236 t237 true x230000_20 x230001_20 x231000_20 x231001_20) else ((span_Has.f x230000_20 x230001_20 (wrap64 (t235 + 1))).bind fun t241 => (trommellaw10_SpanMeets.j2 kj20 t234 t235 t236 t237 t241 x230000_20 x230001_20 x231000_20 x231001_20)))) else (trommellaw10_SpanMeets.j2 kj20 t234 t235 t236 t237 true x230000_20 x230001_20 x231000_20 x231001_20))) else (trommellaw10_SpanMeets.j2 kj20 t234 t235 t236 t237 true x230000_20 x230001_20 x231000_20 x231001_20))) else (trommellaw10_SpanMeets.j2 kj20 t234 t235 t236 t237 true x230000_20 x230001_20 x231000_20 x231001_20)) = some r := by first | (rw [hji41] at H; exact H) | (simp only [hji41] at H ⊢; exact H)
                      have hji41_ : (IntKind.i64.wrap (1 * 2 ^ min x231000_20.toNat 64)) = ji41 := hji41
                      have hji41z : x231000_20 ≤ 64 → (IntKind.i64.wrap (1 * 2 ^ x231000_20.toNat)) = ji41 := shl_small hji41
                      have hji41u : (IntKind.i64.wrap (2 ^ min x231000_20.toNat 64)) = ji41 := by have h_ := hji41_; rw [Int.one_mul] at h_; exact h_
                      have hji41v : x231000_20 ≤ 64 → (IntKind.i64.wrap (2 ^ x231000_20.toNat)) = ji41 := fun hle_ => by have h_ := hji41z hle_; rw [Int.one_mul] at h_; exact h_
                      have hji41y : (wrap64 (1 * 2 ^ min x231000_20.toNat 64)) = ji41 := (i64_w _).symm.trans hji41_
                      have hji41x : x231000_20 ≤ 64 → (wrap64 (1 * 2 ^ x231000_20.toNat)) = ji41 := fun h_ => (i64_w _).symm.trans (hji41z h_)
                      by_cases c42 : (wrap64 ((wrap64 (t237 - t236)) + 1)) = (ji41)
                      · rw [if_pos c42] at H
                        have c42b0 : ((wrap64 ((wrap64 (t237 - t236)) + 1)) == (ji41)) = true := beq_iff_eq.mpr c42
                        have c42b1 : ((wrap64 ((wrap64 (t237 - t236)) + 1)) != (ji41)) = false := bne_eq_false_iff_eq.mpr c42
                        clear c42
                        replace H := Option.bind_eq_some_iff.mp H
                        obtain ⟨t238, A430, H⟩ := H
                        replace H : (if t238 = true then ((span_Has.f x230000_20 x230001_20 t235).bind fun t239 => (if t239 = true then ((span_Has.f x230000_20 x230001_20 (wrap64 (t234 - 1))).bind fun t240 => (if t240 = true then (trommellaw10_SpanMeets.j2 kj20 t234 t235 t236 t237 true x230000_20 x230001_20 x231000_20 x231001_20) else ((span_Has.f x230000_20 x230001_20 (wrap64 (t235 + 1))).bind fun t241 => (trommellaw10_SpanMeets.j2 kj20 t234 t235 t236 t237 t241 x230000_20 x230001_20 x231000_20 x231001_20)))) else (trommellaw10_SpanMeets.j2 kj20 t234 t235 t236 t237 true x230000_20 x230001_20 x231000_20 x231001_20))) else (trommellaw10_SpanMeets.j2 kj20 t234 t235 t236 t237 true x230000_20 x230001_20 x231000_20 x231001_20)) = some r := H
                        have A43 := Aside0.mk A430
                        clear A430
                        by_cases c44 : t238 = true
                        · subst c44
                          have H1 : ((span_Has.f x230000_20 x230001_20 t235).bind fun t239 => (if t239 = true then ((span_Has.f x230000_20 x230001_20 (wrap64 (t234 - 1))).bind fun t240 => (if t240 = true then (trommellaw10_SpanMeets.j2 kj20 t234 t235 t236 t237 true x230000_20 x230001_20 x231000_20 x231001_20) else ((span_Has.f x230000_20 x230001_20 (wrap64 (t235 + 1))).bind fun t241 => (trommellaw10_SpanMeets.j2 kj20 t234 t235 t236 t237 t241 x230000_20 x230001_20 x231000_20 x231001_20)))) else (trommellaw10_SpanMeets.j2 kj20 t234 t235 t236 t237 true x230000_20 x230001_20 x231000_20 x231001_20))) = some r := by rw [if_pos rfl] at H; exact H
                          clear H
                          have H := H1
                          clear H1
                          replace H := Option.bind_eq_some_iff.mp H
                          obtain ⟨t239, A450, H⟩ := H
                          replace H : (if t239 = true then ((span_Has.f x230000_20 x230001_20 (wrap64 (t234 - 1))).bind fun t240 => (if t240 = true then (trommellaw10_SpanMeets.j2 kj20 t234 t235 t236 t237 true x230000_20 x230001_20 x231000_20 x231001_20) else ((span_Has.f x230000_20 x230001_20 (wrap64 (t235 + 1))).bind fun t241 => (trommellaw10_SpanMeets.j2 kj20 t234 t235 t236 t237 t241 x230000_20 x230001_20 x231000_20 x231001_20)))) else (trommellaw10_SpanMeets.j2 kj20 t234 t235 t236 t237 true x230000_20 x230001_20 x231000_20 x231001_20)) = some r := H
                          have A45 := Aside0.mk A450
                          clear A450
                          by_cases c46 : t239 = true
                          · subst c46
                            have H1 : ((span_Has.f x230000_20 x230001_20 (wrap64 (t234 - 1))).bind fun t240 => (if t240 = true then (trommellaw10_SpanMeets.j2 kj20 t234 t235 t236 t237 true x230000_20 x230001_20 x231000_20 x231001_20) else ((span_Has.f x230000_20 x230001_20 (wrap64 (t235 + 1))).bind fun t241 => (trommellaw10_SpanMeets.j2 kj20 t234 t235 t236 t237 t241 x230000_20 x230001_20 x231000_20 x231001_20)))) = some r := by rw [if_pos rfl] at H; exact H
                            clear H
                            have H := H1
                            clear H1
                            replace H := Option.bind_eq_some_iff.mp H
                            obtain ⟨t240, A470, H⟩ := H
                            replace H : (if t240 = true then (trommellaw10_SpanMeets.j2 kj20 t234 t235 t236 t237 true x230000_20 x230001_20 x231000_20 x231001_20) else ((span_Has.f x230000_20 x230001_20 (wrap64 (t235 + 1))).bind fun t241 => (trommellaw10_SpanMeets.j2 kj20 t234 t235 t236 t237 t241 x230000_20 x230001_20 x231000_20 x231001_20))) = some r := H
                            have A47 := Aside0.mk A470
                            clear A470
                            by_cases c48 : t240 = true
                            · subst c48
                              have H1 : (trommellaw10_SpanMeets.j2 kj20 t234 t235 t236 t237 true x230000_20 x230001_20 x231000_20 x231001_20) = some r := by rw [if_pos rfl] at H; exact H
                              clear H
                              have H := H1
                              clear H1
                              have H' := Aside0.mk H
                              clear H
                              have hnb49 := NB229_230.out
                              have hnc49 := NB230_229.out
                              have hcz50_0 : w36.cell? ⟨gb229, 0, none⟩ = some (.int .i64 x230000_20) := (blk_cell BK229.out 0).trans rfl
                              have hcz50_1 : w36.cell? ⟨gb229, 1, none⟩ = some (.int .i64 x230001_20) := (blk_cell BK229.out 1).trans rfl
                              have hfz50_0 := blk_frozen BK229.out 0
                              have hfz50_1 := blk_frozen BK229.out 1
                              have hcz51_0 : w36.cell? ⟨gb230, 0, none⟩ = some (.int .i64 x231000_20) := (blk_cell BK230.out 0).trans rfl
                              have hcz51_1 : w36.cell? ⟨gb230, 1, none⟩ = some (.int .i64 x231001_20) := (blk_cell BK230.out 1).trans rfl
                              have hfz51_0 := blk_frozen BK230.out 0
                              have hfz51_1 := blk_frozen BK230.out 1
                              go_wp2_with (first | (go_at_call 16; (with_reducible refine (span_Has.calls x230000_20 x230001_20 t234 true _ A43.out).mono ?_); rintro e w52 ⟨rfl, hb⟩; have n0_ := Aside0.mk (blk_below (g := gb229) (o := .cells #[.int .i64 x230000_20, .int .i64 x230001_20] 23 (0, 0)) (by (with_reducible repeat (first | refine blk_drewN ?_ _ | refine blk_drew ?_ | refine blk_alloc ?_ _)); exact BK229.out) hb); have n1_ := Aside0.mk (blk_below (g := gb230) (o := .cells #[.int .i64 x231000_20, .int .i64 x231001_20] 23 (0, 0)) (by (with_reducible repeat (first | refine blk_drewN ?_ _ | refine blk_drew ?_ | refine blk_alloc ?_ _)); exact BK230.out) hb); have n2_ := Aside0.mk (below_step (by repeat (first | (with_reducible first | exact HB.out | apply below_alloc | apply pw_below_drewN | apply below_drew1 | refine below_set ?_ GE229.out | refine below_set ?_ GE230.out) | exact HB.out)) hb); clear BK229; clear BK230; clear HB; have BK229 := n0_; have BK230 := n1_; have HB := n2_; clear n0_ n1_ n2_; (try clear hb); (try clear hb2); (try clear hk); (try clear hi); have hcz53_0 : w52.cell? ⟨gb229, 0, none⟩ = some (.int .i64 x230000_20) := (blk_cell BK229.out 0).trans rfl; have hcz53_1 : w52.cell? ⟨gb229, 1, none⟩ = some (.int .i64 x230001_20) := (blk_cell BK229.out 1).trans rfl; have hfz53_0 := blk_frozen BK229.out 0; have hfz53_1 := blk_frozen BK229.out 1) | (go_at_call 16; (with_reducible refine (span_Has.calls x230000_20 x230001_20 t235 true _ A45.out).mono ?_); rintro e w54 ⟨rfl, hb⟩; have n0_ := Aside0.mk (blk_below (g := gb229) (o := .cells #[.int .i64 x230000_20, .int .i64 x230001_20] 23 (0, 0)) (by (with_reducible repeat (first | refine blk_drewN ?_ _ | refine blk_drew ?_ | refine blk_alloc ?_ _)); exact BK229.out) hb); have n1_ := Aside0.mk (blk_below (g := gb230) (o := .cells #[.int .i64 x231000_20, .int .i64 x231001_20] 23 (0, 0)) (by (with_reducible repeat (first | refine blk_drewN ?_ _ | refine blk_drew ?_ | refine blk_alloc ?_ _)); exact BK230.out) hb); have n2_ := Aside0.mk (below_step (by repeat (first | (with_reducible first | exact HB.out | apply below_alloc | apply pw_below_drewN | apply below_drew1 | refine below_set ?_ GE229.out | refine below_set ?_ GE230.out) | exact HB.out)) hb); clear BK229; clear BK230; clear HB; have BK229 := n0_; have BK230 := n1_; have HB := n2_; clear n0_ n1_ n2_; (try clear hb); (try clear hb2); (try clear hk); (try clear hi); have hcz55_0 : w54.cell? ⟨gb229, 0, none⟩ = some (.int .i64 x230000_20) := (blk_cell BK229.out 0).trans rfl; have hcz55_1 : w54.cell? ⟨gb229, 1, none⟩ = some (.int .i64 x230001_20) := (blk_cell BK229.out 1).trans rfl; have hfz55_0 := blk_frozen BK229.out 0; have hfz55_1 := blk_frozen BK229.out 1) | (go_at_call 16; (with_reducible refine (span_Has.calls x230000_20 x230001_20 (wrap64 (t234 - 1)) true _ A47.out).mono ?_); rintro e w56 ⟨rfl, hb⟩; have n0_ := Aside0.mk (blk_below (g := gb229) (o := .cells #[.int .i64 x230000_20, .int .i64 x230001_20] 23 (0, 0)) (by (with_reducible repeat (first | refine blk_drewN ?_ _ | refine blk_drew ?_ | refine blk_alloc ?_ _)); exact BK229.out) hb); have n1_ := Aside0.mk (blk_below (g := gb230) (o := .cells #[.int .i64 x231000_20, .int .i64 x231001_20] 23 (0, 0)) (by (with_reducible repeat (first | refine blk_drewN ?_ _ | refine blk_drew ?_ | refine blk_alloc ?_ _)); exact BK230.out) hb); have n2_ := Aside0.mk (below_step (by repeat (first | (with_reducible first | exact HB.out | apply below_alloc | apply pw_below_drewN | apply below_drew1 | refine below_set ?_ GE229.out | refine below_set ?_ GE230.out) | exact HB.out)) hb); clear BK229; clear BK230; clear HB; have BK229 := n0_; have BK230 := n1_; have HB := n2_; clear n0_ n1_ n2_; (try clear hb); (try clear hb2); (try clear hk); (try clear hi)))
                              go_meet
                              case rel => exact ⟨_, (true), (by first | rfl | (simp; done) | (simp [*]; done)), H', ⟨by have := HJ4.out; have := HJ20.out; first | omega | exact Nat.le_refl _⟩, ⟨by (with_reducible repeat (first | refine blk_drewN ?_ _ | refine blk_drew ?_ | refine blk_alloc ?_ _)); exact BK229.out⟩, ⟨by (with_reducible repeat (first | refine blk_drewN ?_ _ | refine blk_drew ?_ | refine blk_alloc ?_ _)); exact BK230.out⟩, ⟨by repeat (first | (with_reducible first | exact HB.out | apply below_alloc | apply pw_below_drewN | apply below_drew1 | refine below_set ?_ GE229.out | refine below_set ?_ GE230.out) | exact HB.out)⟩⟩
                            · replace c48 := Bool.eq_false_iff.mpr c48
                              subst c48
                              have H1 : ((span_Has.f x230000_20 x230001_20 (wrap64 (t235 + 1))).bind fun t241 => (trommellaw10_SpanMeets.j2 kj20 t234 t235 t236 t237 t241 x230000_20 x230001_20 x231000_20 x231001_20)) = some r := by rw [if_neg (show ¬ (false = true) by decide)] at H; exact H
                              clear H
                              have H := H1
                              clear H1
                              replace H := Option.bind_eq_some_iff.mp H
                              obtain ⟨t241, A570, H⟩ := H
                              replace H : (trommellaw10_SpanMeets.j2 kj20 t234 t235 t236 t237 t241 x230000_20 x230001_20 x231000_20 x231001_20) = some r := H
                              have A57 := Aside0.mk A570
                              clear A570
                              have H' := Aside0.mk H
                              clear H
                              have hnb58 := NB229_230.out
                              have hnc58 := NB230_229.out
                              have hcz59_0 : w36.cell? ⟨gb229, 0, none⟩ = some (.int .i64 x230000_20) := (blk_cell BK229.out 0).trans rfl
                              have hcz59_1 : w36.cell? ⟨gb229, 1, none⟩ = some (.int .i64 x230001_20) := (blk_cell BK229.out 1).trans rfl
                              have hfz59_0 := blk_frozen BK229.out 0
                              have hfz59_1 := blk_frozen BK229.out 1
                              have hcz60_0 : w36.cell? ⟨gb230, 0, none⟩ = some (.int .i64 x231000_20) := (blk_cell BK230.out 0).trans rfl
                              have hcz60_1 : w36.cell? ⟨gb230, 1, none⟩ = some (.int .i64 x231001_20) := (blk_cell BK230.out 1).trans rfl
                              have hfz60_0 := blk_frozen BK230.out 0
                              have hfz60_1 := blk_frozen BK230.out 1
                              go_wp2_with (first | (go_at_call 16; (with_reducible refine (span_Has.calls x230000_20 x230001_20 t234 true _ A43.out).mono ?_); rintro e w61 ⟨rfl, hb⟩; have n0_ := Aside0.mk (blk_below (g := gb229) (o := .cells #[.int .i64 x230000_20, .int .i64 x230001_20] 23 (0, 0)) (by (with_reducible repeat (first | refine blk_drewN ?_ _ | refine blk_drew ?_ | refine blk_alloc ?_ _)); exact BK229.out) hb); have n1_ := Aside0.mk (blk_below (g := gb230) (o := .cells #[.int .i64 x231000_20, .int .i64 x231001_20] 23 (0, 0)) (by (with_reducible repeat (first | refine blk_drewN ?_ _ | refine blk_drew ?_ | refine blk_alloc ?_ _)); exact BK230.out) hb); have n2_ := Aside0.mk (below_step (by repeat (first | (with_reducible first | exact HB.out | apply below_alloc | apply pw_below_drewN | apply below_drew1 | refine below_set ?_ GE229.out | refine below_set ?_ GE230.out) | exact HB.out)) hb); clear BK229; clear BK230; clear HB; have BK229 := n0_; have BK230 := n1_; have HB := n2_; clear n0_ n1_ n2_; (try clear hb); (try clear hb2); (try clear hk); (try clear hi); have hcz62_0 : w61.cell? ⟨gb229, 0, none⟩ = some (.int .i64 x230000_20) := (blk_cell BK229.out 0).trans rfl; have hcz62_1 : w61.cell? ⟨gb229, 1, none⟩ = some (.int .i64 x230001_20) := (blk_cell BK229.out 1).trans rfl; have hfz62_0 := blk_frozen BK229.out 0; have hfz62_1 := blk_frozen BK229.out 1) | (go_at_call 16; (with_reducible refine (span_Has.calls x230000_20 x230001_20 t235 true _ A45.out).mono ?_); rintro e w63 ⟨rfl, hb⟩; have n0_ := Aside0.mk (blk_below (g := gb229) (o := .cells #[.int .i64 x230000_20, .int .i64 x230001_20] 23 (0, 0)) (by (with_reducible repeat (first | refine blk_drewN ?_ _ | refine blk_drew ?_ | refine blk_alloc ?_ _)); exact BK229.out) hb); have n1_ := Aside0.mk (blk_below (g := gb230) (o := .cells #[.int .i64 x231000_20, .int .i64 x231001_20] 23 (0, 0)) (by (with_reducible repeat (first | refine blk_drewN ?_ _ | refine blk_drew ?_ | refine blk_alloc ?_ _)); exact BK230.out) hb); have n2_ := Aside0.mk (below_step (by repeat (first | (with_reducible first | exact HB.out | apply below_alloc | apply pw_below_drewN | apply below_drew1 | refine below_set ?_ GE229.out | refine below_set ?_ GE230.out) | exact HB.out)) hb); clear BK229; clear BK230; clear HB; have BK229 := n0_; have BK230 := n1_; have HB := n2_; clear n0_ n1_ n2_; (try clear hb); (try clear hb2); (try clear hk); (try clear hi); have hcz64_0 : w63.cell? ⟨gb229, 0, none⟩ = some (.int .i64 x230000_20) := (blk_cell BK229.out 0).trans rfl; have hcz64_1 : w63.cell? ⟨gb229, 1, none⟩ = some (.int .i64 x230001_20) := (blk_cell BK229.out 1).trans rfl; have hfz64_0 := blk_frozen BK229.out 0; have hfz64_1 := blk_frozen BK229.out 1) | (go_at_call 16; (with_reducible refine (span_Has.calls x230000_20 x230001_20 (wrap64 (t234 - 1)) false _ A47.out).mono ?_); rintro e w65 ⟨rfl, hb⟩; have n0_ := Aside0.mk (blk_below (g := gb229) (o := .cells #[.int .i64 x230000_20, .int .i64 x230001_20] 23 (0, 0)) (by (with_reducible repeat (first | refine blk_drewN ?_ _ | refine blk_drew ?_ | refine blk_alloc ?_ _)); exact BK229.out) hb); have n1_ := Aside0.mk (blk_below (g := gb230) (o := .cells #[.int .i64 x231000_20, .int .i64 x231001_20] 23 (0, 0)) (by (with_reducible repeat (first | refine blk_drewN ?_ _ | refine blk_drew ?_ | refine blk_alloc ?_ _)); exact BK230.out) hb); have n2_ := Aside0.mk (below_step (by repeat (first | (with_reducible first | exact HB.out | apply below_alloc | apply pw_below_drewN | apply below_drew1 | refine below_set ?_ GE229.out | refine below_set ?_ GE230.out) | exact HB.out)) hb); clear BK229; clear BK230; clear HB; have BK229 := n0_; have BK230 := n1_; have HB := n2_; clear n0_ n1_ n2_; (try clear hb); (try clear hb2); (try clear hk); (try clear hi); have hcz66_0 : w65.cell? ⟨gb229, 0, none⟩ = some (.int .i64 x230000_20) := (blk_cell BK229.out 0).trans rfl; have hcz66_1 : w65.cell? ⟨gb229, 1, none⟩ = some (.int .i64 x230001_20) := (blk_cell BK229.out 1).trans rfl; have hfz66_0 := blk_frozen BK229.out 0; have hfz66_1 := blk_frozen BK229.out 1) | (go_at_call 16; (with_reducible refine (span_Has.calls x230000_20 x230001_20 (wrap64 (t235 + 1)) t241 _ A57.out).mono ?_); rintro e w67 ⟨rfl, hb⟩; have n0_ := Aside0.mk (blk_below (g := gb229) (o := .cells #[.int .i64 x230000_20, .int .i64 x230001_20] 23 (0, 0)) (by (with_reducible repeat (first | refine blk_drewN ?_ _ | refine blk_drew ?_ | refine blk_alloc ?_ _)); exact BK229.out) hb); have n1_ := Aside0.mk (blk_below (g := gb230) (o := .cells #[.int .i64 x231000_20, .int .i64 x231001_20] 23 (0, 0)) (by (with_reducible repeat (first | refine blk_drewN ?_ _ | refine blk_drew ?_ | refine blk_alloc ?_ _)); exact BK230.out) hb); have n2_ := Aside0.mk (below_step (by repeat (first | (with_reducible first | exact HB.out | apply below_alloc | apply pw_below_drewN | apply below_drew1 | refine below_set ?_ GE229.out | refine below_set ?_ GE230.out) | exact HB.out)) hb); clear BK229; clear BK230; clear HB; have BK229 := n0_; have BK230 := n1_; have HB := n2_; clear n0_ n1_ n2_; (try clear hb); (try clear hb2); (try clear hk); (try clear hi)))
                              go_meet
                              case rel => exact ⟨_, (t241), (by first | rfl | (simp; done) | (simp [*]; done)), H', ⟨by have := HJ4.out; have := HJ20.out; first | omega | exact Nat.le_refl _⟩, ⟨by (with_reducible repeat (first | refine blk_drewN ?_ _ | refine blk_drew ?_ | refine blk_alloc ?_ _)); exact BK229.out⟩, ⟨by (with_reducible repeat (first | refine blk_drewN ?_ _ | refine blk_drew ?_ | refine blk_alloc ?_ _)); exact BK230.out⟩, ⟨by repeat (first | (with_reducible first | exact HB.out | apply below_alloc | apply pw_below_drewN | apply below_drew1 | refine below_set ?_ GE229.out | refine below_set ?_ GE230.out) | exact HB.out)⟩⟩
                          · replace c46 := Bool.eq_false_iff.mpr c46
                            subst c46
                            have H1 : (trommellaw10_SpanMeets.j2 kj20 t234 t235 t236 t237 true x230000_20 x230001_20 x231000_20 x231001_20) = some r := by rw [if_neg (show ¬ (false = true) by decide)] at H; exact H
                            clear H
                            have H := H1
                            clear H1
                            have H' := Aside0.mk H
                            clear H
                            have hnb68 := NB229_230.out
                            have hnc68 := NB230_229.out
                            have hcz69_0 : w36.cell? ⟨gb229, 0, none⟩ = some (.int .i64 x230000_20) := (blk_cell BK229.out 0).trans rfl
                            have hcz69_1 : w36.cell? ⟨gb229, 1, none⟩ = some (.int .i64 x230001_20) := (blk_cell BK229.out 1).trans rfl
                            have hfz69_0 := blk_frozen BK229.out 0
                            have hfz69_1 := blk_frozen BK229.out 1
                            have hcz70_0 : w36.cell? ⟨gb230, 0, none⟩ = some (.int .i64 x231000_20) := (blk_cell BK230.out 0).trans rfl
                            have hcz70_1 : w36.cell? ⟨gb230, 1, none⟩ = some (.int .i64 x231001_20) := (blk_cell BK230.out 1).trans rfl
                            have hfz70_0 := blk_frozen BK230.out 0
                            have hfz70_1 := blk_frozen BK230.out 1
                            go_wp2_with (first | (go_at_call 16; (with_reducible refine (span_Has.calls x230000_20 x230001_20 t234 true _ A43.out).mono ?_); rintro e w71 ⟨rfl, hb⟩; have n0_ := Aside0.mk (blk_below (g := gb229) (o := .cells #[.int .i64 x230000_20, .int .i64 x230001_20] 23 (0, 0)) (by (with_reducible repeat (first | refine blk_drewN ?_ _ | refine blk_drew ?_ | refine blk_alloc ?_ _)); exact BK229.out) hb); have n1_ := Aside0.mk (blk_below (g := gb230) (o := .cells #[.int .i64 x231000_20, .int .i64 x231001_20] 23 (0, 0)) (by (with_reducible repeat (first | refine blk_drewN ?_ _ | refine blk_drew ?_ | refine blk_alloc ?_ _)); exact BK230.out) hb); have n2_ := Aside0.mk (below_step (by repeat (first | (with_reducible first | exact HB.out | apply below_alloc | apply pw_below_drewN | apply below_drew1 | refine below_set ?_ GE229.out | refine below_set ?_ GE230.out) | exact HB.out)) hb); clear BK229; clear BK230; clear HB; have BK229 := n0_; have BK230 := n1_; have HB := n2_; clear n0_ n1_ n2_; (try clear hb); (try clear hb2); (try clear hk); (try clear hi); have hcz72_0 : w71.cell? ⟨gb229, 0, none⟩ = some (.int .i64 x230000_20) := (blk_cell BK229.out 0).trans rfl; have hcz72_1 : w71.cell? ⟨gb229, 1, none⟩ = some (.int .i64 x230001_20) := (blk_cell BK229.out 1).trans rfl; have hfz72_0 := blk_frozen BK229.out 0; have hfz72_1 := blk_frozen BK229.out 1) | (go_at_call 16; (with_reducible refine (span_Has.calls x230000_20 x230001_20 t235 false _ A45.out).mono ?_); rintro e w73 ⟨rfl, hb⟩; have n0_ := Aside0.mk (blk_below (g := gb229) (o := .cells #[.int .i64 x230000_20, .int .i64 x230001_20] 23 (0, 0)) (by (with_reducible repeat (first | refine blk_drewN ?_ _ | refine blk_drew ?_ | refine blk_alloc ?_ _)); exact BK229.out) hb); have n1_ := Aside0.mk (blk_below (g := gb230) (o := .cells #[.int .i64 x231000_20, .int .i64 x231001_20] 23 (0, 0)) (by (with_reducible repeat (first | refine blk_drewN ?_ _ | refine blk_drew ?_ | refine blk_alloc ?_ _)); exact BK230.out) hb); have n2_ := Aside0.mk (below_step (by repeat (first | (with_reducible first | exact HB.out | apply below_alloc | apply pw_below_drewN | apply below_drew1 | refine below_set ?_ GE229.out | refine below_set ?_ GE230.out) | exact HB.out)) hb); clear BK229; clear BK230; clear HB; have BK229 := n0_; have BK230 := n1_; have HB := n2_; clear n0_ n1_ n2_; (try clear hb); (try clear hb2); (try clear hk); (try clear hi)))
                            go_meet
                            case rel => exact ⟨_, (true), (by first | rfl | (simp; done) | (simp [*]; done)), H', ⟨by have := HJ4.out; have := HJ20.out; first | omega | exact Nat.le_refl _⟩, ⟨by (with_reducible repeat (first | refine blk_drewN ?_ _ | refine blk_drew ?_ | refine blk_alloc ?_ _)); exact BK229.out⟩, ⟨by (with_reducible repeat (first | refine blk_drewN ?_ _ | refine blk_drew ?_ | refine blk_alloc ?_ _)); exact BK230.out⟩, ⟨by repeat (first | (with_reducible first | exact HB.out | apply below_alloc | apply pw_below_drewN | apply below_drew1 | refine below_set ?_ GE229.out | refine below_set ?_ GE230.out) | exact HB.out)⟩⟩
                        · replace c44 := Bool.eq_false_iff.mpr c44
                          subst c44
                          have H1 : (trommellaw10_SpanMeets.j2 kj20 t234 t235 t236 t237 true x230000_20 x230001_20 x231000_20 x231001_20) = some r := by rw [if_neg (show ¬ (false = true) by decide)] at H; exact H
                          clear H
                          have H := H1
                          clear H1
                          have H' := Aside0.mk H
                          clear H
                          have hnb74 := NB229_230.out
                          have hnc74 := NB230_229.out
                          have hcz75_0 : w36.cell? ⟨gb229, 0, none⟩ = some (.int .i64 x230000_20) := (blk_cell BK229.out 0).trans rfl
                          have hcz75_1 : w36.cell? ⟨gb229, 1, none⟩ = some (.int .i64 x230001_20) := (blk_cell BK229.out 1).trans rfl
                          have hfz75_0 := blk_frozen BK229.out 0
                          have hfz75_1 := blk_frozen BK229.out 1
                          have hcz76_0 : w36.cell? ⟨gb230, 0, none⟩ = some (.int .i64 x231000_20) := (blk_cell BK230.out 0).trans rfl
                          have hcz76_1 : w36.cell? ⟨gb230, 1, none⟩ = some (.int .i64 x231001_20) := (blk_cell BK230.out 1).trans rfl
                          have hfz76_0 := blk_frozen BK230.out 0
                          have hfz76_1 := blk_frozen BK230.out 1
                          go_wp2_with (first | (go_at_call 16; (with_reducible refine (span_Has.calls x230000_20 x230001_20 t234 false _ A43.out).mono ?_); rintro e w77 ⟨rfl, hb⟩; have n0_ := Aside0.mk (blk_below (g := gb229) (o := .cells #[.int .i64 x230000_20, .int .i64 x230001_20] 23 (0, 0)) (by (with_reducible repeat (first | refine blk_drewN ?_ _ | refine blk_drew ?_ | refine blk_alloc ?_ _)); exact BK229.out) hb); have n1_ := Aside0.mk (blk_below (g := gb230) (o := .cells #[.int .i64 x231000_20, .int .i64 x231001_20] 23 (0, 0)) (by (with_reducible repeat (first | refine blk_drewN ?_ _ | refine blk_drew ?_ | refine blk_alloc ?_ _)); exact BK230.out) hb); have n2_ := Aside0.mk (below_step (by repeat (first | (with_reducible first | exact HB.out | apply below_alloc | apply pw_below_drewN | apply below_drew1 | refine below_set ?_ GE229.out | refine below_set ?_ GE230.out) | exact HB.out)) hb); clear BK229; clear BK230; clear HB; have BK229 := n0_; have BK230 := n1_; have HB := n2_; clear n0_ n1_ n2_; (try clear hb); (try clear hb2); (try clear hk); (try clear hi)))
                          go_meet
                          case rel => exact ⟨_, (true), (by first | rfl | (simp; done) | (simp [*]; done)), H', ⟨by have := HJ4.out; have := HJ20.out; first | omega | exact Nat.le_refl _⟩, ⟨by (with_reducible repeat (first | refine blk_drewN ?_ _ | refine blk_drew ?_ | refine blk_alloc ?_ _)); exact BK229.out⟩, ⟨by (with_reducible repeat (first | refine blk_drewN ?_ _ | refine blk_drew ?_ | refine blk_alloc ?_ _)); exact BK230.out⟩, ⟨by repeat (first | (with_reducible first | exact HB.out | apply below_alloc | apply pw_below_drewN | apply below_drew1 | refine below_set ?_ GE229.out | refine below_set ?_ GE230.out) | exact HB.out)⟩⟩
                      · rw [if_neg c42] at H
                        have c42b0 : ((wrap64 ((wrap64 (t237 - t236)) + 1)) == (ji41)) = false := beq_eq_false_iff_ne.mpr c42
                        have c42b1 : ((wrap64 ((wrap64 (t237 - t236)) + 1)) != (ji41)) = true := bne_iff_ne.mpr c42
                        have H' := Aside0.mk H
                        clear H
                        have hnb78 := NB229_230.out
                        have hnc78 := NB230_229.out
                        have hcz79_0 : w36.cell? ⟨gb229, 0, none⟩ = some (.int .i64 x230000_20) := (blk_cell BK229.out 0).trans rfl
                        have hcz79_1 : w36.cell? ⟨gb229, 1, none⟩ = some (.int .i64 x230001_20) := (blk_cell BK229.out 1).trans rfl
                        have hfz79_0 := blk_frozen BK229.out 0
                        have hfz79_1 := blk_frozen BK229.out 1
                        have hcz80_0 : w36.cell? ⟨gb230, 0, none⟩ = some (.int .i64 x231000_20) := (blk_cell BK230.out 0).trans rfl
                        have hcz80_1 : w36.cell? ⟨gb230, 1, none⟩ = some (.int .i64 x231001_20) := (blk_cell BK230.out 1).trans rfl
                        have hfz80_0 := blk_frozen BK230.out 0
                        have hfz80_1 := blk_frozen BK230.out 1
                        go_wp2
                        go_meet
                        case rel => exact ⟨_, (true), (by first | rfl | (simp; done) | (simp [*]; done)), H', ⟨by have := HJ4.out; have := HJ20.out; first | omega | exact Nat.le_refl _⟩, ⟨by (with_reducible repeat (first | refine blk_drewN ?_ _ | refine blk_drew ?_ | refine blk_alloc ?_ _)); exact BK229.out⟩, ⟨by (with_reducible repeat (first | refine blk_drewN ?_ _ | refine blk_drew ?_ | refine blk_alloc ?_ _)); exact BK230.out⟩, ⟨by repeat (first | (with_reducible first | exact HB.out | apply below_alloc | apply pw_below_drewN | apply below_drew1 | refine below_set ?_ GE229.out | refine below_set ?_ GE230.out) | exact HB.out)⟩⟩
                    · rw [if_neg c40] at H
                      exact absurd H (by simp)
                  · rw [if_neg c39] at H
                    have c39b0 : ((wrap64 ((wrap64 (t235 - t234)) + 1)) == (ji38)) = false := beq_eq_false_iff_ne.mpr c39
                    have c39b1 : ((wrap64 ((wrap64 (t235 - t234)) + 1)) != (ji38)) = true := bne_iff_ne.mpr c39
                    (first | rw [c39b0] | (simp only [i64_w, i32_w]; rw [c39b0]) | skip)
                    have H' := Aside0.mk H
                    clear H
                    have hnb81 := NB229_230.out
                    have hnc81 := NB230_229.out
                    have hcz82_0 : w36.cell? ⟨gb229, 0, none⟩ = some (.int .i64 x230000_20) := (blk_cell BK229.out 0).trans rfl
                    have hcz82_1 : w36.cell? ⟨gb229, 1, none⟩ = some (.int .i64 x230001_20) := (blk_cell BK229.out 1).trans rfl
                    have hfz82_0 := blk_frozen BK229.out 0
                    have hfz82_1 := blk_frozen BK229.out 1
                    go_wp2
                    go_meet
                    case rel => exact ⟨_, (true), (by first | rfl | (simp; done) | (simp [*]; done)), H', ⟨by have := HJ4.out; have := HJ20.out; first | omega | exact Nat.le_refl _⟩, ⟨by (with_reducible repeat (first | refine blk_drewN ?_ _ | refine blk_drew ?_ | refine blk_alloc ?_ _)); exact BK229.out⟩, ⟨by (with_reducible repeat (first | refine blk_drewN ?_ _ | refine blk_drew ?_ | refine blk_alloc ?_ _)); exact BK230.out⟩, ⟨by repeat (first | (with_reducible first | exact HB.out | apply below_alloc | apply pw_below_drewN | apply below_drew1 | refine below_set ?_ GE229.out | refine below_set ?_ GE230.out) | exact HB.out)⟩⟩
                · rw [if_neg c37] at H
                  exact absurd H (by simp)
              case rest =>
                clear HC31
                try clear c1
                try clear c2
                try clear p2
                try clear c3
                try clear c4
                try clear c5
                try clear c6
                try clear p6
                try clear c7
                try clear c8
                try clear c9
                try clear c10
                try clear c10b0
                try clear c10b1
                try clear c12
                try clear c14
                try clear c17
                try clear c20
                try clear c22
                try clear c25
                try clear c25b0
                try clear c26
                try clear c32
                try clear c37
                try clear c37b0
                try clear c37b1
                try clear c39
                try clear c39b0
                try clear c39b1
                try clear c40
                try clear c40b0
                try clear c40b1
                try clear c42
                try clear c42b0
                try clear c42b1
                try clear c44
                try clear c46
                try clear c48
                try clear c49
                try clear c58
                try clear p64
                try clear c68
                try clear c74
                try clear c78
                try clear c81
                try clear hcz13_0
                try clear hcz13_1
                try clear hcz15_0
                try clear hcz15_1
                try clear hcz18_0
                try clear hcz18_1
                try clear hcz23_0
                try clear hcz23_1
                try clear hcz24_0
                try clear hcz24_1
                try clear hcz27_0
                try clear hcz27_1
                try clear hcz28_0
                try clear hcz28_1
                try clear hcz33_0
                try clear hcz33_1
                try clear hcz35_0
                try clear hcz35_1
                try clear hcz50_0
                try clear hcz50_1
                try clear hcz51_0
                try clear hcz51_1
                try clear hcz53_0
                try clear hcz53_1
                try clear hcz55_0
                try clear hcz55_1
                try clear hcz59_0
                try clear hcz59_1
                try clear hcz60_0
                try clear hcz60_1
                try clear hcz62_0
                try clear hcz62_1
                try clear hcz64_0
                try clear hcz64_1
                try clear hcz66_0
                try clear hcz66_1
                try clear hcz69_0
                try clear hcz69_1
                try clear hcz70_0
                try clear hcz70_1
                try clear hcz72_0
                try clear hcz72_1
                try clear hcz75_0
                try clear hcz75_1
                try clear hcz76_0
                try clear hcz76_1
                try clear hcz79_0
                try clear hcz79_1
                try clear hcz80_0
                try clear hcz80_1
                try clear hcz82_0
                try clear hcz82_1
                try clear hfz13_0
                try clear hfz13_1
                try clear hfz15_0
                try clear hfz15_1
                try clear hfz18_0
                try clear hfz18_1
                try clear hfz23_0
                try clear hfz23_1
                try clear hfz24_0
                try clear hfz24_1
                try clear hfz27_0
                try clear hfz27_1
                try clear hfz28_0
                try clear hfz28_1
                try clear hfz33_0
                try clear hfz33_1
                try clear hfz35_0
                try clear hfz35_1
                try clear hfz50_0
                try clear hfz50_1
                try clear hfz51_0
                try clear hfz51_1
                try clear hfz53_0
                try clear hfz53_1
                try clear hfz55_0
                try clear hfz55_1
                try clear hfz59_0
                try clear hfz59_1
                try clear hfz60_0
                try clear hfz60_1
                try clear hfz62_0
                try clear hfz62_1
                try clear hfz64_0
                try clear hfz64_1
                try clear hfz66_0
                try clear hfz66_1
                try clear hfz69_0
                try clear hfz69_1
                try clear hfz70_0
                try clear hfz70_1
                try clear hfz72_0
                try clear hfz72_1
                try clear hfz75_0
                try clear hfz75_1
                try clear hfz76_0
                try clear hfz76_1
                try clear hfz79_0
                try clear hfz79_1
                try clear hfz80_0
                try clear hfz80_1
                try clear hfz82_0
                try clear hfz82_1
                try clear p2
                obtain ⟨kq, x81_30, rfl, HA, HJ30, BK229, BK230, HB⟩ := hcut
                cases kq with
                | zero => exact absurd HA.out (by simp [trommellaw10_SpanMeets.j2])
                | succ kj30 =>
                  have H := HA.out
                  clear HA
                  simp only [trommellaw10_SpanMeets.j2] at H
                  by_cases c83 : x81_30 = true
                  · subst c83
                    have H1 : (some false) = some r := by rw [if_pos rfl] at H; exact H
                    clear H
                    have H := H1
                    clear H1
                    obtain rfl := Option.some.inj H
                    go_wp2
                    go_ret
                    exact ⟨by first | rfl | (simp [errW_none, errW_some] <;> rfl) | (simp [*, errW_none, errW_some] <;> rfl), by repeat (first | (with_reducible first | exact HB.out | apply below_alloc | apply pw_below_drewN | apply below_drew1 | refine below_set ?_ GE229.out | refine below_set ?_ GE230.out) | exact HB.out)⟩
                  · replace c83 := Bool.eq_false_iff.mpr c83
                    subst c83
                    have H1 : (trommellaw10_SpanMeets.l0 kj30 t234 t235 t236 t237 x231000_20 x231001_20 x230000_20 x230001_20) = some r := by rw [if_neg (show ¬ (false = true) by decide)] at H; exact H
                    clear H
                    have H := H1
                    clear H1
                    have H' := Aside0.mk H
                    clear H
                    have hnb84 := NB229_230.out
                    have hnc84 := NB230_229.out
                    have hcz85_0 : wc.cell? ⟨gb229, 0, none⟩ = some (.int .i64 x230000_20) := (blk_cell BK229.out 0).trans rfl
                    have hcz85_1 : wc.cell? ⟨gb229, 1, none⟩ = some (.int .i64 x230001_20) := (blk_cell BK229.out 1).trans rfl
                    have hfz85_0 := blk_frozen BK229.out 0
                    have hfz85_1 := blk_frozen BK229.out 1
                    go_wp2_with (first | ((with_reducible refine gate_dst (N := 9) rfl ?_); refine box_event ?hg (N := 9) ?hd (cs := #[.int .i64 0, .int .i64 0]) (t := 23) ?hr ?_; (case hd => rfl); (case hg => rfl); (case hr => first | (go_simp; done) | (go_simp; rfl)); intro gb242 hg w86 hbox hb; have n0_ := Aside0.mk (blk_below (g := gb229) (o := .cells #[.int .i64 x230000_20, .int .i64 x230001_20] 23 (0, 0)) (by (with_reducible repeat (first | refine blk_drewN ?_ _ | refine blk_drew ?_ | refine blk_alloc ?_ _)); exact BK229.out) hb); have n1_ := Aside0.mk (blk_below (g := gb230) (o := .cells #[.int .i64 x231000_20, .int .i64 x231001_20] 23 (0, 0)) (by (with_reducible repeat (first | refine blk_drewN ?_ _ | refine blk_drew ?_ | refine blk_alloc ?_ _)); exact BK230.out) hb); have n2_ := Aside0.mk (below_step (by repeat (first | (with_reducible first | exact HB.out | apply below_alloc | apply pw_below_drewN | apply below_drew1 | refine below_set ?_ GE229.out | refine below_set ?_ GE230.out) | exact HB.out)) hb); have n3_ := Aside0.mk (hbox); have n4_ := Aside0.mk ((by rw [hg]; exact (below_size (by repeat (first | (with_reducible first | exact HB.out | apply below_alloc | apply pw_below_drewN | apply below_drew1 | refine below_set ?_ GE229.out | refine below_set ?_ GE230.out) | exact HB.out))) : w.heap.size ≤ gb242)); have n5_ := Aside0.mk ((by rw [hg]; exact (below_size (by repeat (first | (with_reducible first | exact HB.out | apply below_alloc | apply pw_below_drewN | apply below_drew1 | refine below_set ?_ GE229.out | refine below_set ?_ GE230.out) | exact HB.out))) : w.heap.size ≤ gb242)); have n6_ := Aside0.mk ((by rw [hg]; exact Nat.ne_of_lt (blk_lt (g := gb229) (o := .cells #[.int .i64 x230000_20, .int .i64 x230001_20] 23 (0, 0)) (by (with_reducible repeat (first | refine blk_drewN ?_ _ | refine blk_drew ?_ | refine blk_alloc ?_ _)); exact BK229.out)) : gb229 ≠ gb242)); have n7_ := Aside0.mk ((by rw [hg]; exact Nat.ne_of_gt (blk_lt (g := gb229) (o := .cells #[.int .i64 x230000_20, .int .i64 x230001_20] 23 (0, 0)) (by (with_reducible repeat (first | refine blk_drewN ?_ _ | refine blk_drew ?_ | refine blk_alloc ?_ _)); exact BK229.out)) : gb242 ≠ gb229)); have n8_ := Aside0.mk ((by rw [hg]; exact Nat.ne_of_lt (blk_lt (g := gb230) (o := .cells #[.int .i64 x231000_20, .int .i64 x231001_20] 23 (0, 0)) (by (with_reducible repeat (first | refine blk_drewN ?_ _ | refine blk_drew ?_ | refine blk_alloc ?_ _)); exact BK230.out)) : gb230 ≠ gb242)); have n9_ := Aside0.mk ((by rw [hg]; exact Nat.ne_of_gt (blk_lt (g := gb230) (o := .cells #[.int .i64 x231000_20, .int .i64 x231001_20] 23 (0, 0)) (by (with_reducible repeat (first | refine blk_drewN ?_ _ | refine blk_drew ?_ | refine blk_alloc ?_ _)); exact BK230.out)) : gb242 ≠ gb230)); clear BK229; clear BK230; clear HB; have BK229 := n0_; have BK230 := n1_; have HB := n2_; have BK242 := n3_; have GW242 := n4_; have GE242 := n5_; have NB229_242 := n6_; have NB242_229 := n7_; have NB230_242 := n8_; have NB242_230 := n9_; clear n0_ n1_ n2_ n3_ n4_ n5_ n6_ n7_ n8_ n9_; clear hb hbox hg; have hnb87 := NB242_229.out; have hnc87 := NB229_242.out; have hnb88 := NB242_230.out; have hnc88 := NB230_242.out; have hcz89_0 : w86.cell? ⟨gb242, 0, none⟩ = some (.int .i64 0) := (blk_cell BK242.out 0).trans rfl; have hcz89_1 : w86.cell? ⟨gb242, 1, none⟩ = some (.int .i64 0) := (blk_cell BK242.out 1).trans rfl; have hfz89_0 := blk_frozen BK242.out 0; have hfz89_1 := blk_frozen BK242.out 1))
                    go_loopg [] kj30 (fun kq w' => ∃ (x243000_4 : Int) (x243001_4 : Int), Aside0 (trommellaw10_SpanMeets.l0 kq t234 t235 t236 t237 x231000_20 x231001_20 x243000_4 x243001_4 = some r) ∧ Aside0 (kq ≤ kj30) ∧ Aside0 (w'.heap[gb229]? = some (.cells #[.int .i64 x230000_20, .int .i64 x230001_20] 23 (0, 0))) ∧ Aside0 (w'.heap[gb230]? = some (.cells #[.int .i64 x231000_20, .int .i64 x231001_20] 23 (0, 0))) ∧ Aside0 (w'.heap[gb242]? = some (.cells #[.int .i64 x243000_4, .int .i64 x243001_4] 23 (0, 0))) ∧ Aside0 (Below w.heap.size w w'))
                    case atStart => exact ⟨(x230000_20), (x230001_20), H', ⟨Nat.le_refl _⟩, ⟨by (with_reducible repeat (first | refine blk_drewN ?_ _ | refine blk_drew ?_ | refine blk_alloc ?_ _)); refine blk_far ?_ NB229_242.out _; (with_reducible repeat (first | refine blk_drewN ?_ _ | refine blk_drew ?_ | refine blk_alloc ?_ _)); refine blk_far ?_ NB229_242.out _; (with_reducible repeat (first | refine blk_drewN ?_ _ | refine blk_drew ?_ | refine blk_alloc ?_ _)); exact BK229.out⟩, ⟨by (with_reducible repeat (first | refine blk_drewN ?_ _ | refine blk_drew ?_ | refine blk_alloc ?_ _)); refine blk_far ?_ NB230_242.out _; (with_reducible repeat (first | refine blk_drewN ?_ _ | refine blk_drew ?_ | refine blk_alloc ?_ _)); refine blk_far ?_ NB230_242.out _; (with_reducible repeat (first | refine blk_drewN ?_ _ | refine blk_drew ?_ | refine blk_alloc ?_ _)); exact BK230.out⟩, ⟨by (with_reducible repeat (first | refine blk_drewN ?_ _ | refine blk_drew ?_ | refine blk_alloc ?_ _)); refine blk_put (cs := #[.int .i64 x230000_20, .int .i64 0]) ?_ 1 _ rfl; (with_reducible repeat (first | refine blk_drewN ?_ _ | refine blk_drew ?_ | refine blk_alloc ?_ _)); refine blk_put (cs := #[.int .i64 0, .int .i64 0]) ?_ 0 _ rfl; (with_reducible repeat (first | refine blk_drewN ?_ _ | refine blk_drew ?_ | refine blk_alloc ?_ _)); exact BK242.out⟩, ⟨by repeat (first | (with_reducible first | exact HB.out | apply below_alloc | apply pw_below_drewN | apply below_drew1 | refine below_set ?_ GE229.out | refine below_set ?_ GE230.out | refine below_set ?_ GE242.out) | exact HB.out)⟩⟩
                    case round =>
                      clear H'
                      try clear c1
                      try clear c2
                      try clear p2
                      try clear c3
                      try clear c4
                      try clear c5
                      try clear c6
                      try clear p6
                      try clear c7
                      try clear c8
                      try clear c9
                      try clear c10
                      try clear c10b0
                      try clear c10b1
                      try clear c12
                      try clear c14
                      try clear c17
                      try clear c20
                      try clear c22
                      try clear c25
                      try clear c25b0
                      try clear c26
                      try clear c32
                      try clear c37
                      try clear c37b0
                      try clear c37b1
                      try clear c39
                      try clear c39b0
                      try clear c39b1
                      try clear c40
                      try clear c40b0
                      try clear c40b1
                      try clear c42
                      try clear c42b0
                      try clear c42b1
                      try clear c44
                      try clear c46
                      try clear c48
                      try clear c49
                      try clear c58
                      try clear p64
                      try clear c68
                      try clear c74
                      try clear c78
                      try clear c81
                      try clear c83
                      try clear c84
                      try clear c87
                      try clear c88
                      try clear hcz13_0
                      try clear hcz13_1
                      try clear hcz15_0
                      try clear hcz15_1
                      try clear hcz18_0
                      try clear hcz18_1
                      try clear hcz23_0
                      try clear hcz23_1
                      try clear hcz24_0
                      try clear hcz24_1
                      try clear hcz27_0
                      try clear hcz27_1
                      try clear hcz28_0
                      try clear hcz28_1
                      try clear hcz33_0
                      try clear hcz33_1
                      try clear hcz35_0
                      try clear hcz35_1
                      try clear hcz50_0
                      try clear hcz50_1
                      try clear hcz51_0
                      try clear hcz51_1
                      try clear hcz53_0
                      try clear hcz53_1
                      try clear hcz55_0
                      try clear hcz55_1
                      try clear hcz59_0
                      try clear hcz59_1
                      try clear hcz60_0
                      try clear hcz60_1
                      try clear hcz62_0
                      try clear hcz62_1
                      try clear hcz64_0
                      try clear hcz64_1
                      try clear hcz66_0
                      try clear hcz66_1
                      try clear hcz69_0
                      try clear hcz69_1
                      try clear hcz70_0
                      try clear hcz70_1
                      try clear hcz72_0
                      try clear hcz72_1
                      try clear hcz75_0
                      try clear hcz75_1
                      try clear hcz76_0
                      try clear hcz76_1
                      try clear hcz79_0
                      try clear hcz79_1
                      try clear hcz80_0
                      try clear hcz80_1
                      try clear hcz82_0
                      try clear hcz82_1
                      try clear hcz85_0
                      try clear hcz85_1
                      try clear hcz89_0
                      try clear hcz89_1
                      try clear hfz13_0
                      try clear hfz13_1
                      try clear hfz15_0
                      try clear hfz15_1
                      try clear hfz18_0
                      try clear hfz18_1
                      try clear hfz23_0
                      try clear hfz23_1
                      try clear hfz24_0
                      try clear hfz24_1
                      try clear hfz27_0
                      try clear hfz27_1
                      try clear hfz28_0
                      try clear hfz28_1
                      try clear hfz33_0
                      try clear hfz33_1
                      try clear hfz35_0
                      try clear hfz35_1
                      try clear hfz50_0
                      try clear hfz50_1
                      try clear hfz51_0
                      try clear hfz51_1
                      try clear hfz53_0
                      try clear hfz53_1
                      try clear hfz55_0
                      try clear hfz55_1
                      try clear hfz59_0
                      try clear hfz59_1
                      try clear hfz60_0
                      try clear hfz60_1
                      try clear hfz62_0
                      try clear hfz62_1
                      try clear hfz64_0
                      try clear hfz64_1
                      try clear hfz66_0
                      try clear hfz66_1
                      try clear hfz69_0
                      try clear hfz69_1
                      try clear hfz70_0
                      try clear hfz70_1
                      try clear hfz72_0
                      try clear hfz72_1
                      try clear hfz75_0
                      try clear hfz75_1
                      try clear hfz76_0
                      try clear hfz76_1
                      try clear hfz79_0
                      try clear hfz79_1
                      try clear hfz80_0
                      try clear hfz80_1
                      try clear hfz82_0
                      try clear hfz82_1
                      try clear hfz85_0
                      try clear hfz85_1
                      try clear hfz89_0
                      try clear hfz89_1
                      try clear p2
                      try clear p6
                      try clear p64
                      obtain ⟨x243000_4, x243001_4, HA, HK4, BK229, BK230, BK242, HB⟩ := hrel
                      cases gk with
                      | zero => exact absurd HA.out (by simp [trommellaw10_SpanMeets.l0])
                      | succ k4 =>
                        have H := HA.out
                        clear HA
                        simp only [trommellaw10_SpanMeets.l0] at H
                        by_cases c90 : x243000_4 < x231000_20
                        · rw [if_pos c90] at H
                          have c90b0 : decide (x243000_4 < x231000_20) = true := decide_eq_true c90
                          clear c90
                          replace H := Option.bind_eq_some_iff.mp H
                          obtain ⟨⟨t243, t244, t245⟩, A910, H⟩ := H
                          replace H : (if t245 = true then (if t243 = (wrap64 (x243000_4 + 1)) then (trommellaw10_SpanMeets.l0 k4 t234 t235 t236 t237 x231000_20 x231001_20 t243 t244) else (some false)) else (some false)) = some r := H
                          have A91 := Aside0.mk A910
                          clear A910
                          by_cases c92 : t245 = true
                          · subst c92
                            have H1 : (if t243 = (wrap64 (x243000_4 + 1)) then (trommellaw10_SpanMeets.l0 k4 t234 t235 t236 t237 x231000_20 x231001_20 t243 t244) else (some false)) = some r := by rw [if_pos rfl] at H; exact H
                            clear H
                            have H := H1
                            clear H1
                            by_cases c93 : t243 = (wrap64 (x243000_4 + 1))
                            · rw [if_pos c93] at H
                              have c93b0 : (t243 == (wrap64 (x243000_4 + 1))) = true := beq_iff_eq.mpr c93
                              have c93b1 : (t243 != (wrap64 (x243000_4 + 1))) = false := bne_eq_false_iff_eq.mpr c93
                              clear c93
                              have H' := Aside0.mk H
                              clear H
                              have hnb94 := NB242_229.out
                              have hnc94 := NB229_242.out
                              have hnb95 := NB242_230.out
                              have hnc95 := NB230_242.out
                              have hcz96_0 : wr.cell? ⟨gb242, 0, none⟩ = some (.int .i64 x243000_4) := (blk_cell BK242.out 0).trans rfl
                              have hcz96_1 : wr.cell? ⟨gb242, 1, none⟩ = some (.int .i64 x243001_4) := (blk_cell BK242.out 1).trans rfl
                              have hfz96_0 := blk_frozen BK242.out 0
                              have hfz96_1 := blk_frozen BK242.out 1
                              have hnb97 := NB230_229.out
                              have hnc97 := NB229_230.out
                              have hcz98_0 : wr.cell? ⟨gb230, 0, none⟩ = some (.int .i64 x231000_20) := (blk_cell BK230.out 0).trans rfl
                              have hcz98_1 : wr.cell? ⟨gb230, 1, none⟩ = some (.int .i64 x231001_20) := (blk_cell BK230.out 1).trans rfl
                              have hfz98_0 := blk_frozen BK230.out 0
                              have hfz98_1 := blk_frozen BK230.out 1
                              go_wp2_with (first | ((with_reducible refine gate_callee (f := 12) rfl ?_); refine goesL_ (some 90) rfl rfl Tryd.func12 (by kernel_rfl) rfl #[.agg #[.int .i64 x243000_4, .int .i64 x243001_4]] rfl (by (try simp only [List.map_toArray, List.map_cons, List.map_nil]); first | done | rfl | (simp only [List.length_drop, List.length_take]; rfl)) ?_; (with_reducible refine (span_Parent.calls x243000_4 x243001_4 t243 t244 true _ A91.out).mono ?_); rintro e w99 ⟨rfl, hb⟩; refine ⟨_, rfl, ?_⟩; have n0_ := Aside0.mk (blk_below (g := gb229) (o := .cells #[.int .i64 x230000_20, .int .i64 x230001_20] 23 (0, 0)) (by (with_reducible repeat (first | refine blk_drewN ?_ _ | refine blk_drew ?_ | refine blk_alloc ?_ _)); exact BK229.out) hb); have n1_ := Aside0.mk (blk_below (g := gb230) (o := .cells #[.int .i64 x231000_20, .int .i64 x231001_20] 23 (0, 0)) (by (with_reducible repeat (first | refine blk_drewN ?_ _ | refine blk_drew ?_ | refine blk_alloc ?_ _)); exact BK230.out) hb); have n2_ := Aside0.mk (blk_below (g := gb242) (o := .cells #[.int .i64 x243000_4, .int .i64 x243001_4] 23 (0, 0)) (by (with_reducible repeat (first | refine blk_drewN ?_ _ | refine blk_drew ?_ | refine blk_alloc ?_ _)); exact BK242.out) hb); have n3_ := Aside0.mk (below_step (by repeat (first | (with_reducible first | exact HB.out | apply below_alloc | apply pw_below_drewN | apply below_drew1 | refine below_set ?_ GE229.out | refine below_set ?_ GE230.out | refine below_set ?_ GE242.out) | exact HB.out)) hb); clear BK229; clear BK230; clear BK242; clear HB; have BK229 := n0_; have BK230 := n1_; have BK242 := n2_; have HB := n3_; clear n0_ n1_ n2_ n3_; (try clear hb); (try clear hb2); (try clear hk); (try clear hi)) | ((with_reducible refine gate_dst (N := 10) rfl ?_); refine box_event ?hg (N := 10) ?hd (cs := #[.int .i64 0, .int .i64 0]) (t := 23) ?hr ?_; (case hd => rfl); (case hg => rfl); (case hr => first | (go_simp; done) | (go_simp; rfl)); intro gb246 hg w100 hbox hb; have n0_ := Aside0.mk (blk_below (g := gb229) (o := .cells #[.int .i64 x230000_20, .int .i64 x230001_20] 23 (0, 0)) (by (with_reducible repeat (first | refine blk_drewN ?_ _ | refine blk_drew ?_ | refine blk_alloc ?_ _)); exact BK229.out) hb); have n1_ := Aside0.mk (blk_below (g := gb230) (o := .cells #[.int .i64 x231000_20, .int .i64 x231001_20] 23 (0, 0)) (by (with_reducible repeat (first | refine blk_drewN ?_ _ | refine blk_drew ?_ | refine blk_alloc ?_ _)); exact BK230.out) hb); have n2_ := Aside0.mk (blk_below (g := gb242) (o := .cells #[.int .i64 x243000_4, .int .i64 x243001_4] 23 (0, 0)) (by (with_reducible repeat (first | refine blk_drewN ?_ _ | refine blk_drew ?_ | refine blk_alloc ?_ _)); exact BK242.out) hb); have n3_ := Aside0.mk (below_step (by repeat (first | (with_reducible first | exact HB.out | apply below_alloc | apply pw_below_drewN | apply below_drew1 | refine below_set ?_ GE229.out | refine below_set ?_ GE230.out | refine below_set ?_ GE242.out) | exact HB.out)) hb); have n4_ := Aside0.mk (hbox); have n5_ := Aside0.mk ((by rw [hg]; exact (below_size (by repeat (first | (with_reducible first | exact HB.out | apply below_alloc | apply pw_below_drewN | apply below_drew1 | refine below_set ?_ GE229.out | refine below_set ?_ GE230.out | refine below_set ?_ GE242.out) | exact HB.out))) : w.heap.size ≤ gb246)); have n6_ := Aside0.mk ((by rw [hg]; exact (below_size (by repeat (first | (with_reducible first | exact HB.out | apply below_alloc | apply pw_below_drewN | apply below_drew1 | refine below_set ?_ GE229.out | refine below_set ?_ GE230.out | refine below_set ?_ GE242.out) | exact HB.out))) : w.heap.size ≤ gb246)); have n7_ := Aside0.mk ((by rw [hg]; exact Nat.ne_of_lt (blk_lt (g := gb229) (o := .cells #[.int .i64 x230000_20, .int .i64 x230001_20] 23 (0, 0)) (by (with_reducible repeat (first | refine blk_drewN ?_ _ | refine blk_drew ?_ | refine blk_alloc ?_ _)); exact BK229.out)) : gb229 ≠ gb246)); have n8_ := Aside0.mk ((by rw [hg]; exact Nat.ne_of_gt (blk_lt (g := gb229) (o := .cells #[.int .i64 x230000_20, .int .i64 x230001_20] 23 (0, 0)) (by (with_reducible repeat (first | refine blk_drewN ?_ _ | refine blk_drew ?_ | refine blk_alloc ?_ _)); exact BK229.out)) : gb246 ≠ gb229)); have n9_ := Aside0.mk ((by rw [hg]; exact Nat.ne_of_lt (blk_lt (g := gb230) (o := .cells #[.int .i64 x231000_20, .int .i64 x231001_20] 23 (0, 0)) (by (with_reducible repeat (first | refine blk_drewN ?_ _ | refine blk_drew ?_ | refine blk_alloc ?_ _)); exact BK230.out)) : gb230 ≠ gb246)); have n10_ := Aside0.mk ((by rw [hg]; exact Nat.ne_of_gt (blk_lt (g := gb230) (o := .cells #[.int .i64 x231000_20, .int .i64 x231001_20] 23 (0, 0)) (by (with_reducible repeat (first | refine blk_drewN ?_ _ | refine blk_drew ?_ | refine blk_alloc ?_ _)); exact BK230.out)) : gb246 ≠ gb230)); have n11_ := Aside0.mk ((by rw [hg]; exact Nat.ne_of_lt (blk_lt (g := gb242) (o := .cells #[.int .i64 x243000_4, .int .i64 x243001_4] 23 (0, 0)) (by (with_reducible repeat (first | refine blk_drewN ?_ _ | refine blk_drew ?_ | refine blk_alloc ?_ _)); exact BK242.out)) : gb242 ≠ gb246)); have n12_ := Aside0.mk ((by rw [hg]; exact Nat.ne_of_gt (blk_lt (g := gb242) (o := .cells #[.int .i64 x243000_4, .int .i64 x243001_4] 23 (0, 0)) (by (with_reducible repeat (first | refine blk_drewN ?_ _ | refine blk_drew ?_ | refine blk_alloc ?_ _)); exact BK242.out)) : gb246 ≠ gb242)); clear BK229; clear BK230; clear BK242; clear HB; have BK229 := n0_; have BK230 := n1_; have BK242 := n2_; have HB := n3_; have BK246 := n4_; have GW246 := n5_; have GE246 := n6_; have NB229_246 := n7_; have NB246_229 := n8_; have NB230_246 := n9_; have NB246_230 := n10_; have NB242_246 := n11_; have NB246_242 := n12_; clear n0_ n1_ n2_ n3_ n4_ n5_ n6_ n7_ n8_ n9_ n10_ n11_ n12_; clear hb hbox hg; have hnb101 := NB246_229.out; have hnc101 := NB229_246.out; have hnb102 := NB246_230.out; have hnc102 := NB230_246.out; have hnb103 := NB246_242.out; have hnc103 := NB242_246.out; have hcz104_0 : w100.cell? ⟨gb246, 0, none⟩ = some (.int .i64 0) := (blk_cell BK246.out 0).trans rfl; have hcz104_1 : w100.cell? ⟨gb246, 1, none⟩ = some (.int .i64 0) := (blk_cell BK246.out 1).trans rfl; have hfz104_0 := blk_frozen BK246.out 0; have hfz104_1 := blk_frozen BK246.out 1; have hcz105_0 : w100.cell? ⟨gb242, 0, none⟩ = some (.int .i64 x243000_4) := (blk_cell BK242.out 0).trans rfl; have hcz105_1 : w100.cell? ⟨gb242, 1, none⟩ = some (.int .i64 x243001_4) := (blk_cell BK242.out 1).trans rfl; have hfz105_0 := blk_frozen BK242.out 0; have hfz105_1 := blk_frozen BK242.out 1))
                              go_roundg k4
                              case measure => have := HJ4.out; have := HJ20.out; have := HJ30.out; have := HK4.out; omega
                              case rel => exact ⟨(t243), (t244), H', ⟨by have := HJ4.out; have := HJ20.out; have := HJ30.out; have := HK4.out; omega⟩, ⟨by (with_reducible repeat (first | refine blk_drewN ?_ _ | refine blk_drew ?_ | refine blk_alloc ?_ _)); refine blk_far ?_ NB229_242.out _; (with_reducible repeat (first | refine blk_drewN ?_ _ | refine blk_drew ?_ | refine blk_alloc ?_ _)); refine blk_far ?_ NB229_242.out _; (with_reducible repeat (first | refine blk_drewN ?_ _ | refine blk_drew ?_ | refine blk_alloc ?_ _)); refine blk_far ?_ NB229_246.out _; (with_reducible repeat (first | refine blk_drewN ?_ _ | refine blk_drew ?_ | refine blk_alloc ?_ _)); refine blk_far ?_ NB229_246.out _; (with_reducible repeat (first | refine blk_drewN ?_ _ | refine blk_drew ?_ | refine blk_alloc ?_ _)); exact BK229.out⟩, ⟨by (with_reducible repeat (first | refine blk_drewN ?_ _ | refine blk_drew ?_ | refine blk_alloc ?_ _)); refine blk_far ?_ NB230_242.out _; (with_reducible repeat (first | refine blk_drewN ?_ _ | refine blk_drew ?_ | refine blk_alloc ?_ _)); refine blk_far ?_ NB230_242.out _; (with_reducible repeat (first | refine blk_drewN ?_ _ | refine blk_drew ?_ | refine blk_alloc ?_ _)); refine blk_far ?_ NB230_246.out _; (with_reducible repeat (first | refine blk_drewN ?_ _ | refine blk_drew ?_ | refine blk_alloc ?_ _)); refine blk_far ?_ NB230_246.out _; (with_reducible repeat (first | refine blk_drewN ?_ _ | refine blk_drew ?_ | refine blk_alloc ?_ _)); exact BK230.out⟩, ⟨by (with_reducible repeat (first | refine blk_drewN ?_ _ | refine blk_drew ?_ | refine blk_alloc ?_ _)); refine blk_put (cs := #[.int .i64 t243, .int .i64 x243001_4]) ?_ 1 _ rfl; (with_reducible repeat (first | refine blk_drewN ?_ _ | refine blk_drew ?_ | refine blk_alloc ?_ _)); refine blk_put (cs := #[.int .i64 x243000_4, .int .i64 x243001_4]) ?_ 0 _ rfl; (with_reducible repeat (first | refine blk_drewN ?_ _ | refine blk_drew ?_ | refine blk_alloc ?_ _)); refine blk_far ?_ NB242_246.out _; (with_reducible repeat (first | refine blk_drewN ?_ _ | refine blk_drew ?_ | refine blk_alloc ?_ _)); refine blk_far ?_ NB242_246.out _; (with_reducible repeat (first | refine blk_drewN ?_ _ | refine blk_drew ?_ | refine blk_alloc ?_ _)); exact BK242.out⟩, ⟨by repeat (first | (with_reducible first | exact HB.out | apply below_alloc | apply pw_below_drewN | apply below_drew1 | refine below_set ?_ GE229.out | refine below_set ?_ GE230.out | refine below_set ?_ GE242.out | refine below_set ?_ GE246.out) | exact HB.out)⟩⟩
                            · rw [if_neg c93] at H
                              have c93b0 : (t243 == (wrap64 (x243000_4 + 1))) = false := beq_eq_false_iff_ne.mpr c93
                              have c93b1 : (t243 != (wrap64 (x243000_4 + 1))) = true := bne_iff_ne.mpr c93
                              obtain rfl := Option.some.inj H
                              have hnb106 := NB242_229.out
                              have hnc106 := NB229_242.out
                              have hnb107 := NB242_230.out
                              have hnc107 := NB230_242.out
                              have hcz108_0 : wr.cell? ⟨gb242, 0, none⟩ = some (.int .i64 x243000_4) := (blk_cell BK242.out 0).trans rfl
                              have hcz108_1 : wr.cell? ⟨gb242, 1, none⟩ = some (.int .i64 x243001_4) := (blk_cell BK242.out 1).trans rfl
                              have hfz108_0 := blk_frozen BK242.out 0
                              have hfz108_1 := blk_frozen BK242.out 1
                              have hnb109 := NB230_229.out
                              have hnc109 := NB229_230.out
                              have hcz110_0 : wr.cell? ⟨gb230, 0, none⟩ = some (.int .i64 x231000_20) := (blk_cell BK230.out 0).trans rfl
                              have hcz110_1 : wr.cell? ⟨gb230, 1, none⟩ = some (.int .i64 x231001_20) := (blk_cell BK230.out 1).trans rfl
                              have hfz110_0 := blk_frozen BK230.out 0
                              have hfz110_1 := blk_frozen BK230.out 1
                              go_wp2_with (first | ((with_reducible refine gate_callee (f := 12) rfl ?_); refine goesL_ (some 90) rfl rfl Tryd.func12 (by kernel_rfl) rfl #[.agg #[.int .i64 x243000_4, .int .i64 x243001_4]] rfl (by (try simp only [List.map_toArray, List.map_cons, List.map_nil]); first | done | rfl | (simp only [List.length_drop, List.length_take]; rfl)) ?_; (with_reducible refine (span_Parent.calls x243000_4 x243001_4 t243 t244 true _ A91.out).mono ?_); rintro e w111 ⟨rfl, hb⟩; refine ⟨_, rfl, ?_⟩; have n0_ := Aside0.mk (blk_below (g := gb229) (o := .cells #[.int .i64 x230000_20, .int .i64 x230001_20] 23 (0, 0)) (by (with_reducible repeat (first | refine blk_drewN ?_ _ | refine blk_drew ?_ | refine blk_alloc ?_ _)); exact BK229.out) hb); have n1_ := Aside0.mk (blk_below (g := gb230) (o := .cells #[.int .i64 x231000_20, .int .i64 x231001_20] 23 (0, 0)) (by (with_reducible repeat (first | refine blk_drewN ?_ _ | refine blk_drew ?_ | refine blk_alloc ?_ _)); exact BK230.out) hb); have n2_ := Aside0.mk (blk_below (g := gb242) (o := .cells #[.int .i64 x243000_4, .int .i64 x243001_4] 23 (0, 0)) (by (with_reducible repeat (first | refine blk_drewN ?_ _ | refine blk_drew ?_ | refine blk_alloc ?_ _)); exact BK242.out) hb); have n3_ := Aside0.mk (below_step (by repeat (first | (with_reducible first | exact HB.out | apply below_alloc | apply pw_below_drewN | apply below_drew1 | refine below_set ?_ GE229.out | refine below_set ?_ GE230.out | refine below_set ?_ GE242.out) | exact HB.out)) hb); clear BK229; clear BK230; clear BK242; clear HB; have BK229 := n0_; have BK230 := n1_; have BK242 := n2_; have HB := n3_; clear n0_ n1_ n2_ n3_; (try clear hb); (try clear hb2); (try clear hk); (try clear hi)) | ((with_reducible refine gate_dst (N := 10) rfl ?_); refine box_event ?hg (N := 10) ?hd (cs := #[.int .i64 0, .int .i64 0]) (t := 23) ?hr ?_; (case hd => rfl); (case hg => rfl); (case hr => first | (go_simp; done) | (go_simp; rfl)); intro gb246 hg w112 hbox hb; have n0_ := Aside0.mk (blk_below (g := gb229) (o := .cells #[.int .i64 x230000_20, .int .i64 x230001_20] 23 (0, 0)) (by (with_reducible repeat (first | refine blk_drewN ?_ _ | refine blk_drew ?_ | refine blk_alloc ?_ _)); exact BK229.out) hb); have n1_ := Aside0.mk (blk_below (g := gb230) (o := .cells #[.int .i64 x231000_20, .int .i64 x231001_20] 23 (0, 0)) (by (with_reducible repeat (first | refine blk_drewN ?_ _ | refine blk_drew ?_ | refine blk_alloc ?_ _)); exact BK230.out) hb); have n2_ := Aside0.mk (blk_below (g := gb242) (o := .cells #[.int .i64 x243000_4, .int .i64 x243001_4] 23 (0, 0)) (by (with_reducible repeat (first | refine blk_drewN ?_ _ | refine blk_drew ?_ | refine blk_alloc ?_ _)); exact BK242.out) hb); have n3_ := Aside0.mk (below_step (by repeat (first | (with_reducible first | exact HB.out | apply below_alloc | apply pw_below_drewN | apply below_drew1 | refine below_set ?_ GE229.out | refine below_set ?_ GE230.out | refine below_set ?_ GE242.out) | exact HB.out)) hb); have n4_ := Aside0.mk (hbox); have n5_ := Aside0.mk ((by rw [hg]; exact (below_size (by repeat (first | (with_reducible first | exact HB.out | apply below_alloc | apply pw_below_drewN | apply below_drew1 | refine below_set ?_ GE229.out | refine below_set ?_ GE230.out | refine below_set ?_ GE242.out) | exact HB.out))) : w.heap.size ≤ gb246)); have n6_ := Aside0.mk ((by rw [hg]; exact (below_size (by repeat (first | (with_reducible first | exact HB.out | apply below_alloc | apply pw_below_drewN | apply below_drew1 | refine below_set ?_ GE229.out | refine below_set ?_ GE230.out | refine below_set ?_ GE242.out) | exact HB.out))) : w.heap.size ≤ gb246)); have n7_ := Aside0.mk ((by rw [hg]; exact Nat.ne_of_lt (blk_lt (g := gb229) (o := .cells #[.int .i64 x230000_20, .int .i64 x230001_20] 23 (0, 0)) (by (with_reducible repeat (first | refine blk_drewN ?_ _ | refine blk_drew ?_ | refine blk_alloc ?_ _)); exact BK229.out)) : gb229 ≠ gb246)); have n8_ := Aside0.mk ((by rw [hg]; exact Nat.ne_of_gt (blk_lt (g := gb229) (o := .cells #[.int .i64 x230000_20, .int .i64 x230001_20] 23 (0, 0)) (by (with_reducible repeat (first | refine blk_drewN ?_ _ | refine blk_drew ?_ | refine blk_alloc ?_ _)); exact BK229.out)) : gb246 ≠ gb229)); have n9_ := Aside0.mk ((by rw [hg]; exact Nat.ne_of_lt (blk_lt (g := gb230) (o := .cells #[.int .i64 x231000_20, .int .i64 x231001_20] 23 (0, 0)) (by (with_reducible repeat (first | refine blk_drewN ?_ _ | refine blk_drew ?_ | refine blk_alloc ?_ _)); exact BK230.out)) : gb230 ≠ gb246)); have n10_ := Aside0.mk ((by rw [hg]; exact Nat.ne_of_gt (blk_lt (g := gb230) (o := .cells #[.int .i64 x231000_20, .int .i64 x231001_20] 23 (0, 0)) (by (with_reducible repeat (first | refine blk_drewN ?_ _ | refine blk_drew ?_ | refine blk_alloc ?_ _)); exact BK230.out)) : gb246 ≠ gb230)); have n11_ := Aside0.mk ((by rw [hg]; exact Nat.ne_of_lt (blk_lt (g := gb242) (o := .cells #[.int .i64 x243000_4, .int .i64 x243001_4] 23 (0, 0)) (by (with_reducible repeat (first | refine blk_drewN ?_ _ | refine blk_drew ?_ | refine blk_alloc ?_ _)); exact BK242.out)) : gb242 ≠ gb246)); have n12_ := Aside0.mk ((by rw [hg]; exact Nat.ne_of_gt (blk_lt (g := gb242) (o := .cells #[.int .i64 x243000_4, .int .i64 x243001_4] 23 (0, 0)) (by (with_reducible repeat (first | refine blk_drewN ?_ _ | refine blk_drew ?_ | refine blk_alloc ?_ _)); exact BK242.out)) : gb246 ≠ gb242)); clear BK229; clear BK230; clear BK242; clear HB; have BK229 := n0_; have BK230 := n1_; have BK242 := n2_; have HB := n3_; have BK246 := n4_; have GW246 := n5_; have GE246 := n6_; have NB229_246 := n7_; have NB246_229 := n8_; have NB230_246 := n9_; have NB246_230 := n10_; have NB242_246 := n11_; have NB246_242 := n12_; clear n0_ n1_ n2_ n3_ n4_ n5_ n6_ n7_ n8_ n9_ n10_ n11_ n12_; clear hb hbox hg; have hnb113 := NB246_229.out; have hnc113 := NB229_246.out; have hnb114 := NB246_230.out; have hnc114 := NB230_246.out; have hnb115 := NB246_242.out; have hnc115 := NB242_246.out; have hcz116_0 : w112.cell? ⟨gb246, 0, none⟩ = some (.int .i64 0) := (blk_cell BK246.out 0).trans rfl; have hcz116_1 : w112.cell? ⟨gb246, 1, none⟩ = some (.int .i64 0) := (blk_cell BK246.out 1).trans rfl; have hfz116_0 := blk_frozen BK246.out 0; have hfz116_1 := blk_frozen BK246.out 1; have hcz117_0 : w112.cell? ⟨gb242, 0, none⟩ = some (.int .i64 x243000_4) := (blk_cell BK242.out 0).trans rfl; have hcz117_1 : w112.cell? ⟨gb242, 1, none⟩ = some (.int .i64 x243001_4) := (blk_cell BK242.out 1).trans rfl; have hfz117_0 := blk_frozen BK242.out 0; have hfz117_1 := blk_frozen BK242.out 1))
                              go_ret
                              exact ⟨by first | rfl | (simp [errW_none, errW_some] <;> rfl) | (simp [*, errW_none, errW_some] <;> rfl), by repeat (first | (with_reducible first | exact HB.out | apply below_alloc | apply pw_below_drewN | apply below_drew1 | refine below_set ?_ GE229.out | refine below_set ?_ GE230.out | refine below_set ?_ GE242.out | refine below_set ?_ GE246.out) | exact HB.out)⟩
                          · replace c92 := Bool.eq_false_iff.mpr c92
                            subst c92
                            have H1 : (some false) = some r := by rw [if_neg (show ¬ (false = true) by decide)] at H; exact H
                            clear H
                            have H := H1
                            clear H1
                            obtain rfl := Option.some.inj H
                            have hnb118 := NB242_229.out
                            have hnc118 := NB229_242.out
                            have hnb119 := NB242_230.out
                            have hnc119 := NB230_242.out
                            have hcz120_0 : wr.cell? ⟨gb242, 0, none⟩ = some (.int .i64 x243000_4) := (blk_cell BK242.out 0).trans rfl
                            have hcz120_1 : wr.cell? ⟨gb242, 1, none⟩ = some (.int .i64 x243001_4) := (blk_cell BK242.out 1).trans rfl
                            have hfz120_0 := blk_frozen BK242.out 0
                            have hfz120_1 := blk_frozen BK242.out 1
                            have hnb121 := NB230_229.out
                            have hnc121 := NB229_230.out
                            have hcz122_0 : wr.cell? ⟨gb230, 0, none⟩ = some (.int .i64 x231000_20) := (blk_cell BK230.out 0).trans rfl
                            have hcz122_1 : wr.cell? ⟨gb230, 1, none⟩ = some (.int .i64 x231001_20) := (blk_cell BK230.out 1).trans rfl
                            have hfz122_0 := blk_frozen BK230.out 0
                            have hfz122_1 := blk_frozen BK230.out 1
                            go_wp2_with (first | ((with_reducible refine gate_callee (f := 12) rfl ?_); refine goesL_ (some 90) rfl rfl Tryd.func12 (by kernel_rfl) rfl #[.agg #[.int .i64 x243000_4, .int .i64 x243001_4]] rfl (by (try simp only [List.map_toArray, List.map_cons, List.map_nil]); first | done | rfl | (simp only [List.length_drop, List.length_take]; rfl)) ?_; (with_reducible refine (span_Parent.calls x243000_4 x243001_4 t243 t244 false _ A91.out).mono ?_); rintro e w123 ⟨rfl, hb⟩; refine ⟨_, rfl, ?_⟩; have n0_ := Aside0.mk (blk_below (g := gb229) (o := .cells #[.int .i64 x230000_20, .int .i64 x230001_20] 23 (0, 0)) (by (with_reducible repeat (first | refine blk_drewN ?_ _ | refine blk_drew ?_ | refine blk_alloc ?_ _)); exact BK229.out) hb); have n1_ := Aside0.mk (blk_below (g := gb230) (o := .cells #[.int .i64 x231000_20, .int .i64 x231001_20] 23 (0, 0)) (by (with_reducible repeat (first | refine blk_drewN ?_ _ | refine blk_drew ?_ | refine blk_alloc ?_ _)); exact BK230.out) hb); have n2_ := Aside0.mk (blk_below (g := gb242) (o := .cells #[.int .i64 x243000_4, .int .i64 x243001_4] 23 (0, 0)) (by (with_reducible repeat (first | refine blk_drewN ?_ _ | refine blk_drew ?_ | refine blk_alloc ?_ _)); exact BK242.out) hb); have n3_ := Aside0.mk (below_step (by repeat (first | (with_reducible first | exact HB.out | apply below_alloc | apply pw_below_drewN | apply below_drew1 | refine below_set ?_ GE229.out | refine below_set ?_ GE230.out | refine below_set ?_ GE242.out) | exact HB.out)) hb); clear BK229; clear BK230; clear BK242; clear HB; have BK229 := n0_; have BK230 := n1_; have BK242 := n2_; have HB := n3_; clear n0_ n1_ n2_ n3_; (try clear hb); (try clear hb2); (try clear hk); (try clear hi)) | ((with_reducible refine gate_dst (N := 10) rfl ?_); refine box_event ?hg (N := 10) ?hd (cs := #[.int .i64 0, .int .i64 0]) (t := 23) ?hr ?_; (case hd => rfl); (case hg => rfl); (case hr => first | (go_simp; done) | (go_simp; rfl)); intro gb246 hg w124 hbox hb; have n0_ := Aside0.mk (blk_below (g := gb229) (o := .cells #[.int .i64 x230000_20, .int .i64 x230001_20] 23 (0, 0)) (by (with_reducible repeat (first | refine blk_drewN ?_ _ | refine blk_drew ?_ | refine blk_alloc ?_ _)); exact BK229.out) hb); have n1_ := Aside0.mk (blk_below (g := gb230) (o := .cells #[.int .i64 x231000_20, .int .i64 x231001_20] 23 (0, 0)) (by (with_reducible repeat (first | refine blk_drewN ?_ _ | refine blk_drew ?_ | refine blk_alloc ?_ _)); exact BK230.out) hb); have n2_ := Aside0.mk (blk_below (g := gb242) (o := .cells #[.int .i64 x243000_4, .int .i64 x243001_4] 23 (0, 0)) (by (with_reducible repeat (first | refine blk_drewN ?_ _ | refine blk_drew ?_ | refine blk_alloc ?_ _)); exact BK242.out) hb); have n3_ := Aside0.mk (below_step (by repeat (first | (with_reducible first | exact HB.out | apply below_alloc | apply pw_below_drewN | apply below_drew1 | refine below_set ?_ GE229.out | refine below_set ?_ GE230.out | refine below_set ?_ GE242.out) | exact HB.out)) hb); have n4_ := Aside0.mk (hbox); have n5_ := Aside0.mk ((by rw [hg]; exact (below_size (by repeat (first | (with_reducible first | exact HB.out | apply below_alloc | apply pw_below_drewN | apply below_drew1 | refine below_set ?_ GE229.out | refine below_set ?_ GE230.out | refine below_set ?_ GE242.out) | exact HB.out))) : w.heap.size ≤ gb246)); have n6_ := Aside0.mk ((by rw [hg]; exact (below_size (by repeat (first | (with_reducible first | exact HB.out | apply below_alloc | apply pw_below_drewN | apply below_drew1 | refine below_set ?_ GE229.out | refine below_set ?_ GE230.out | refine below_set ?_ GE242.out) | exact HB.out))) : w.heap.size ≤ gb246)); have n7_ := Aside0.mk ((by rw [hg]; exact Nat.ne_of_lt (blk_lt (g := gb229) (o := .cells #[.int .i64 x230000_20, .int .i64 x230001_20] 23 (0, 0)) (by (with_reducible repeat (first | refine blk_drewN ?_ _ | refine blk_drew ?_ | refine blk_alloc ?_ _)); exact BK229.out)) : gb229 ≠ gb246)); have n8_ := Aside0.mk ((by rw [hg]; exact Nat.ne_of_gt (blk_lt (g := gb229) (o := .cells #[.int .i64 x230000_20, .int .i64 x230001_20] 23 (0, 0)) (by (with_reducible repeat (first | refine blk_drewN ?_ _ | refine blk_drew ?_ | refine blk_alloc ?_ _)); exact BK229.out)) : gb246 ≠ gb229)); have n9_ := Aside0.mk ((by rw [hg]; exact Nat.ne_of_lt (blk_lt (g := gb230) (o := .cells #[.int .i64 x231000_20, .int .i64 x231001_20] 23 (0, 0)) (by (with_reducible repeat (first | refine blk_drewN ?_ _ | refine blk_drew ?_ | refine blk_alloc ?_ _)); exact BK230.out)) : gb230 ≠ gb246)); have n10_ := Aside0.mk ((by rw [hg]; exact Nat.ne_of_gt (blk_lt (g := gb230) (o := .cells #[.int .i64 x231000_20, .int .i64 x231001_20] 23 (0, 0)) (by (with_reducible repeat (first | refine blk_drewN ?_ _ | refine blk_drew ?_ | refine blk_alloc ?_ _)); exact BK230.out)) : gb246 ≠ gb230)); have n11_ := Aside0.mk ((by rw [hg]; exact Nat.ne_of_lt (blk_lt (g := gb242) (o := .cells #[.int .i64 x243000_4, .int .i64 x243001_4] 23 (0, 0)) (by (with_reducible repeat (first | refine blk_drewN ?_ _ | refine blk_drew ?_ | refine blk_alloc ?_ _)); exact BK242.out)) : gb242 ≠ gb246)); have n12_ := Aside0.mk ((by rw [hg]; exact Nat.ne_of_gt (blk_lt (g := gb242) (o := .cells #[.int .i64 x243000_4, .int .i64 x243001_4] 23 (0, 0)) (by (with_reducible repeat (first | refine blk_drewN ?_ _ | refine blk_drew ?_ | refine blk_alloc ?_ _)); exact BK242.out)) : gb246 ≠ gb242)); clear BK229; clear BK230; clear BK242; clear HB; have BK229 := n0_; have BK230 := n1_; have BK242 := n2_; have HB := n3_; have BK246 := n4_; have GW246 := n5_; have GE246 := n6_; have NB229_246 := n7_; have NB246_229 := n8_; have NB230_246 := n9_; have NB246_230 := n10_; have NB242_246 := n11_; have NB246_242 := n12_; clear n0_ n1_ n2_ n3_ n4_ n5_ n6_ n7_ n8_ n9_ n10_ n11_ n12_; clear hb hbox hg; have hnb125 := NB246_229.out; have hnc125 := NB229_246.out; have hnb126 := NB246_230.out; have hnc126 := NB230_246.out; have hnb127 := NB246_242.out; have hnc127 := NB242_246.out; have hcz128_0 : w124.cell? ⟨gb246, 0, none⟩ = some (.int .i64 0) := (blk_cell BK246.out 0).trans rfl; have hcz128_1 : w124.cell? ⟨gb246, 1, none⟩ = some (.int .i64 0) := (blk_cell BK246.out 1).trans rfl; have hfz128_0 := blk_frozen BK246.out 0; have hfz128_1 := blk_frozen BK246.out 1))
                            go_ret
                            exact ⟨by first | rfl | (simp [errW_none, errW_some] <;> rfl) | (simp [*, errW_none, errW_some] <;> rfl), by repeat (first | (with_reducible first | exact HB.out | apply below_alloc | apply pw_below_drewN | apply below_drew1 | refine below_set ?_ GE229.out | refine below_set ?_ GE230.out | refine below_set ?_ GE242.out | refine below_set ?_ GE246.out) | exact HB.out)⟩
                        · rw [if_neg c90] at H
                          have c90b0 : decide (x243000_4 < x231000_20) = false := decide_eq_false c90
                          clear c90
                          by_cases c129 : t234 ≤ t237
                          · rw [if_pos c129] at H
                            have c129b0 : decide (t234 ≤ t237) = true := decide_eq_true c129
                            clear c129
                            by_cases c130 : ((decide (t236 ≤ t235)) == (x243000_4 == x231000_20 && (x243001_4 == x231001_20))) = true
                            · rw [if_pos c130] at H
                              have c130b0 : ((decide (t236 ≤ t235)) == (x243000_4 == x231000_20 && (x243001_4 == x231001_20))) = true := c130
                              (try (have c130b1 : decide ((decide (t236 ≤ t235)) = (x243000_4 == x231000_20 && (x243001_4 == x231001_20))) = true := by simpa using c130))
                              (try (have c130b2 : ((decide (t236 ≤ t235)) == (x243000_4 == x231000_20 && (x243001_4 == x231001_20))) = true := by simpa using c130))
                              clear c130
                              by_cases c131 : t236 ≤ t235
                              · rw [if_pos c131] at H
                                have c131b0 : decide (t236 ≤ t235) = true := decide_eq_true c131
                                have c131b0x : (x243000_4 == x231000_20 && (x243001_4 == x231001_20)) = true := by
                                  have h_ := c130b0
                                  rw [c131b0] at h_
                                  cases hz_ : (x243000_4 == x231000_20 && (x243001_4 == x231001_20))
                                  · first | rfl | (rw [hz_] at h_; exact absurd h_ (by decide))
                                  · first | rfl | (rw [hz_] at h_; exact absurd h_ (by decide))
                                clear c131
                                by_cases c132 : t236 ≤ t234
                                · rw [if_pos c132] at H
                                  have c132b0 : decide (t236 ≤ t234) = true := decide_eq_true c132
                                  clear c132
                                  obtain rfl := Option.some.inj H
                                  have hnb133 := NB242_229.out
                                  have hnc133 := NB229_242.out
                                  have hnb134 := NB242_230.out
                                  have hnc134 := NB230_242.out
                                  have hcz135_0 : wr.cell? ⟨gb242, 0, none⟩ = some (.int .i64 x243000_4) := (blk_cell BK242.out 0).trans rfl
                                  have hcz135_1 : wr.cell? ⟨gb242, 1, none⟩ = some (.int .i64 x243001_4) := (blk_cell BK242.out 1).trans rfl
                                  have hfz135_0 := blk_frozen BK242.out 0
                                  have hfz135_1 := blk_frozen BK242.out 1
                                  have hnb136 := NB230_229.out
                                  have hnc136 := NB229_230.out
                                  have hcz137_0 : wr.cell? ⟨gb230, 0, none⟩ = some (.int .i64 x231000_20) := (blk_cell BK230.out 0).trans rfl
                                  have hcz137_1 : wr.cell? ⟨gb230, 1, none⟩ = some (.int .i64 x231001_20) := (blk_cell BK230.out 1).trans rfl
                                  have hfz137_0 := blk_frozen BK230.out 0
                                  have hfz137_1 := blk_frozen BK230.out 1
                                  go_wp2
                                  go_ret
                                  exact ⟨by first | rfl | (simp [errW_none, errW_some] <;> rfl) | (simp [*, errW_none, errW_some] <;> rfl), by repeat (first | (with_reducible first | exact HB.out | apply below_alloc | apply pw_below_drewN | apply below_drew1 | refine below_set ?_ GE229.out | refine below_set ?_ GE230.out | refine below_set ?_ GE242.out) | exact HB.out)⟩
                                · rw [if_neg c132] at H
                                  have c132b0 : decide (t236 ≤ t234) = false := decide_eq_false c132
                                  clear c132
                                  obtain rfl := Option.some.inj H
                                  have hnb138 := NB242_229.out
                                  have hnc138 := NB229_242.out
                                  have hnb139 := NB242_230.out
                                  have hnc139 := NB230_242.out
                                  have hcz140_0 : wr.cell? ⟨gb242, 0, none⟩ = some (.int .i64 x243000_4) := (blk_cell BK242.out 0).trans rfl
                                  have hcz140_1 : wr.cell? ⟨gb242, 1, none⟩ = some (.int .i64 x243001_4) := (blk_cell BK242.out 1).trans rfl
                                  have hfz140_0 := blk_frozen BK242.out 0
                                  have hfz140_1 := blk_frozen BK242.out 1
                                  have hnb141 := NB230_229.out
                                  have hnc141 := NB229_230.out
                                  have hcz142_0 : wr.cell? ⟨gb230, 0, none⟩ = some (.int .i64 x231000_20) := (blk_cell BK230.out 0).trans rfl
                                  have hcz142_1 : wr.cell? ⟨gb230, 1, none⟩ = some (.int .i64 x231001_20) := (blk_cell BK230.out 1).trans rfl
                                  have hfz142_0 := blk_frozen BK230.out 0
                                  have hfz142_1 := blk_frozen BK230.out 1
                                  go_wp2
                                  go_ret
                                  exact ⟨by first | rfl | (simp [errW_none, errW_some] <;> rfl) | (simp [*, errW_none, errW_some] <;> rfl), by repeat (first | (with_reducible first | exact HB.out | apply below_alloc | apply pw_below_drewN | apply below_drew1 | refine below_set ?_ GE229.out | refine below_set ?_ GE230.out | refine below_set ?_ GE242.out) | exact HB.out)⟩
                              · rw [if_neg c131] at H
                                have c131b0 : decide (t236 ≤ t235) = false := decide_eq_false c131
                                have c131b0x : (x243000_4 == x231000_20 && (x243001_4 == x231001_20)) = false := by
                                  have h_ := c130b0
                                  rw [c131b0] at h_
                                  cases hz_ : (x243000_4 == x231000_20 && (x243001_4 == x231001_20))
                                  · first | rfl | (rw [hz_] at h_; exact absurd h_ (by decide))
                                  · first | rfl | (rw [hz_] at h_; exact absurd h_ (by decide))
                                clear c131
                                obtain rfl := Option.some.inj H
                                have hnb143 := NB242_229.out
                                have hnc143 := NB229_242.out
                                have hnb144 := NB242_230.out
                                have hnc144 := NB230_242.out
                                have hcz145_0 : wr.cell? ⟨gb242, 0, none⟩ = some (.int .i64 x243000_4) := (blk_cell BK242.out 0).trans rfl
                                have hcz145_1 : wr.cell? ⟨gb242, 1, none⟩ = some (.int .i64 x243001_4) := (blk_cell BK242.out 1).trans rfl
                                have hfz145_0 := blk_frozen BK242.out 0
                                have hfz145_1 := blk_frozen BK242.out 1
                                have hnb146 := NB230_229.out
                                have hnc146 := NB229_230.out
                                have hcz147_0 : wr.cell? ⟨gb230, 0, none⟩ = some (.int .i64 x231000_20) := (blk_cell BK230.out 0).trans rfl
                                have hcz147_1 : wr.cell? ⟨gb230, 1, none⟩ = some (.int .i64 x231001_20) := (blk_cell BK230.out 1).trans rfl
                                have hfz147_0 := blk_frozen BK230.out 0
                                have hfz147_1 := blk_frozen BK230.out 1
                                go_wp2
                                go_ret
                                exact ⟨by first | rfl | (simp [errW_none, errW_some] <;> rfl) | (simp [*, errW_none, errW_some] <;> rfl), by repeat (first | (with_reducible first | exact HB.out | apply below_alloc | apply pw_below_drewN | apply below_drew1 | refine below_set ?_ GE229.out | refine below_set ?_ GE230.out | refine below_set ?_ GE242.out) | exact HB.out)⟩
                            · rw [if_neg c130] at H
                              have c130b0 : ((decide (t236 ≤ t235)) == (x243000_4 == x231000_20 && (x243001_4 == x231001_20))) = false := by simpa using c130
                              (try (have c130b1 : decide ((decide (t236 ≤ t235)) = (x243000_4 == x231000_20 && (x243001_4 == x231001_20))) = false := by simpa using c130))
                              (try (have c130b2 : ((decide (t236 ≤ t235)) == (x243000_4 == x231000_20 && (x243001_4 == x231001_20))) = false := by simpa using c130))
                              (try (have c130b3 : ¬ ((decide (t236 ≤ t235)) = (x243000_4 == x231000_20 && (x243001_4 == x231001_20))) := by simpa using c130))
                              clear c130
                              obtain rfl := Option.some.inj H
                              have hnb148 := NB242_229.out
                              have hnc148 := NB229_242.out
                              have hnb149 := NB242_230.out
                              have hnc149 := NB230_242.out
                              have hcz150_0 : wr.cell? ⟨gb242, 0, none⟩ = some (.int .i64 x243000_4) := (blk_cell BK242.out 0).trans rfl
                              have hcz150_1 : wr.cell? ⟨gb242, 1, none⟩ = some (.int .i64 x243001_4) := (blk_cell BK242.out 1).trans rfl
                              have hfz150_0 := blk_frozen BK242.out 0
                              have hfz150_1 := blk_frozen BK242.out 1
                              have hnb151 := NB230_229.out
                              have hnc151 := NB229_230.out
                              have hcz152_0 : wr.cell? ⟨gb230, 0, none⟩ = some (.int .i64 x231000_20) := (blk_cell BK230.out 0).trans rfl
                              have hcz152_1 : wr.cell? ⟨gb230, 1, none⟩ = some (.int .i64 x231001_20) := (blk_cell BK230.out 1).trans rfl
                              have hfz152_0 := blk_frozen BK230.out 0
                              have hfz152_1 := blk_frozen BK230.out 1
                              go_wp2
                              go_ret
                              exact ⟨by first | rfl | (simp [errW_none, errW_some] <;> rfl) | (simp [*, errW_none, errW_some] <;> rfl), by repeat (first | (with_reducible first | exact HB.out | apply below_alloc | apply pw_below_drewN | apply below_drew1 | refine below_set ?_ GE229.out | refine below_set ?_ GE230.out | refine below_set ?_ GE242.out) | exact HB.out)⟩
                          · rw [if_neg c129] at H
                            have c129b0 : decide (t234 ≤ t237) = false := decide_eq_false c129
                            clear c129
                            by_cases c153 : (false == (x243000_4 == x231000_20 && (x243001_4 == x231001_20))) = true
                            · rw [if_pos c153] at H
                              have c153b0 : (false == (x243000_4 == x231000_20 && (x243001_4 == x231001_20))) = true := c153
                              (try (have c153b1 : decide (false = (x243000_4 == x231000_20 && (x243001_4 == x231001_20))) = true := by simpa using c153))
                              (try (have c153b2 : (false == (x243000_4 == x231000_20 && (x243001_4 == x231001_20))) = true := by simpa using c153))
                              clear c153
                              obtain rfl := Option.some.inj H
                              have hnb154 := NB242_229.out
                              have hnc154 := NB229_242.out
                              have hnb155 := NB242_230.out
                              have hnc155 := NB230_242.out
                              have hcz156_0 : wr.cell? ⟨gb242, 0, none⟩ = some (.int .i64 x243000_4) := (blk_cell BK242.out 0).trans rfl
                              have hcz156_1 : wr.cell? ⟨gb242, 1, none⟩ = some (.int .i64 x243001_4) := (blk_cell BK242.out 1).trans rfl
                              have hfz156_0 := blk_frozen BK242.out 0
                              have hfz156_1 := blk_frozen BK242.out 1
                              have hnb157 := NB230_229.out
                              have hnc157 := NB229_230.out
                              have hcz158_0 : wr.cell? ⟨gb230, 0, none⟩ = some (.int .i64 x231000_20) := (blk_cell BK230.out 0).trans rfl
                              have hcz158_1 : wr.cell? ⟨gb230, 1, none⟩ = some (.int .i64 x231001_20) := (blk_cell BK230.out 1).trans rfl
                              have hfz158_0 := blk_frozen BK230.out 0
                              have hfz158_1 := blk_frozen BK230.out 1
                              go_wp2
                              go_ret
                              exact ⟨by first | rfl | (simp [errW_none, errW_some] <;> rfl) | (simp [*, errW_none, errW_some] <;> rfl), by repeat (first | (with_reducible first | exact HB.out | apply below_alloc | apply pw_below_drewN | apply below_drew1 | refine below_set ?_ GE229.out | refine below_set ?_ GE230.out | refine below_set ?_ GE242.out) | exact HB.out)⟩
                            · rw [if_neg c153] at H
                              have c153b0 : (false == (x243000_4 == x231000_20 && (x243001_4 == x231001_20))) = false := by simpa using c153
                              (try (have c153b1 : decide (false = (x243000_4 == x231000_20 && (x243001_4 == x231001_20))) = false := by simpa using c153))
                              (try (have c153b2 : (false == (x243000_4 == x231000_20 && (x243001_4 == x231001_20))) = false := by simpa using c153))
                              (try (have c153b3 : ¬ (false = (x243000_4 == x231000_20 && (x243001_4 == x231001_20))) := by simpa using c153))
                              clear c153
                              obtain rfl := Option.some.inj H
                              have hnb159 := NB242_229.out
                              have hnc159 := NB229_242.out
                              have hnb160 := NB242_230.out
                              have hnc160 := NB230_242.out
                              have hcz161_0 : wr.cell? ⟨gb242, 0, none⟩ = some (.int .i64 x243000_4) := (blk_cell BK242.out 0).trans rfl
                              have hcz161_1 : wr.cell? ⟨gb242, 1, none⟩ = some (.int .i64 x243001_4) := (blk_cell BK242.out 1).trans rfl
                              have hfz161_0 := blk_frozen BK242.out 0
                              have hfz161_1 := blk_frozen BK242.out 1
                              have hnb162 := NB230_229.out
                              have hnc162 := NB229_230.out
                              have hcz163_0 : wr.cell? ⟨gb230, 0, none⟩ = some (.int .i64 x231000_20) := (blk_cell BK230.out 0).trans rfl
                              have hcz163_1 : wr.cell? ⟨gb230, 1, none⟩ = some (.int .i64 x231001_20) := (blk_cell BK230.out 1).trans rfl
                              have hfz163_0 := blk_frozen BK230.out 0
                              have hfz163_1 := blk_frozen BK230.out 1
                              go_wp2
                              go_ret
                              exact ⟨by first | rfl | (simp [errW_none, errW_some] <;> rfl) | (simp [*, errW_none, errW_some] <;> rfl), by repeat (first | (with_reducible first | exact HB.out | apply below_alloc | apply pw_below_drewN | apply below_drew1 | refine below_set ?_ GE229.out | refine below_set ?_ GE230.out | refine below_set ?_ GE242.out) | exact HB.out)⟩
  · replace c4 := Bool.eq_false_iff.mpr c4
    subst c4
    have H1 : (some false) = some r := by rw [if_neg (show ¬ (false = true) by decide)] at H; exact H
    clear H
    have H := H1
    clear H1
    obtain rfl := Option.some.inj H
    go_enter Tryd.func7, Tryd.ntmps7
    go_wp2_with (first | ((with_reducible refine gate_dst (N := 2) rfl ?_); refine box_event ?hg (N := 2) ?hd (cs := #[.int .i64 a0_0, .int .i64 a0_1]) (t := 23) ?hr ?_; (case hd => rfl); (case hg => rfl); (case hr => first | (go_simp; done) | (go_simp; rfl)); intro gb229 hg w164 hbox hb; have n0_ := Aside0.mk (below_step (by repeat (first | (with_reducible first | exact HB.out | apply below_alloc | apply pw_below_drewN | apply below_drew1) | exact HB.out)) hb); have n1_ := Aside0.mk (hbox); have n2_ := Aside0.mk ((by rw [hg]; exact (below_size (by repeat (first | (with_reducible first | exact HB.out | apply below_alloc | apply pw_below_drewN | apply below_drew1) | exact HB.out))) : w.heap.size ≤ gb229)); have n3_ := Aside0.mk ((by rw [hg]; exact (below_size (by repeat (first | (with_reducible first | exact HB.out | apply below_alloc | apply pw_below_drewN | apply below_drew1) | exact HB.out))) : w.heap.size ≤ gb229)); clear HB; have HB := n0_; have BK229 := n1_; have GW229 := n2_; have GE229 := n3_; clear n0_ n1_ n2_ n3_; clear hb hbox hg) | ((with_reducible refine gate_dst (N := 3) rfl ?_); refine box_event ?hg (N := 3) ?hd (cs := #[.int .i64 a1_0, .int .i64 a1_1]) (t := 23) ?hr ?_; (case hd => rfl); (case hg => rfl); (case hr => first | (go_simp; done) | (go_simp; rfl)); intro gb230 hg w165 hbox hb; have n0_ := Aside0.mk (blk_below (g := gb229) (o := .cells #[.int .i64 a0_0, .int .i64 a0_1] 23 (0, 0)) (by (with_reducible repeat (first | refine blk_drewN ?_ _ | refine blk_drew ?_ | refine blk_alloc ?_ _)); exact BK229.out) hb); have n1_ := Aside0.mk (below_step (by repeat (first | (with_reducible first | exact HB.out | apply below_alloc | apply pw_below_drewN | apply below_drew1 | refine below_set ?_ GE229.out) | exact HB.out)) hb); have n2_ := Aside0.mk (hbox); have n3_ := Aside0.mk ((by rw [hg]; exact (below_size (by repeat (first | (with_reducible first | exact HB.out | apply below_alloc | apply pw_below_drewN | apply below_drew1 | refine below_set ?_ GE229.out) | exact HB.out))) : w.heap.size ≤ gb230)); have n4_ := Aside0.mk ((by rw [hg]; exact (below_size (by repeat (first | (with_reducible first | exact HB.out | apply below_alloc | apply pw_below_drewN | apply below_drew1 | refine below_set ?_ GE229.out) | exact HB.out))) : w.heap.size ≤ gb230)); have n5_ := Aside0.mk ((by rw [hg]; exact Nat.ne_of_lt (blk_lt (g := gb229) (o := .cells #[.int .i64 a0_0, .int .i64 a0_1] 23 (0, 0)) (by (with_reducible repeat (first | refine blk_drewN ?_ _ | refine blk_drew ?_ | refine blk_alloc ?_ _)); exact BK229.out)) : gb229 ≠ gb230)); have n6_ := Aside0.mk ((by rw [hg]; exact Nat.ne_of_gt (blk_lt (g := gb229) (o := .cells #[.int .i64 a0_0, .int .i64 a0_1] 23 (0, 0)) (by (with_reducible repeat (first | refine blk_drewN ?_ _ | refine blk_drew ?_ | refine blk_alloc ?_ _)); exact BK229.out)) : gb230 ≠ gb229)); clear BK229; clear HB; have BK229 := n0_; have HB := n1_; have BK230 := n2_; have GW230 := n3_; have GE230 := n4_; have NB229_230 := n5_; have NB230_229 := n6_; clear n0_ n1_ n2_ n3_ n4_ n5_ n6_; clear hb hbox hg) | ((with_reducible refine gate_callee (f := 9) rfl ?_); refine goesL_ (some 13) rfl rfl Tryd.func9 (by kernel_rfl) rfl #[] rfl (by (try simp only [List.map_toArray, List.map_cons, List.map_nil]); first | done | rfl | (simp only [List.length_drop, List.length_take]; rfl)) ?_; (with_reducible refine (trommellaw10_fixed.calls k  false _ ?side1 A3.out).mono ?_); (case side1 => exact GLaid.below HG.out (by repeat (first | (with_reducible first | exact HB.out | apply below_alloc | apply pw_below_drewN | apply below_drew1 | refine below_set ?_ GE229.out | refine below_set ?_ GE230.out) | exact HB.out))); rintro e w166 ⟨rfl, hb⟩; refine ⟨_, rfl, ?_⟩; have n0_ := Aside0.mk (blk_below (g := gb229) (o := .cells #[.int .i64 a0_0, .int .i64 a0_1] 23 (0, 0)) (by (with_reducible repeat (first | refine blk_drewN ?_ _ | refine blk_drew ?_ | refine blk_alloc ?_ _)); exact BK229.out) hb); have n1_ := Aside0.mk (blk_below (g := gb230) (o := .cells #[.int .i64 a1_0, .int .i64 a1_1] 23 (0, 0)) (by (with_reducible repeat (first | refine blk_drewN ?_ _ | refine blk_drew ?_ | refine blk_alloc ?_ _)); exact BK230.out) hb); have n2_ := Aside0.mk (below_step (by repeat (first | (with_reducible first | exact HB.out | apply below_alloc | apply pw_below_drewN | apply below_drew1 | refine below_set ?_ GE229.out | refine below_set ?_ GE230.out) | exact HB.out)) hb); clear BK229; clear BK230; clear HB; have BK229 := n0_; have BK230 := n1_; have HB := n2_; clear n0_ n1_ n2_; (try clear hb); (try clear hb2); (try clear hk); (try clear hi)))
    go_ret
    exact ⟨by first | rfl | (simp [errW_none, errW_some] <;> rfl) | (simp [*, errW_none, errW_some] <;> rfl), by repeat (first | (with_reducible first | exact HB.out | apply below_alloc | apply pw_below_drewN | apply below_drew1 | refine below_set ?_ GE229.out | refine below_set ?_ GE230.out) | exact HB.out)⟩

end Go.Proofs.YtapemeboobcgmaaDoor.Prt
