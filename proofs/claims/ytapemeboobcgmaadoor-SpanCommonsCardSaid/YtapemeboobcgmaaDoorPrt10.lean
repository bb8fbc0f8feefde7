/- What the Go functions of this text compute, each as a plain Lean function, and that the machine's call comes to it. Laid by a program of this session. -/
import Derived.Test.YtapemeboobcgmaaDoorPrt0
import Derived.Test.YtapemeboobcgmaaDoorPrt1
import Derived.Test.YtapemeboobcgmaaDoorPrt2
import Derived.Test.YtapemeboobcgmaaDoorPrt3
import Derived.Test.YtapemeboobcgmaaDoorPrt4
namespace Go.Proofs.YtapemeboobcgmaaDoor.Prt
open Go.RowKit Go.Proofs.YtapemeboobcgmaaDoorW.PrintWords Go.Proofs.YtapemeboobcgmaaDoorW.PrintLast Go.Proofs.YtapemeboobcgmaaDoorW.PrintMore
attribute [local go_sem] max2_int min2_int max_two min_two max_three min_three max_four min_four   -- for this text's walks alone
set_option linter.unusedVariables false
set_option linter.unusedSimpArgs false

attribute [local go_sem high] eqA23
/-! ### trommellaw10_SpanCommons: function 8 -/
mutual
def trommellaw10_SpanCommons.j0 : Nat → List Int → Bool → Int → Int → Int → Option (Bool)
  | 0, _, _, _, _, _ => none
  | k + 1, x0, x6, x7, x252000, x252001 => (some (([] : List Int) : List Int)).bind fun y252 => (if 0 ≤ x7 then (if x7 ≤ (x0.length : Int) then (if y252.length + (x0.drop (x7 : Int).toNat).length < 17592186044416 then ((some (y252 ++ (x0.drop (x7 : Int).toNat) : List Int)).bind fun y256 => (if y256.length + (x0.take (x7 : Int).toNat).length < 17592186044416 then ((span_Common.f (y256 ++ (x0.take (x7 : Int).toNat))).bind fun bt263 => (if (!(x252000 == bt263.1) || (!(x252001 == bt263.2.1))) = true then (trommellaw10_SpanCommons.j1 k x0 x6 true x252000 x252001) else (trommellaw10_SpanCommons.j1 k x0 x6 (x6 != bt263.2.2) x252000 x252001))) else (none))) else (none)) else (none)) else (none))
def trommellaw10_SpanCommons.j1 : Nat → List Int → Bool → Bool → Int → Int → Option (Bool)
  | 0, _, _, _, _, _ => none
  | k + 1, x0, x6, x54, x252000, x252001 => if x54 = true then (some false) else (trommellaw10_SpanCommons.l0 k x0 x6 (decide ((x0.length : Int) > 0)) x0 (x0.length : Int) 0 x252000 x252001)
def trommellaw10_SpanCommons.l0 : Nat → List Int → Bool → Bool → List Int → Int → Int → Int → Int → Option (Bool)
  | 0, _, _, _, _, _, _, _, _ => none
  | k + 1, x0, x6, x10, x58, x59, x60, x252000, x252001 => if x60 < x59 then (if 0 ≤ x60 then (if x60 < (x58.length : Int) then (if x10 = true then (if (rd x58 x60) ≥ (-2147483648) then (trommellaw10_SpanCommons.l0 k x0 x6 (decide ((rd x58 x60) ≤ 2147483647)) x58 x59 (wrap64 (x60 + 1)) x252000 x252001) else (trommellaw10_SpanCommons.l0 k x0 x6 false x58 x59 (wrap64 (x60 + 1)) x252000 x252001)) else (trommellaw10_SpanCommons.l0 k x0 x6 false x58 x59 (wrap64 (x60 + 1)) x252000 x252001)) else (none)) else (none)) else (if x10 = true then (trommellaw10_SpanCommons.l1 k x6 0 0 x0 (x0.length : Int) 0 x252000 x252001) else (if x6 = true then (some false) else (some (x252000 == 0 && (x252001 == 0)))))
def trommellaw10_SpanCommons.l1 : Nat → Bool → Int → Int → List Int → Int → Int → Int → Int → Option (Bool)
  | 0, _, _, _, _, _, _, _, _ => none
  | k + 1, x6, x13, x14, x83, x84, x85, x252000, x252001 => if x85 < x84 then (if 0 ≤ x85 then (if x85 < (x83.length : Int) then ((span_Has.f x252000 x252001 (rd x83 x85)).bind fun t269 => (if t269 = true then (if x252000 > 0 then ((span_Has.f (wrap64 (x252000 - 1)) (wrap64 (2 * x252001)) (rd x83 x85)).bind fun t270 => (if t270 = true then (trommellaw10_SpanCommons.l1 k x6 (wrap64 (x13 + 1)) x14 x83 x84 (wrap64 (x85 + 1)) x252000 x252001) else (trommellaw10_SpanCommons.l1 k x6 x13 (wrap64 (x14 + 1)) x83 x84 (wrap64 (x85 + 1)) x252000 x252001))) else (trommellaw10_SpanCommons.l1 k x6 x13 (wrap64 (x14 + 1)) x83 x84 (wrap64 (x85 + 1)) x252000 x252001)) else (some false))) else (none)) else (none)) else (if x6 = true then (if x252000 = 0 then (some true) else (if x13 > 0 then (some (decide (x14 > 0))) else (some false))) else (some false))
end
def trommellaw10_SpanCommons.f (k : Nat) (l0 : List Int) (a1 : Int) : Option (Bool) := (trommellaw10_fixed.f k).bind fun t247 => (if t247 = true then ((span_Common.f l0).bind fun bt248 => (if (l0.length : Int) > 0 then (if (IntKind.u64.wrap ((l0.length : Int))) = 0 then (none) else (trommellaw10_SpanCommons.j0 k l0 bt248.2.2 (wrap64 (Int.tmod (IntKind.u64.wrap (a1)) (IntKind.u64.wrap ((l0.length : Int))))) bt248.1 bt248.2.1)) else (trommellaw10_SpanCommons.j0 k l0 bt248.2.2 0 bt248.1 bt248.2.1))) else (some false))
theorem trommellaw10_SpanCommons.mono_l : ∀ k, (∀ y0 y1 y2 y3 y4, LeO (trommellaw10_SpanCommons.j0 k y0 y1 y2 y3 y4) (trommellaw10_SpanCommons.j0 (k + 1) y0 y1 y2 y3 y4)) ∧ (∀ y0 y1 y2 y3 y4, LeO (trommellaw10_SpanCommons.j1 k y0 y1 y2 y3 y4) (trommellaw10_SpanCommons.j1 (k + 1) y0 y1 y2 y3 y4)) ∧ (∀ y0 y1 y2 y3 y4 y5 y6 y7, LeO (trommellaw10_SpanCommons.l0 k y0 y1 y2 y3 y4 y5 y6 y7) (trommellaw10_SpanCommons.l0 (k + 1) y0 y1 y2 y3 y4 y5 y6 y7)) ∧ (∀ y0 y1 y2 y3 y4 y5 y6 y7, LeO (trommellaw10_SpanCommons.l1 k y0 y1 y2 y3 y4 y5 y6 y7) (trommellaw10_SpanCommons.l1 (k + 1) y0 y1 y2 y3 y4 y5 y6 y7))
  | 0 => ⟨fun _ _ _ _ _ r h => by simp [trommellaw10_SpanCommons.j0] at h, fun _ _ _ _ _ r h => by simp [trommellaw10_SpanCommons.j1] at h, fun _ _ _ _ _ _ _ _ r h => by simp [trommellaw10_SpanCommons.l0] at h, fun _ _ _ _ _ _ _ _ r h => by simp [trommellaw10_SpanCommons.l1] at h⟩
  | k + 1 => by
    obtain ⟨ih0, ih1, ih2, ih3⟩ := trommellaw10_SpanCommons.mono_l k
    refine ⟨?_, ?_, ?_, ?_⟩
    · intro y0 y1 y2 y3 y4
      unfold trommellaw10_SpanCommons.j0
      repeat' first
      | (with_reducible exact ih0 _ _ _ _ _)
      | (with_reducible exact ih1 _ _ _ _ _)
      | (with_reducible exact ih2 _ _ _ _ _ _ _ _)
      | (with_reducible exact ih3 _ _ _ _ _ _ _ _)
      | (with_reducible exact trommellaw10_fixed.mono _)
      | (with_reducible exact LeO.refl _)
      | (with_reducible exact LeO.none _)
      | (with_reducible refine LeO.ite ?_ ?_)
      | (with_reducible refine LeO.bind ?_ (fun _ => ?_))
      | exact ih0 _ _ _ _ _
      | exact ih1 _ _ _ _ _
      | exact ih2 _ _ _ _ _ _ _ _
      | exact ih3 _ _ _ _ _ _ _ _
      | exact trommellaw10_fixed.mono _
      | exact LeO.none _
      | refine LeO.ite ?_ ?_
      | refine LeO.bind ?_ (fun _ => ?_)
    · intro y0 y1 y2 y3 y4
      unfold trommellaw10_SpanCommons.j1
      repeat' first
      | (with_reducible exact ih0 _ _ _ _ _)
      | (with_reducible exact ih1 _ _ _ _ _)
      | (with_reducible exact ih2 _ _ _ _ _ _ _ _)
      | (with_reducible exact ih3 _ _ _ _ _ _ _ _)
      | (with_reducible exact trommellaw10_fixed.mono _)
      | (with_reducible exact LeO.refl _)
      | (with_reducible exact LeO.none _)
      | (with_reducible refine LeO.ite ?_ ?_)
      | (with_reducible refine LeO.bind ?_ (fun _ => ?_))
      | exact ih0 _ _ _ _ _
      | exact ih1 _ _ _ _ _
      | exact ih2 _ _ _ _ _ _ _ _
      | exact ih3 _ _ _ _ _ _ _ _
      | exact trommellaw10_fixed.mono _
      | exact LeO.none _
      | refine LeO.ite ?_ ?_
      | refine LeO.bind ?_ (fun _ => ?_)
    · intro y0 y1 y2 y3 y4 y5 y6 y7
      unfold trommellaw10_SpanCommons.l0
      repeat' first
      | (with_reducible exact ih0 _ _ _ _ _)
      | (with_reducible exact ih1 _ _ _ _ _)
      | (with_reducible exact ih2 _ _ _ _ _ _ _ _)
      | (with_reducible exact ih3 _ _ _ _ _ _ _ _)
      | (with_reducible exact trommellaw10_fixed.mono _)
      | (with_reducible exact LeO.refl _)
      | (with_reducible exact LeO.none _)
      | (with_reducible refine LeO.ite ?_ ?_)
      | (with_reducible refine LeO.bind ?_ (fun _ => ?_))
      | exact ih0 _ _ _ _ _
      | exact ih1 _ _ _ _ _
      | exact ih2 _ _ _ _ _ _ _ _
      | exact ih3 _ _ _ _ _ _ _ _
      | exact trommellaw10_fixed.mono _
      | exact LeO.none _
      | refine LeO.ite ?_ ?_
      | refine LeO.bind ?_ (fun _ => ?_)
    · intro y0 y1 y2 y3 y4 y5 y6 y7
      unfold trommellaw10_SpanCommons.l1
      repeat' first
      | (with_reducible exact ih0 _ _ _ _ _)
      | (with_reducible exact ih1 _ _ _ _ _)
      | (with_reducible exact ih2 _ _ _ _ _ _ _ _)
      | (with_reducible exact ih3 _ _ _ _ _ _ _ _)
      | (with_reducible exact trommellaw10_fixed.mono _)
      | (with_reducible exact LeO.refl _)
      | (with_reducible exact LeO.none _)
      | (with_reducible refine LeO.ite ?_ ?_)
      | (with_reducible refine LeO.bind ?_ (fun _ => ?_))
      | exact ih0 _ _ _ _ _
      | exact ih1 _ _ _ _ _
      | exact ih2 _ _ _ _ _ _ _ _
      | exact ih3 _ _ _ _ _ _ _ _
      | exact trommellaw10_fixed.mono _
      | exact LeO.none _
      | refine LeO.ite ?_ ?_
      | refine LeO.bind ?_ (fun _ => ?_)
theorem trommellaw10_SpanCommons.mono : ∀ a0 a1 k, LeO (trommellaw10_SpanCommons.f k a0 a1) (trommellaw10_SpanCommons.f (k + 1) a0 a1) := by
  intro a0 a1 k
  obtain ⟨ih0, ih1, ih2, ih3⟩ := trommellaw10_SpanCommons.mono_l k
  unfold trommellaw10_SpanCommons.f
  repeat' first
      | (with_reducible exact ih0 _ _ _ _ _)
      | (with_reducible exact ih1 _ _ _ _ _)
      | (with_reducible exact ih2 _ _ _ _ _ _ _ _)
      | (with_reducible exact ih3 _ _ _ _ _ _ _ _)
      | (with_reducible exact trommellaw10_fixed.mono _)
      | (with_reducible exact LeO.refl _)
      | (with_reducible exact LeO.none _)
      | (with_reducible refine LeO.ite ?_ ?_)
      | (with_reducible refine LeO.bind ?_ (fun _ => ?_))
      | exact ih0 _ _ _ _ _
      | exact ih1 _ _ _ _ _
      | exact ih2 _ _ _ _ _ _ _ _
      | exact ih3 _ _ _ _ _ _ _ _
      | exact trommellaw10_fixed.mono _
      | exact LeO.none _
      | refine LeO.ite ?_ ?_
      | refine LeO.bind ?_ (fun _ => ?_)
def trommellaw10_SpanCommons.T7 : Bool × List (List Nat × List Nat) := (true, [([], []), ([], []), ([], []), ([1, 2], [1, 2]), ([0, 3], [0, 3]), ([], []), ([], []), ([5, 6], [5, 6]), ([4, 7, 4], [4, 7]), ([8, 8], [8]), ([9], [9]), ([10], [10]), ([10], [10]), ([], []), ([13, 11, 9, 0, 1, 2, 3, 4, 5, 6, 7, 8, 9, 10, 11, 13], [11, 13]), ([12, 14, 0, 1, 2, 3, 4, 5, 6, 7, 8, 9, 10, 11, 12, 13, 14], [12])])
def trommellaw10_SpanCommons.B7 : List Nat := [0, 0, 0, 6, 15, 0, 0, 96, 255, 511, 1023, 2047, 2047, 0, 12287, 32767]
theorem trommellaw10_SpanCommons.tab7 : rtab .any (opsOf Tryd.f8 7) = trommellaw10_SpanCommons.T7 := by kernel_rfl
theorem trommellaw10_SpanCommons.bits7 : waitsOk trommellaw10_SpanCommons.T7.2 trommellaw10_SpanCommons.B7 = true := by kernel_rfl
set_option maxHeartbeats 8000000 in
set_option maxRecDepth 100000 in
theorem trommellaw10_SpanCommons.calls (k : Nat) (A0 : Option Addr) (c0 : Nat) (l0 : List Int) (a1 : Int) (r : Bool) (w : World) (hr0 : Kd.C (Kd.int .i64) w A0 l0.length l0) (hc0 : l0.length ≤ c0) (hG : GLaid w) (h : trommellaw10_SpanCommons.f k l0 a1 = some r) :
    Calls Tryd.prog 8 #[.slice A0 l0.length c0, .int .i64 a1] w fun e w' => e = .returned (.bool r) ∧ Below w.heap.size w w' := by
  have hu23 := Tryd.underlying23
  have HG := Aside0.mk hG
  clear hG
  have HR0 := Aside0.mk hr0
  have HC0 := Aside0.mk hc0
  clear hr0 hc0
  have HB := Aside0.mk (Below.refl w.heap.size w)
  have H : ((trommellaw10_fixed.f k).bind fun t247 => (if t247 = true then ((span_Common.f l0).bind fun bt248 => (if (l0.length : Int) > 0 then (if (IntKind.u64.wrap ((l0.length : Int))) = 0 then (none) else (trommellaw10_SpanCommons.j0 k l0 bt248.2.2 (wrap64 (Int.tmod (IntKind.u64.wrap (a1)) (IntKind.u64.wrap ((l0.length : Int))))) bt248.1 bt248.2.1)) else (trommellaw10_SpanCommons.j0 k l0 bt248.2.2 0 bt248.1 bt248.2.1))) else (some false))) = some r := h
  clear h
  replace H := Option.bind_eq_some_iff.mp H
  obtain ⟨t247, A30, H⟩ := H
  replace H : (if t247 = true then ((span_Common.f l0).bind fun bt248 => (if (l0.length : Int) > 0 then (if (IntKind.u64.wrap ((l0.length : Int))) = 0 then (none) else (trommellaw10_SpanCommons.j0 k l0 bt248.2.2 (wrap64 (Int.tmod (IntKind.u64.wrap (a1)) (IntKind.u64.wrap ((l0.length : Int))))) bt248.1 bt248.2.1)) else (trommellaw10_SpanCommons.j0 k l0 bt248.2.2 0 bt248.1 bt248.2.1))) else (some false)) = some r := H
  have A3 := Aside0.mk A30
  clear A30
  by_cases c4 : t247 = true
  · subst c4
    have H1 : ((span_Common.f l0).bind fun bt248 => (if (l0.length : Int) > 0 then (if (IntKind.u64.wrap ((l0.length : Int))) = 0 then (none) else (trommellaw10_SpanCommons.j0 k l0 bt248.2.2 (wrap64 (Int.tmod (IntKind.u64.wrap (a1)) (IntKind.u64.wrap ((l0.length : Int))))) bt248.1 bt248.2.1)) else (trommellaw10_SpanCommons.j0 k l0 bt248.2.2 0 bt248.1 bt248.2.1))) = some r := by rw [if_pos rfl] at H; exact H
    clear H
    have H := H1
    clear H1
    replace H := Option.bind_eq_some_iff.mp H
    obtain ⟨⟨t248, t249, t250⟩, A50, H⟩ := H
    replace H : (if (l0.length : Int) > 0 then (if (IntKind.u64.wrap ((l0.length : Int))) = 0 then (none) else (trommellaw10_SpanCommons.j0 k l0 t250 (wrap64 (Int.tmod (IntKind.u64.wrap (a1)) (IntKind.u64.wrap ((l0.length : Int))))) t248 t249)) else (trommellaw10_SpanCommons.j0 k l0 t250 0 t248 t249)) = some r := H
    have A5 := Aside0.mk A50
    clear A50
    have HC6 := Aside0.mk H
    clear H
    go_enter Tryd.func8, Tryd.ntmps8
    go_upto_if 26 with (first | ((with_reducible refine gate_callee (f := 9) rfl ?_); refine goesL_ (some 17) rfl rfl Tryd.func9 (by kernel_rfl) rfl #[] rfl (by (try simp only [List.map_toArray, List.map_cons, List.map_nil]); first | done | rfl | (simp only [List.length_drop, List.length_take]; rfl)) ?_; (with_reducible refine (trommellaw10_fixed.calls k  true _ ?side1 A3.out).mono ?_); (case side1 => exact GLaid.below HG.out (by repeat (first | (with_reducible first | exact HB.out | apply below_alloc | apply pw_below_drewN | apply below_drew1) | exact HB.out))); rintro e w7 ⟨rfl, hb⟩; refine ⟨_, rfl, ?_⟩; have n0_ := Aside0.mk (below_step (by repeat (first | (with_reducible first | exact HB.out | apply below_alloc | apply pw_below_drewN | apply below_drew1) | exact HB.out)) hb); clear HB; have HB := n0_; clear n0_; (try clear hb); (try clear hb2); (try clear hk); (try clear hi)) | ((with_reducible refine gate_callee (f := 19) rfl ?_); refine goesL_ (some 21) rfl rfl Tryd.func19 (by kernel_rfl) rfl #[.slice A0 l0.length c0] rfl (by (try simp only [List.map_toArray, List.map_cons, List.map_nil]); first | done | rfl | (simp only [List.length_drop, List.length_take]; rfl)) ?_; (with_reducible refine (span_Common.calls _ _ l0 t248 t249 t250 _ ?side1 ?side2 A5.out).mono ?_); (case side1 => repeat (first | exact (Kd.C_below HR0.out HB.out) | (with_reducible refine Kd.C_alloc ?_ _) | (with_reducible refine Kd.C_drewN ?_ _) | (with_reducible refine Kd.C_drew ?_))); (case side2 => exact HC0.out); rintro e w8 ⟨rfl, hb⟩; refine ⟨_, rfl, ?_⟩; have n0_ := Aside0.mk (below_step (by repeat (first | (with_reducible first | exact HB.out | apply below_alloc | apply pw_below_drewN | apply below_drew1) | exact HB.out)) hb); clear HB; have HB := n0_; clear n0_; (try clear hb); (try clear hb2); (try clear hk); (try clear hi)) | ((with_reducible refine gate_dst (N := 5) rfl ?_); refine box_event ?hg (N := 5) ?hd (cs := #[.int .i64 0, .int .i64 0]) (t := 23) ?hr ?_; (case hd => rfl); (case hg => rfl); (case hr => first | (go_simp; done) | (go_simp; rfl)); intro gb251 hg w9 hbox hb; have n0_ := Aside0.mk (below_step (by repeat (first | (with_reducible first | exact HB.out | apply below_alloc | apply pw_below_drewN | apply below_drew1) | exact HB.out)) hb); have n1_ := Aside0.mk (hbox); have n2_ := Aside0.mk ((by rw [hg]; exact (below_size (by repeat (first | (with_reducible first | exact HB.out | apply below_alloc | apply pw_below_drewN | apply below_drew1) | exact HB.out))) : w.heap.size ≤ gb251)); have n3_ := Aside0.mk ((by rw [hg]; exact (below_size (by repeat (first | (with_reducible first | exact HB.out | apply below_alloc | apply pw_below_drewN | apply below_drew1) | exact HB.out))) : w.heap.size ≤ gb251)); clear HB; have HB := n0_; have BK251 := n1_; have GW251 := n2_; have GE251 := n3_; clear n0_ n1_ n2_ n3_; clear hb hbox hg; have hcz10_0 : w9.cell? ⟨gb251, 0, none⟩ = some (.int .i64 0) := (blk_cell BK251.out 0).trans rfl; have hcz10_1 : w9.cell? ⟨gb251, 1, none⟩ = some (.int .i64 0) := (blk_cell BK251.out 1).trans rfl; have hfz10_0 := blk_frozen BK251.out 0; have hfz10_1 := blk_frozen BK251.out 1))
    (try simp only [Act.put, List.setIfInBounds_toArray, List.set_cons_zero, List.set_cons_succ])
    go_cut [7] (fun v7 wc => ∃ (kq : Nat) (x7_5 : Int), v7 = .int .i64 x7_5 ∧ Aside0 (trommellaw10_SpanCommons.j0 kq l0 t250 x7_5 t248 t249 = some r) ∧ Aside0 (kq ≤ k) ∧ Aside0 (wc.heap[gb251]? = some (.cells #[.int .i64 t248, .int .i64 t249] 23 (0, 0))) ∧ Aside0 (Below w.heap.size w wc))
    case first =>
      have H := HC6.out
      clear HC6
      by_cases c11 : (l0.length : Int) > 0
      · rw [if_pos c11] at H
        have c11b0 : decide (0 < (l0.length : Int)) = true := decide_eq_true c11
        have c11b1 : decide (0 < l0.length) = true := decide_eq_true (by omega)
        clear c11
        (first | rw [c11b0] | (simp only [i64_w, i32_w]; rw [c11b0]) | rw [c11b1] | skip)
        by_cases c12 : (IntKind.u64.wrap ((l0.length : Int))) = 0
        · rw [if_pos c12] at H
          exact absurd H (by simp)
        · rw [if_neg c12] at H
          have c12b0 : ((IntKind.u64.wrap ((l0.length : Int))) == 0) = false := beq_eq_false_iff_ne.mpr c12
          have c12b1 : ((IntKind.u64.wrap ((l0.length : Int))) != 0) = true := bne_iff_ne.mpr c12
          have H' := Aside0.mk H
          clear H
          go_wp2
          go_meet
          case rel => exact ⟨_, (wrap64 (Int.tmod (IntKind.u64.wrap (a1)) (IntKind.u64.wrap ((l0.length : Int))))), (by first | rfl | (simp; done) | (simp [*]; done)), H', ⟨by first | omega | exact Nat.le_refl _⟩, ⟨by (with_reducible repeat (first | refine blk_drewN ?_ _ | refine blk_drew ?_ | refine blk_alloc ?_ _)); refine blk_put (cs := #[.int .i64 t248, .int .i64 0]) ?_ 1 _ rfl; (with_reducible repeat (first | refine blk_drewN ?_ _ | refine blk_drew ?_ | refine blk_alloc ?_ _)); refine blk_put (cs := #[.int .i64 0, .int .i64 0]) ?_ 0 _ rfl; (with_reducible repeat (first | refine blk_drewN ?_ _ | refine blk_drew ?_ | refine blk_alloc ?_ _)); exact BK251.out⟩, ⟨by repeat (first | (with_reducible first | exact HB.out | apply below_alloc | apply pw_below_drewN | apply below_drew1 | refine below_set ?_ GE251.out) | exact HB.out)⟩⟩
      · rw [if_neg c11] at H
        have c11b0 : decide (0 < (l0.length : Int)) = false := decide_eq_false c11
        have c11b1 : decide (0 < l0.length) = false := decide_eq_false (by omega)
        clear c11
        (first | rw [c11b0] | (simp only [i64_w, i32_w]; rw [c11b0]) | rw [c11b1] | skip)
        have H' := Aside0.mk H
        clear H
        go_wp2
        go_meet
        case rel => exact ⟨_, (0), (by first | rfl | (simp; done) | (simp [*]; done)), H', ⟨by first | omega | exact Nat.le_refl _⟩, ⟨by (with_reducible repeat (first | refine blk_drewN ?_ _ | refine blk_drew ?_ | refine blk_alloc ?_ _)); refine blk_put (cs := #[.int .i64 t248, .int .i64 0]) ?_ 1 _ rfl; (with_reducible repeat (first | refine blk_drewN ?_ _ | refine blk_drew ?_ | refine blk_alloc ?_ _)); refine blk_put (cs := #[.int .i64 0, .int .i64 0]) ?_ 0 _ rfl; (with_reducible repeat (first | refine blk_drewN ?_ _ | refine blk_drew ?_ | refine blk_alloc ?_ _)); exact BK251.out⟩, ⟨by repeat (first | (with_reducible first | exact HB.out | apply below_alloc | apply pw_below_drewN | apply below_drew1 | refine below_set ?_ GE251.out) | exact HB.out)⟩⟩
    case rest =>
      clear HC6
      try clear c1
      try clear p2
      try clear c4
      try clear p6
      try clear c8
      try clear c9
      try clear c11
      try clear c11b0
      try clear c11b1
      try clear c12
      try clear c12b0
      try clear c12b1
      try clear hcz10_0
      try clear hcz10_1
      try clear hfz10_0
      try clear hfz10_1
      obtain ⟨kq, x7_5, rfl, HA, HJ5, BK251, HB⟩ := hcut
      cases kq with
      | zero => exact absurd HA.out (by simp [trommellaw10_SpanCommons.j0])
      | succ kj5 =>
        have H := HA.out
        clear HA
        simp only [trommellaw10_SpanCommons.j0] at H
        obtain ⟨y252, hy252⟩ : ∃ y_ : List Int, y_ = (([] : List Int)) := ⟨_, rfl⟩
        replace H : (if 0 ≤ x7_5 then (if x7_5 ≤ (l0.length : Int) then (if y252.length + (l0.drop (x7_5 : Int).toNat).length < 17592186044416 then ((some (y252 ++ (l0.drop (x7_5 : Int).toNat) : List Int)).bind fun y256 => (if y256.length + (l0.take (x7_5 : Int).toNat).length < 17592186044416 then ((span_Common.f (y256 ++ (l0.take (x7_5 : Int).toNat))).bind fun bt263 => (if (!(t248 == bt263.1) || (!(t249 == bt263.2.1))) = true then (trommellaw10_SpanCommons.j1 kj5 l0 t250 true t248 t249) else (trommellaw10_SpanCommons.j1 kj5 l0 t250 (t250 != bt263.2.2) t248 t249))) else (none))) else (none)) else (none)) else (none)) = some r := by first | (rw [hy252]; with_reducible exact H) | (have H2_ := (Option.bind_some _ _).symm.trans H; rw [hy252]; with_reducible exact H2_) | (have H2_ := (Option.bind_some _ _).symm.trans H; with_reducible exact H2_) | with_reducible exact H | (rw [hy252]; exact H) | exact H
        have Ny252 := Aside0.mk hy252
        clear hy252
        by_cases c13 : 0 ≤ x7_5
        · rw [if_pos c13] at H
          have c13b0 := eq_true c13
          have c13b1 : decide (0 ≤ x7_5) = true := decide_eq_true c13
          clear c13
          by_cases c14 : x7_5 ≤ (l0.length : Int)
          · rw [if_pos c14] at H
            have c14b0 := eq_true c14
            have c14b1 : decide (x7_5 ≤ (l0.length : Int)) = true := decide_eq_true c14
            clear c14
            by_cases c15 : y252.length + (l0.drop (x7_5 : Int).toNat).length < 17592186044416
            · rw [if_pos c15] at H
              have LMc15 := Aside0.mk c15
              clear c15
              obtain ⟨y256, hy256⟩ : ∃ y_ : List Int, y_ = (y252 ++ (l0.drop (x7_5 : Int).toNat)) := ⟨_, rfl⟩
              replace H : (if y256.length + (l0.take (x7_5 : Int).toNat).length < 17592186044416 then ((span_Common.f (y256 ++ (l0.take (x7_5 : Int).toNat))).bind fun bt263 => (if (!(t248 == bt263.1) || (!(t249 == bt263.2.1))) = true then (trommellaw10_SpanCommons.j1 kj5 l0 t250 true t248 t249) else (trommellaw10_SpanCommons.j1 kj5 l0 t250 (t250 != bt263.2.2) t248 t249))) else (none)) = some r := by first | (rw [hy256]; with_reducible exact H) | (have H2_ := (Option.bind_some _ _).symm.trans H; rw [hy256]; with_reducible exact H2_) | (have H2_ := (Option.bind_some _ _).symm.trans H; with_reducible exact H2_) | with_reducible exact H | (rw [hy256]; exact H) | exact H
              have Ny256 := Aside0.mk hy256
              clear hy256
              have c16b0 := eq_true (of_decide_eq_true (by first | (with_reducible assumption) | assumption) : 0 ≤ x7_5)
              have c17b0 := eq_true (of_decide_eq_true (by first | (with_reducible assumption) | assumption) : x7_5 ≤ (l0.length : Int))
              by_cases c18 : y256.length + (l0.take (x7_5 : Int).toNat).length < 17592186044416
              · rw [if_pos c18] at H
                have LMc18 := Aside0.mk c18
                clear c18
                obtain ⟨y260, hy260⟩ : ∃ y_ : List Int, y_ = (y256 ++ (l0.take (x7_5 : Int).toNat)) := ⟨_, rfl⟩
                replace H : ((span_Common.f y260).bind fun bt263 => (if (!(t248 == bt263.1) || (!(t249 == bt263.2.1))) = true then (trommellaw10_SpanCommons.j1 kj5 l0 t250 true t248 t249) else (trommellaw10_SpanCommons.j1 kj5 l0 t250 (t250 != bt263.2.2) t248 t249))) = some r := by first | (rw [hy260]; with_reducible exact H) | (have H2_ := (Option.bind_some _ _).symm.trans H; rw [hy260]; with_reducible exact H2_) | (have H2_ := (Option.bind_some _ _).symm.trans H; with_reducible exact H2_) | with_reducible exact H | (rw [hy260]; exact H) | exact H
                have Ny260 := Aside0.mk hy260
                clear hy260
                replace H := Option.bind_eq_some_iff.mp H
                obtain ⟨⟨t263, t264, t265⟩, A190, H⟩ := H
                replace H : (if (!(t248 == t263) || (!(t249 == t264))) = true then (trommellaw10_SpanCommons.j1 kj5 l0 t250 true t248 t249) else (trommellaw10_SpanCommons.j1 kj5 l0 t250 (t250 != t265) t248 t249)) = some r := H
                have A19 := Aside0.mk A190
                clear A190
                have HC20 := Aside0.mk H
                clear H
                try go_wp2
                have n0_ := Aside0.mk (blk_drew BK251.out)
                have n1_ := Aside0.mk (below_drew1 HB.out)
                clear BK251
                clear HB
                have BK251 := n0_
                have HB := n1_
                clear n0_ n1_
                obtain ⟨i022, hi022, _, hsz22, _⟩ := info_parts info3
                obtain ⟨A22, hcut22, hA22, hC22⟩ := print_drop_of (P := Tryd.prog) (Value.int .i64) 0 33 3 .i64 Tryd.underlying33 hi022 hsz22 A0 c0 l0 x7_5 (of_decide_eq_true (by first | (with_reducible assumption) | assumption)) (of_decide_eq_true (by first | (with_reducible assumption) | assumption)) HC0.out
                have HR255 := Aside0.mk (Kd.C_of_reads (h1 := fun _ => rfl) (hA22 _ (Kd.reads_of_C HR0.out)))
                have HC255 := Aside0.mk hC22
                clear hA22 hC22 hi022 hsz22
                obtain ⟨i023, hi023, _, hsz23, _⟩ := info_parts info3
                obtain ⟨hcut23, hA23, hC23⟩ := print_take_of (P := Tryd.prog) (Value.int .i64) 0 33 3 .i64 Tryd.underlying33 hi023 hsz23 A0 c0 l0 x7_5 (of_decide_eq_true (by first | (with_reducible assumption) | assumption)) (of_decide_eq_true (by first | (with_reducible assumption) | assumption)) HC0.out
                have HR259 := Aside0.mk (Kd.C_of_reads (h1 := fun _ => rfl) (hA23 _ (Kd.reads_of_C HR0.out)))
                have HC259 := Aside0.mk hC23
                clear hA23 hC23 hi023 hsz23
                refine start_ (n := 16) (S := fun w' => True) (ds := []) #[false, false, false, false, false, false, false, false, false, false, false, false, false, false, false, false] (by kernel_rfl) rfl rfl trivial (fun hHeld => ?_); refine with_tabW trommellaw10_SpanCommons.tab7 trommellaw10_SpanCommons.bits7 (fun HT_ HW_ => ?_)
                generalize wc.drew = w21 at BK251 HB HR255 HR259 hHeld ⊢
                refine pure_ (i := 1) (N := some 36) (v := ?_) (a' := ?_) #[false, true, false, false, false, false, false, false, false, false, false, false, false, false, false, false] rfl rfl (any_of HT_.out (by kernel_rfl)) (fun _ _ _ h => h) (Or.inl ⟨by rfl, ?_⟩) ?_ ?_
                rotate_left
                · intro w'
                  go_simp
                  with_reducible rfl
                rotate_left
                · simp only [Act.put, List.setIfInBounds_toArray, List.set_cons_zero, List.set_cons_succ, i64_w, i32_w]
                  rfl
                refine pure_ (i := 2) (N := some 37) (v := ?_) (a' := ?_) #[false, true, true, false, false, false, false, false, false, false, false, false, false, false, false, false] rfl rfl (any_of HT_.out (by kernel_rfl)) (fun _ _ _ h => h) (Or.inl ⟨by rfl, ?_⟩) ?_ ?_
                rotate_left
                · intro w'
                  go_simp
                  with_reducible rfl
                rotate_left
                · simp only [Act.put, List.setIfInBounds_toArray, List.set_cons_zero, List.set_cons_succ, i64_w, i32_w]
                  rfl
                refine pure_ (i := 3) (N := some 38) (v := ?_) (a' := ?_) #[false, true, true, true, false, false, false, false, false, false, false, false, false, false, false, false] rfl rfl (any_of HT_.out (by kernel_rfl)) (fun _ _ _ h => h) (Or.inl ⟨by rfl, ?_⟩) ?_ ?_
                rotate_left
                · intro w'
                  go_simp
                  with_reducible rfl
                rotate_left
                · simp only [Act.put, List.setIfInBounds_toArray, List.set_cons_zero, List.set_cons_succ, i64_w, i32_w]
                  rfl
                refine pure_ (i := 5) (N := some 40) (v := ?_) (a' := ?_) #[false, true, true, true, false, true, false, false, false, false, false, false, false, false, false, false] rfl rfl (any_of HT_.out (by kernel_rfl)) (fun _ _ _ h => h) (Or.inl ⟨by rfl, ?_⟩) ?_ ?_
                rotate_left
                · intro w'
                  go_simp
                  with_reducible rfl
                rotate_left
                · simp only [Act.put, List.setIfInBounds_toArray, List.set_cons_zero, List.set_cons_succ, i64_w, i32_w]
                  rfl
                refine pure_ (i := 6) (N := some 41) (v := ?_) (a' := ?_) #[false, true, true, true, false, true, true, false, false, false, false, false, false, false, false, false] rfl rfl (any_of HT_.out (by kernel_rfl)) (fun _ _ _ h => h) (Or.inl ⟨by rfl, ?_⟩) ?_ ?_
                rotate_left
                · intro w'
                  go_simp
                  with_reducible rfl
                rotate_left
                · simp only [Act.put, List.setIfInBounds_toArray, List.set_cons_zero, List.set_cons_succ, i64_w, i32_w]
                  rfl
                refine pure_ (i := 7) (N := some 42) (v := ?_) (a' := ?_) #[false, true, true, true, false, true, true, true, false, false, false, false, false, false, false, false] rfl rfl (any_of HT_.out (by kernel_rfl)) (fun _ _ _ h => h) (Or.inl ⟨by rfl, ?_⟩) ?_ ?_
                rotate_left
                · intro w'
                  go_simp
                  with_reducible rfl
                rotate_left
                · simp only [Act.put, List.setIfInBounds_toArray, List.set_cons_zero, List.set_cons_succ, i64_w, i32_w]
                  rfl
                refine join_ (σ := Value × Value × Value × Nat) 2 #[true, true, true, true, true, true, true, true, true, true, true, true, true, true, false, false] (fun s_ => [(35, s_.1), (39, s_.2.1), (43, s_.2.2.1), (44, .tuple #[.agg #[.int .i64 t263, .int .i64 t264], .bool t265]), (8, .pointer (some ⟨s_.2.2.2, 0, none⟩)), (34, .tuple #[.agg #[.int .i64 t263, .int .i64 t264], .bool t265]), (45, .agg #[.int .i64 t263, .int .i64 t264]), (46, .bool t265)]) (fun s_ w' => (Kd.R (Kd.int .i64) 3 w' w.heap.size (fun _ => True) s_.2.2.1 y260) ∧ (w'.heap[gb251]? = some (.cells #[.int .i64 t248, .int .i64 t249] 23 (0, 0))) ∧ (w'.heap[s_.2.2.2]? = some (.cells #[.int .i64 0, .int .i64 0] 23 (0, 0))) ∧ (w.heap.size ≤ s_.2.2.2) ∧ (w.heap.size ≤ s_.2.2.2) ∧ (gb251 ≠ s_.2.2.2) ∧ (s_.2.2.2 ≠ gb251) ∧ (Below w.heap.size w w')) ?_ ?_
                rotate_left
                · intro hJ0_4_8_9_13
                  refine join_ (σ := Value × Value × Value) 3 #[true, true, true, true, true, true, true, true, true, true, true, true, true, false, false, false] (fun s_ => [(35, s_.1), (39, s_.2.1), (43, s_.2.2), (44, .tuple #[.agg #[.int .i64 t263, .int .i64 t264], .bool t265]), (34, .tuple #[.agg #[.int .i64 t263, .int .i64 t264], .bool t265]), (45, .agg #[.int .i64 t263, .int .i64 t264]), (46, .bool t265)]) (fun s_ w' => (Kd.R (Kd.int .i64) 3 w' w.heap.size (fun _ => True) s_.2.2 y260) ∧ (w'.heap[gb251]? = some (.cells #[.int .i64 t248, .int .i64 t249] 23 (0, 0))) ∧ (Below w.heap.size w w')) ?_ ?_
                  rotate_left
                  · intro hJ0_4_8_9
                    refine join_ (σ := Value × Value × Value × Nat) 6 #[true, true, true, true, true, true, true, true, true, false, false, false, false, true, false, false] (fun s_ => [(35, s_.1), (39, s_.2.1), (43, s_.2.2.1), (8, .pointer (some ⟨s_.2.2.2, 0, none⟩))]) (fun s_ w' => (Kd.R (Kd.int .i64) 3 w' w.heap.size (fun _ => True) s_.2.2.1 y260) ∧ (w'.heap[gb251]? = some (.cells #[.int .i64 t248, .int .i64 t249] 23 (0, 0))) ∧ (w'.heap[s_.2.2.2]? = some (.cells #[.int .i64 0, .int .i64 0] 23 (0, 0))) ∧ (w.heap.size ≤ s_.2.2.2) ∧ (w.heap.size ≤ s_.2.2.2) ∧ (gb251 ≠ s_.2.2.2) ∧ (s_.2.2.2 ≠ gb251) ∧ (Below w.heap.size w w')) ?_ ?_
                    rotate_left
                    · intro hJ0_4_8_13
                      refine join_ (σ := Value × Value × Value) 7 #[true, true, true, true, true, true, true, true, true, false, false, false, false, false, false, false] (fun s_ => [(35, s_.1), (39, s_.2.1), (43, s_.2.2)]) (fun s_ w' => (Kd.R (Kd.int .i64) 3 w' w.heap.size (fun _ => True) s_.2.2 y260) ∧ (w'.heap[gb251]? = some (.cells #[.int .i64 t248, .int .i64 t249] 23 (0, 0))) ∧ (Below w.heap.size w w')) ?_ ?_
                      rotate_left
                      · intro hJ0_4_8
                        refine join_ (σ := Value × Value × Nat) 7 #[true, true, true, true, true, true, true, true, false, false, false, false, false, true, false, false] (fun s_ => [(35, s_.1), (39, s_.2.1), (8, .pointer (some ⟨s_.2.2, 0, none⟩))]) (fun s_ w' => (Kd.R (Kd.int .i64) 3 w' w.heap.size (fun _ => True) s_.2.1 y256) ∧ (w'.heap[gb251]? = some (.cells #[.int .i64 t248, .int .i64 t249] 23 (0, 0))) ∧ (w'.heap[s_.2.2]? = some (.cells #[.int .i64 0, .int .i64 0] 23 (0, 0))) ∧ (w.heap.size ≤ s_.2.2) ∧ (w.heap.size ≤ s_.2.2) ∧ (gb251 ≠ s_.2.2) ∧ (s_.2.2 ≠ gb251) ∧ (Below w.heap.size w w')) ?_ ?_
                        rotate_left
                        · intro hJ0_4_13
                          refine join_ (σ := Value × Value) 8 #[true, true, true, true, true, true, true, true, false, false, false, false, false, false, false, false] (fun s_ => [(35, s_.1), (39, s_.2)]) (fun s_ w' => (Kd.R (Kd.int .i64) 3 w' w.heap.size (fun _ => True) s_.2 y256) ∧ (w'.heap[gb251]? = some (.cells #[.int .i64 t248, .int .i64 t249] 23 (0, 0))) ∧ (Below w.heap.size w w')) ?_ ?_
                          rotate_left
                          · intro hJ0_4
                            refine join_ (σ := Value × Nat) 8 #[true, true, true, true, false, true, true, true, false, false, false, false, false, true, false, false] (fun s_ => [(35, s_.1), (8, .pointer (some ⟨s_.2, 0, none⟩))]) (fun s_ w' => (Kd.R (Kd.int .i64) 3 w' w.heap.size (fun _ => True) s_.1 y252) ∧ (w'.heap[gb251]? = some (.cells #[.int .i64 t248, .int .i64 t249] 23 (0, 0))) ∧ (w'.heap[s_.2]? = some (.cells #[.int .i64 0, .int .i64 0] 23 (0, 0))) ∧ (w.heap.size ≤ s_.2) ∧ (w.heap.size ≤ s_.2) ∧ (gb251 ≠ s_.2) ∧ (s_.2 ≠ gb251) ∧ (Below w.heap.size w w')) ?_ ?_
                            rotate_left
                            · intro hJ0_13
                              refine join_ (σ := Value) 9 #[true, true, true, true, false, true, true, true, false, false, false, false, false, false, false, false] (fun s_ => [(35, s_)]) (fun s_ w' => (Kd.R (Kd.int .i64) 3 w' w.heap.size (fun _ => True) s_ y252) ∧ (w'.heap[gb251]? = some (.cells #[.int .i64 t248, .int .i64 t249] 23 (0, 0))) ∧ (Below w.heap.size w w')) ?_ ?_
                              rotate_left
                              · intro hJ0
                                refine join_ (σ := Nat) 9 #[false, true, true, true, false, true, true, true, false, false, false, false, false, true, false, false] (fun s_ => [(8, .pointer (some ⟨s_, 0, none⟩))]) (fun s_ w' => (w'.heap[gb251]? = some (.cells #[.int .i64 t248, .int .i64 t249] 23 (0, 0))) ∧ (w'.heap[s_]? = some (.cells #[.int .i64 0, .int .i64 0] 23 (0, 0))) ∧ (w.heap.size ≤ s_) ∧ (w.heap.size ≤ s_) ∧ (gb251 ≠ s_) ∧ (s_ ≠ gb251) ∧ (Below w.heap.size w w')) ?_ ?_
                                rotate_left
                                · intro hJ13
                                  refine two_ (i := 0) (j := 13) (Ni := some 35) (Nj := some 8) #[true, true, true, true, false, true, true, true, false, false, false, false, false, false, false, false] #[false, true, true, true, false, true, true, true, false, false, false, false, false, true, false, false] rfl rfl rfl rfl (two_of HT_.out (by kernel_rfl)) (by decide) (by decide) (fun K hK => ?_) (fun K hK => ?_)
                                  · skip
                                    refine Kd.R_lit_step (Kd.int .i64) _ 3 ?hg (N := 35) ?hd (xs := ([] : List Int)) (inner := []) (ok := fun _ => True) (okp := fun _ => True) ?hr ?hp (fun _ hk => hk) trivial (Below.refl _ _) (Nat.le_refl _) (by simp) ?_; (case hd => rfl); (case hg => rfl); (case hr => first | (go_simp; done) | (go_simp; rfl)); (case hp => exact (Reps.none _ _))
                                    intro v253 w24 ho25 hb hg_ hnew_
                                    clear hg_ hnew_
                                    (first | rw [← Ny252.out] at ho25 | (simp only [Int.reduceToNat] at ho25; rw [← Ny252.out] at ho25))
                                    have n0_ := Aside0.mk (Kd.R_lower ho25 (below_size (by repeat (first | (with_reducible first | exact HB.out | apply below_alloc | apply pw_below_drewN | apply below_drew1 | refine below_set ?_ GE251.out) | exact HB.out))))
                                    have n1_ := Aside0.mk (blk_below (g := gb251) (o := .cells #[.int .i64 t248, .int .i64 t249] 23 (0, 0)) (by (with_reducible repeat (first | refine blk_drewN ?_ _ | refine blk_drew ?_ | refine blk_alloc ?_ _)); exact BK251.out) hb)
                                    have n2_ := Aside0.mk (below_step (by repeat (first | (with_reducible first | exact HB.out | apply below_alloc | apply pw_below_drewN | apply below_drew1 | refine below_set ?_ GE251.out) | exact HB.out)) hb)
                                    clear BK251
                                    clear HB
                                    have HO254 := n0_
                                    have BK251 := n1_
                                    have HB := n2_
                                    clear n0_ n1_ n2_
                                    clear hb ho25
                                    refine hK.out _ _ trivial (fun hHeld => ?_)
                                    clear hK K
                                    refine norm_ (a' := ?_) ?_ ?_
                                    rotate_left
                                    · show Act.put _ (some 35) _ = _
                                      simp only [Act.put, List.setIfInBounds_toArray, List.set_cons_zero, List.set_cons_succ, i64_w, i32_w]
                                      rfl
                                    exact norm_ (by first | (simp only [putAll, Act.put, List.setIfInBounds_toArray, List.set_cons_zero, List.set_cons_succ]; done) | (simp only [putAll, Act.put, List.setIfInBounds_toArray, List.set_cons_zero, List.set_cons_succ]; rfl)) (hJ0 (v253) _ ⟨(by (with_reducible repeat (first | apply Kd.R_alloc | apply Kd.R_drewN | apply Kd.R_drew)); exact HO254.out), (by (with_reducible repeat (first | refine blk_drewN ?_ _ | refine blk_drew ?_ | refine blk_alloc ?_ _)); exact BK251.out), (by repeat (first | (with_reducible first | exact HB.out | apply below_alloc | apply pw_below_drewN | apply below_drew1 | refine below_set ?_ GE251.out) | exact HB.out))⟩)
                                  · skip
                                    refine box_step ?hg (N := 8) ?hd (cs := #[.int .i64 0, .int .i64 0]) (t := 23) ?hr ?_; (case hd => rfl); (case hg => rfl); (case hr => first | (go_simp; done) | (go_simp; rfl))
                                    intro gb266 hg w24 hbox hb
                                    have n0_ := Aside0.mk (blk_below (g := gb251) (o := .cells #[.int .i64 t248, .int .i64 t249] 23 (0, 0)) (by (with_reducible repeat (first | refine blk_drewN ?_ _ | refine blk_drew ?_ | refine blk_alloc ?_ _)); exact BK251.out) hb)
                                    have n1_ := Aside0.mk (below_step (by repeat (first | (with_reducible first | exact HB.out | apply below_alloc | apply pw_below_drewN | apply below_drew1 | refine below_set ?_ GE251.out) | exact HB.out)) hb)
                                    have n2_ := Aside0.mk (hbox)
                                    have n3_ := Aside0.mk ((by rw [hg]; exact (below_size (by repeat (first | (with_reducible first | exact HB.out | apply below_alloc | apply pw_below_drewN | apply below_drew1 | refine below_set ?_ GE251.out) | exact HB.out))) : w.heap.size ≤ gb266))
                                    have n4_ := Aside0.mk ((by rw [hg]; exact (below_size (by repeat (first | (with_reducible first | exact HB.out | apply below_alloc | apply pw_below_drewN | apply below_drew1 | refine below_set ?_ GE251.out) | exact HB.out))) : w.heap.size ≤ gb266))
                                    have n5_ := Aside0.mk ((by rw [hg]; exact Nat.ne_of_lt (blk_lt (g := gb251) (o := .cells #[.int .i64 t248, .int .i64 t249] 23 (0, 0)) (by (with_reducible repeat (first | refine blk_drewN ?_ _ | refine blk_drew ?_ | refine blk_alloc ?_ _)); exact BK251.out)) : gb251 ≠ gb266))
                                    have n6_ := Aside0.mk ((by rw [hg]; exact Nat.ne_of_gt (blk_lt (g := gb251) (o := .cells #[.int .i64 t248, .int .i64 t249] 23 (0, 0)) (by (with_reducible repeat (first | refine blk_drewN ?_ _ | refine blk_drew ?_ | refine blk_alloc ?_ _)); exact BK251.out)) : gb266 ≠ gb251))
                                    clear BK251
                                    clear HB
                                    have BK251 := n0_
                                    have HB := n1_
                                    have BK266 := n2_
                                    have GW266 := n3_
                                    have GE266 := n4_
                                    have NB251_266 := n5_
                                    have NB266_251 := n6_
                                    clear n0_ n1_ n2_ n3_ n4_ n5_ n6_
                                    clear hb hbox hg
                                    refine hK.out _ _ trivial (fun hHeld => ?_)
                                    clear hK K
                                    refine norm_ (a' := ?_) ?_ ?_
                                    rotate_left
                                    · show Act.put _ (some 8) _ = _
                                      simp only [Act.put, List.setIfInBounds_toArray, List.set_cons_zero, List.set_cons_succ, i64_w, i32_w]
                                      rfl
                                    exact norm_ (by first | (simp only [putAll, Act.put, List.setIfInBounds_toArray, List.set_cons_zero, List.set_cons_succ]; done) | (simp only [putAll, Act.put, List.setIfInBounds_toArray, List.set_cons_zero, List.set_cons_succ]; rfl)) (hJ13 (gb266) _ ⟨(by (with_reducible repeat (first | refine blk_drewN ?_ _ | refine blk_drew ?_ | refine blk_alloc ?_ _)); exact BK251.out), (by (with_reducible repeat (first | refine blk_drewN ?_ _ | refine blk_drew ?_ | refine blk_alloc ?_ _)); exact BK266.out), GW266.out, GE266.out, NB251_266.out, NB266_251.out, (by repeat (first | (with_reducible first | exact HB.out | apply below_alloc | apply pw_below_drewN | apply below_drew1 | refine below_set ?_ GE251.out | refine below_set ?_ GE266.out) | exact HB.out))⟩)
                                · skip
                                  rintro gb266 w25 ⟨h0_, h1_, h2_, h3_, h4_, h5_, h6_⟩
                                  have n0_ : Aside0 (w25.heap[gb251]? = some (.cells #[.int .i64 t248, .int .i64 t249] 23 (0, 0))) := ⟨h0_⟩
                                  have n1_ : Aside0 (w25.heap[gb266]? = some (.cells #[.int .i64 0, .int .i64 0] 23 (0, 0))) := ⟨h1_⟩
                                  have n2_ : Aside0 (w.heap.size ≤ gb266) := ⟨h2_⟩
                                  have n3_ : Aside0 (w.heap.size ≤ gb266) := ⟨h3_⟩
                                  have n4_ : Aside0 (gb251 ≠ gb266) := ⟨h4_⟩
                                  have n5_ : Aside0 (gb266 ≠ gb251) := ⟨h5_⟩
                                  have n6_ : Aside0 (Below w.heap.size w w25) := ⟨h6_⟩
                                  clear BK251
                                  clear HB
                                  clear h0_ h1_ h2_ h3_ h4_ h5_ h6_
                                  have BK251 := n0_
                                  have BK266 := n1_
                                  have GW266 := n2_
                                  have GE266 := n3_
                                  have NB251_266 := n4_
                                  have NB266_251 := n5_
                                  have HB := n6_
                                  clear n0_ n1_ n2_ n3_ n4_ n5_ n6_
                                  have hHeld := trivial
                                  refine norm_ (a' := ?_) ?_ ?_
                                  rotate_left
                                  · simp only [putAll, Act.put, List.setIfInBounds_toArray, List.set_cons_zero, List.set_cons_succ]
                                    rfl
                                  refine one_ (i := 0) (N := some 35) #[true, true, true, true, false, true, true, true, false, false, false, false, false, true, false, false] rfl rfl (one_of HT_.out (by kernel_rfl)) (by decide) (fun K hK => ?_)
                                  refine Kd.R_lit_step (Kd.int .i64) _ 3 ?hg (N := 35) ?hd (xs := ([] : List Int)) (inner := []) (ok := fun _ => True) (okp := fun _ => True) ?hr ?hp (fun _ hk => hk) trivial (Below.refl _ _) (Nat.le_refl _) (by simp) ?_; (case hd => rfl); (case hg => rfl); (case hr => first | (go_simp; done) | (go_simp; rfl)); (case hp => exact (Reps.none _ _))
                                  intro v253 w26 ho27 hb hg_ hnew_
                                  clear hg_ hnew_
                                  (first | rw [← Ny252.out] at ho27 | (simp only [Int.reduceToNat] at ho27; rw [← Ny252.out] at ho27))
                                  have n0_ := Aside0.mk (Kd.R_lower ho27 (below_size (by repeat (first | (with_reducible first | exact HB.out | apply below_alloc | apply pw_below_drewN | apply below_drew1 | refine below_set ?_ GE251.out | refine below_set ?_ GE266.out) | exact HB.out))))
                                  have n1_ := Aside0.mk (blk_below (g := gb251) (o := .cells #[.int .i64 t248, .int .i64 t249] 23 (0, 0)) (by (with_reducible repeat (first | refine blk_drewN ?_ _ | refine blk_drew ?_ | refine blk_alloc ?_ _)); exact BK251.out) hb)
                                  have n2_ := Aside0.mk (blk_below (g := gb266) (o := .cells #[.int .i64 0, .int .i64 0] 23 (0, 0)) (by (with_reducible repeat (first | refine blk_drewN ?_ _ | refine blk_drew ?_ | refine blk_alloc ?_ _)); exact BK266.out) hb)
                                  have n3_ := Aside0.mk (below_step (by repeat (first | (with_reducible first | exact HB.out | apply below_alloc | apply pw_below_drewN | apply below_drew1 | refine below_set ?_ GE251.out | refine below_set ?_ GE266.out) | exact HB.out)) hb)
                                  clear BK251
                                  clear BK266
                                  clear HB
                                  have HO254 := n0_
                                  have BK251 := n1_
                                  have BK266 := n2_
                                  have HB := n3_
                                  clear n0_ n1_ n2_ n3_
                                  clear hb ho27
                                  refine hK.out _ _ trivial (fun hHeld => ?_)
                                  clear hK K
                                  refine norm_ (a' := ?_) ?_ ?_
                                  rotate_left
                                  · show Act.put _ (some 35) _ = _
                                    simp only [Act.put, List.setIfInBounds_toArray, List.set_cons_zero, List.set_cons_succ, i64_w, i32_w]
                                    rfl
                                  exact norm_ (by first | (simp only [putAll, Act.put, List.setIfInBounds_toArray, List.set_cons_zero, List.set_cons_succ]; done) | (simp only [putAll, Act.put, List.setIfInBounds_toArray, List.set_cons_zero, List.set_cons_succ]; rfl)) (hJ0_13 (v253, gb266) _ ⟨(by (with_reducible repeat (first | apply Kd.R_alloc | apply Kd.R_drewN | apply Kd.R_drew)); exact HO254.out), (by (with_reducible repeat (first | refine blk_drewN ?_ _ | refine blk_drew ?_ | refine blk_alloc ?_ _)); exact BK251.out), (by (with_reducible repeat (first | refine blk_drewN ?_ _ | refine blk_drew ?_ | refine blk_alloc ?_ _)); exact BK266.out), GW266.out, GE266.out, NB251_266.out, NB266_251.out, (by repeat (first | (with_reducible first | exact HB.out | apply below_alloc | apply pw_below_drewN | apply below_drew1 | refine below_set ?_ GE251.out | refine below_set ?_ GE266.out) | exact HB.out))⟩)
                              · skip
                                rintro v253 w26 ⟨h0_, h1_, h2_⟩
                                have n0_ : Aside0 (Kd.R (Kd.int .i64) 3 w26 w.heap.size (fun _ => True) v253 y252) := ⟨h0_⟩
                                have n1_ : Aside0 (w26.heap[gb251]? = some (.cells #[.int .i64 t248, .int .i64 t249] 23 (0, 0))) := ⟨h1_⟩
                                have n2_ : Aside0 (Below w.heap.size w w26) := ⟨h2_⟩
                                clear BK251
                                clear HB
                                clear h0_ h1_ h2_
                                have HO254 := n0_
                                have BK251 := n1_
                                have HB := n2_
                                clear n0_ n1_ n2_
                                have hHeld := trivial
                                refine norm_ (a' := ?_) ?_ ?_
                                rotate_left
                                · simp only [putAll, Act.put, List.setIfInBounds_toArray, List.set_cons_zero, List.set_cons_succ]
                                  rfl
                                refine two_ (i := 4) (j := 13) (Ni := some 39) (Nj := some 8) #[true, true, true, true, true, true, true, true, false, false, false, false, false, false, false, false] #[true, true, true, true, false, true, true, true, false, false, false, false, false, true, false, false] rfl rfl rfl rfl (two_of HT_.out (by kernel_rfl)) (by decide) (by decide) (fun K hK => ?_) (fun K hK => ?_)
                                · skip
                                  refine Kd.R_append_rows_step (Kd.int .i64) (w0 := w) w.heap.size (by rfl) (.tmp 35) (.tmp 38) 33 3 (.int .i64 0) 8 rfl Tryd.underlying33 info3 rfl (by decide) (by omega) v253 y252 (l0.drop (x7_5 : Int).toNat) _ _ _ (fun _ => True) (fun _ => False) rfl rfl ?aO ?aR (fun _ _ h => h) (fun _ h => h.elim) ?aF ?aB ?aS ?aL ?_
                                  (case aR => first | (have h_ := (Kd.C_below HR255.out HB.out); rw [show (l0.drop (x7_5 : Int).toNat).length = (l0.length - x7_5.toNat) from List.length_drop] at h_; exact h_) | ((repeat (first | exact (Kd.C_below HR255.out HB.out) | (with_reducible refine Kd.C_alloc ?_ _) | (with_reducible refine Kd.C_drewN ?_ _) | (with_reducible refine Kd.C_drew ?_))); done) | (rw [← show (l0.drop (x7_5 : Int).toNat).length = (l0.length - x7_5.toNat) from List.length_drop]; repeat (first | exact (Kd.C_below HR255.out HB.out) | (with_reducible refine Kd.C_alloc ?_ _) | (with_reducible refine Kd.C_drewN ?_ _) | (with_reducible refine Kd.C_drew ?_))))
                                  (case aB => exact (by repeat (first | (with_reducible first | exact HB.out | apply below_alloc | apply pw_below_drewN | apply below_drew1 | refine below_set ?_ GE251.out) | exact HB.out)))
                                  (case aF => exact (fun _ _ => trivial))
                                  (case aO => exact (by (with_reducible repeat (first | apply Kd.R_alloc | apply Kd.R_drewN | apply Kd.R_drew)); exact HO254.out))
                                  (case aS => exact (below_size (by repeat (first | (with_reducible first | exact HB.out | apply below_alloc | apply pw_below_drewN | apply below_drew1 | refine below_set ?_ GE251.out) | exact HB.out))))
                                  (case aL => have := LMc15.out; have hlx_ := (show (l0.drop (x7_5 : Int).toNat).length = (l0.length - x7_5.toNat) from List.length_drop); omega)
                                  intro v257 w27 ho hb hg hat
                                  rw [← Ny256.out] at ho
                                  have n0_ := Aside0.mk (blk_grown (g := gb251) (o := .cells #[.int .i64 t248, .int .i64 t249] 23 (0, 0)) (by (with_reducible repeat (first | refine blk_drewN ?_ _ | refine blk_drew ?_ | refine blk_alloc ?_ _)); exact BK251.out) hg (Kd.R_ne HO254.out BK251.out (by decide)))
                                  have n1_ := Aside0.mk (hb)
                                  have n2_ := Aside0.mk (ho)
                                  clear BK251
                                  clear HB
                                  clear HO254
                                  have BK251 := n0_
                                  have HB := n1_
                                  have HO258 := n2_
                                  clear n0_ n1_ n2_
                                  clear ho hb hg hat
                                  refine hK.out _ _ trivial (fun hHeld => ?_)
                                  clear hK K
                                  refine norm_ (a' := ?_) ?_ ?_
                                  rotate_left
                                  · show Act.put _ (some 39) _ = _
                                    simp only [Act.put, List.setIfInBounds_toArray, List.set_cons_zero, List.set_cons_succ, i64_w, i32_w]
                                    rfl
                                  exact norm_ (by first | (simp only [putAll, Act.put, List.setIfInBounds_toArray, List.set_cons_zero, List.set_cons_succ]; done) | (simp only [putAll, Act.put, List.setIfInBounds_toArray, List.set_cons_zero, List.set_cons_succ]; rfl)) (hJ0_4 (v253, v257) _ ⟨(by (with_reducible repeat (first | apply Kd.R_alloc | apply Kd.R_drewN | apply Kd.R_drew)); exact HO258.out), (by (with_reducible repeat (first | refine blk_drewN ?_ _ | refine blk_drew ?_ | refine blk_alloc ?_ _)); exact BK251.out), (by repeat (first | (with_reducible first | exact HB.out | apply below_alloc | apply pw_below_drewN | apply below_drew1 | refine below_set ?_ GE251.out) | exact HB.out))⟩)
                                · skip
                                  refine box_step ?hg (N := 8) ?hd (cs := #[.int .i64 0, .int .i64 0]) (t := 23) ?hr ?_; (case hd => rfl); (case hg => rfl); (case hr => first | (go_simp; done) | (go_simp; rfl))
                                  intro gb266 hg w27 hbox hb
                                  have n0_ := Aside0.mk (Kd.R_below (by (with_reducible repeat (first | apply Kd.R_alloc | apply Kd.R_drewN | apply Kd.R_drew)); exact HO254.out) hb)
                                  have n1_ := Aside0.mk (blk_below (g := gb251) (o := .cells #[.int .i64 t248, .int .i64 t249] 23 (0, 0)) (by (with_reducible repeat (first | refine blk_drewN ?_ _ | refine blk_drew ?_ | refine blk_alloc ?_ _)); exact BK251.out) hb)
                                  have n2_ := Aside0.mk (below_step (by repeat (first | (with_reducible first | exact HB.out | apply below_alloc | apply pw_below_drewN | apply below_drew1 | refine below_set ?_ GE251.out) | exact HB.out)) hb)
                                  have n3_ := Aside0.mk (hbox)
                                  have n4_ := Aside0.mk ((by rw [hg]; exact (below_size (by repeat (first | (with_reducible first | exact HB.out | apply below_alloc | apply pw_below_drewN | apply below_drew1 | refine below_set ?_ GE251.out) | exact HB.out))) : w.heap.size ≤ gb266))
                                  have n5_ := Aside0.mk ((by rw [hg]; exact (below_size (by repeat (first | (with_reducible first | exact HB.out | apply below_alloc | apply pw_below_drewN | apply below_drew1 | refine below_set ?_ GE251.out) | exact HB.out))) : w.heap.size ≤ gb266))
                                  have n6_ := Aside0.mk ((by rw [hg]; exact Nat.ne_of_lt (blk_lt (g := gb251) (o := .cells #[.int .i64 t248, .int .i64 t249] 23 (0, 0)) (by (with_reducible repeat (first | refine blk_drewN ?_ _ | refine blk_drew ?_ | refine blk_alloc ?_ _)); exact BK251.out)) : gb251 ≠ gb266))
                                  have n7_ := Aside0.mk ((by rw [hg]; exact Nat.ne_of_gt (blk_lt (g := gb251) (o := .cells #[.int .i64 t248, .int .i64 t249] 23 (0, 0)) (by (with_reducible repeat (first | refine blk_drewN ?_ _ | refine blk_drew ?_ | refine blk_alloc ?_ _)); exact BK251.out)) : gb266 ≠ gb251))
                                  clear HO254
                                  clear BK251
                                  clear HB
                                  have HO254 := n0_
                                  have BK251 := n1_
                                  have HB := n2_
                                  have BK266 := n3_
                                  have GW266 := n4_
                                  have GE266 := n5_
                                  have NB251_266 := n6_
                                  have NB266_251 := n7_
                                  clear n0_ n1_ n2_ n3_ n4_ n5_ n6_ n7_
                                  clear hb hbox hg
                                  refine hK.out _ _ trivial (fun hHeld => ?_)
                                  clear hK K
                                  refine norm_ (a' := ?_) ?_ ?_
                                  rotate_left
                                  · show Act.put _ (some 8) _ = _
                                    simp only [Act.put, List.setIfInBounds_toArray, List.set_cons_zero, List.set_cons_succ, i64_w, i32_w]
                                    rfl
                                  exact norm_ (by first | (simp only [putAll, Act.put, List.setIfInBounds_toArray, List.set_cons_zero, List.set_cons_succ]; done) | (simp only [putAll, Act.put, List.setIfInBounds_toArray, List.set_cons_zero, List.set_cons_succ]; rfl)) (hJ0_13 (v253, gb266) _ ⟨(by (with_reducible repeat (first | apply Kd.R_alloc | apply Kd.R_drewN | apply Kd.R_drew)); exact HO254.out), (by (with_reducible repeat (first | refine blk_drewN ?_ _ | refine blk_drew ?_ | refine blk_alloc ?_ _)); exact BK251.out), (by (with_reducible repeat (first | refine blk_drewN ?_ _ | refine blk_drew ?_ | refine blk_alloc ?_ _)); exact BK266.out), GW266.out, GE266.out, NB251_266.out, NB266_251.out, (by repeat (first | (with_reducible first | exact HB.out | apply below_alloc | apply pw_below_drewN | apply below_drew1 | refine below_set ?_ GE251.out | refine below_set ?_ GE266.out) | exact HB.out))⟩)
                            · skip
                              rintro ⟨v253, gb266⟩ w27 ⟨h0_, h1_, h2_, h3_, h4_, h5_, h6_, h7_⟩
                              have n0_ : Aside0 (Kd.R (Kd.int .i64) 3 w27 w.heap.size (fun _ => True) v253 y252) := ⟨h0_⟩
                              have n1_ : Aside0 (w27.heap[gb251]? = some (.cells #[.int .i64 t248, .int .i64 t249] 23 (0, 0))) := ⟨h1_⟩
                              have n2_ : Aside0 (w27.heap[gb266]? = some (.cells #[.int .i64 0, .int .i64 0] 23 (0, 0))) := ⟨h2_⟩
                              have n3_ : Aside0 (w.heap.size ≤ gb266) := ⟨h3_⟩
                              have n4_ : Aside0 (w.heap.size ≤ gb266) := ⟨h4_⟩
                              have n5_ : Aside0 (gb251 ≠ gb266) := ⟨h5_⟩
                              have n6_ : Aside0 (gb266 ≠ gb251) := ⟨h6_⟩
                              have n7_ : Aside0 (Below w.heap.size w w27) := ⟨h7_⟩
                              clear BK251
                              clear HB
                              clear h0_ h1_ h2_ h3_ h4_ h5_ h6_ h7_
                              have HO254 := n0_
                              have BK251 := n1_
                              have BK266 := n2_
                              have GW266 := n3_
                              have GE266 := n4_
                              have NB251_266 := n5_
                              have NB266_251 := n6_
                              have HB := n7_
                              clear n0_ n1_ n2_ n3_ n4_ n5_ n6_ n7_
                              have hHeld := trivial
                              refine norm_ (a' := ?_) ?_ ?_
                              rotate_left
                              · simp only [putAll, Act.put, List.setIfInBounds_toArray, List.set_cons_zero, List.set_cons_succ]
                                rfl
                              refine one_ (i := 4) (N := some 39) #[true, true, true, true, true, true, true, true, false, false, false, false, false, true, false, false] rfl rfl (one_of HT_.out (by kernel_rfl)) (by decide) (fun K hK => ?_)
                              refine Kd.R_append_rows_step (Kd.int .i64) (w0 := w) w.heap.size (by rfl) (.tmp 35) (.tmp 38) 33 3 (.int .i64 0) 8 rfl Tryd.underlying33 info3 rfl (by decide) (by omega) v253 y252 (l0.drop (x7_5 : Int).toNat) _ _ _ (fun _ => True) (fun _ => False) rfl rfl ?aO ?aR (fun _ _ h => h) (fun _ h => h.elim) ?aF ?aB ?aS ?aL ?_
                              (case aR => first | (have h_ := (Kd.C_below HR255.out HB.out); rw [show (l0.drop (x7_5 : Int).toNat).length = (l0.length - x7_5.toNat) from List.length_drop] at h_; exact h_) | ((repeat (first | exact (Kd.C_below HR255.out HB.out) | (with_reducible refine Kd.C_alloc ?_ _) | (with_reducible refine Kd.C_drewN ?_ _) | (with_reducible refine Kd.C_drew ?_))); done) | (rw [← show (l0.drop (x7_5 : Int).toNat).length = (l0.length - x7_5.toNat) from List.length_drop]; repeat (first | exact (Kd.C_below HR255.out HB.out) | (with_reducible refine Kd.C_alloc ?_ _) | (with_reducible refine Kd.C_drewN ?_ _) | (with_reducible refine Kd.C_drew ?_))))
                              (case aB => exact (by repeat (first | (with_reducible first | exact HB.out | apply below_alloc | apply pw_below_drewN | apply below_drew1 | refine below_set ?_ GE251.out | refine below_set ?_ GE266.out) | exact HB.out)))
                              (case aF => exact (fun _ _ => trivial))
                              (case aO => exact (by (with_reducible repeat (first | apply Kd.R_alloc | apply Kd.R_drewN | apply Kd.R_drew)); exact HO254.out))
                              (case aS => exact (below_size (by repeat (first | (with_reducible first | exact HB.out | apply below_alloc | apply pw_below_drewN | apply below_drew1 | refine below_set ?_ GE251.out | refine below_set ?_ GE266.out) | exact HB.out))))
                              (case aL => have := LMc15.out; have hlx_ := (show (l0.drop (x7_5 : Int).toNat).length = (l0.length - x7_5.toNat) from List.length_drop); omega)
                              intro v257 w28 ho hb hg hat
                              rw [← Ny256.out] at ho
                              have n0_ := Aside0.mk (blk_grown (g := gb251) (o := .cells #[.int .i64 t248, .int .i64 t249] 23 (0, 0)) (by (with_reducible repeat (first | refine blk_drewN ?_ _ | refine blk_drew ?_ | refine blk_alloc ?_ _)); exact BK251.out) hg (Kd.R_ne HO254.out BK251.out (by decide)))
                              have n1_ := Aside0.mk (blk_grown (g := gb266) (o := .cells #[.int .i64 0, .int .i64 0] 23 (0, 0)) (by (with_reducible repeat (first | refine blk_drewN ?_ _ | refine blk_drew ?_ | refine blk_alloc ?_ _)); exact BK266.out) hg (Kd.R_ne HO254.out BK266.out (by decide)))
                              have n2_ := Aside0.mk (hb)
                              have n3_ := Aside0.mk (ho)
                              clear BK251
                              clear BK266
                              clear HB
                              clear HO254
                              have BK251 := n0_
                              have BK266 := n1_
                              have HB := n2_
                              have HO258 := n3_
                              clear n0_ n1_ n2_ n3_
                              clear ho hb hg hat
                              refine hK.out _ _ trivial (fun hHeld => ?_)
                              clear hK K
                              refine norm_ (a' := ?_) ?_ ?_
                              rotate_left
                              · show Act.put _ (some 39) _ = _
                                simp only [Act.put, List.setIfInBounds_toArray, List.set_cons_zero, List.set_cons_succ, i64_w, i32_w]
                                rfl
                              exact norm_ (by first | (simp only [putAll, Act.put, List.setIfInBounds_toArray, List.set_cons_zero, List.set_cons_succ]; done) | (simp only [putAll, Act.put, List.setIfInBounds_toArray, List.set_cons_zero, List.set_cons_succ]; rfl)) (hJ0_4_13 (v253, v257, gb266) _ ⟨(by (with_reducible repeat (first | apply Kd.R_alloc | apply Kd.R_drewN | apply Kd.R_drew)); exact HO258.out), (by (with_reducible repeat (first | refine blk_drewN ?_ _ | refine blk_drew ?_ | refine blk_alloc ?_ _)); exact BK251.out), (by (with_reducible repeat (first | refine blk_drewN ?_ _ | refine blk_drew ?_ | refine blk_alloc ?_ _)); exact BK266.out), GW266.out, GE266.out, NB251_266.out, NB266_251.out, (by repeat (first | (with_reducible first | exact HB.out | apply below_alloc | apply pw_below_drewN | apply below_drew1 | refine below_set ?_ GE251.out | refine below_set ?_ GE266.out) | exact HB.out))⟩)
                          · skip
                            rintro ⟨v253, v257⟩ w27 ⟨h0_, h1_, h2_⟩
                            have n0_ : Aside0 (Kd.R (Kd.int .i64) 3 w27 w.heap.size (fun _ => True) v257 y256) := ⟨h0_⟩
                            have n1_ : Aside0 (w27.heap[gb251]? = some (.cells #[.int .i64 t248, .int .i64 t249] 23 (0, 0))) := ⟨h1_⟩
                            have n2_ : Aside0 (Below w.heap.size w w27) := ⟨h2_⟩
                            clear BK251
                            clear HB
                            clear h0_ h1_ h2_
                            have HO258 := n0_
                            have BK251 := n1_
                            have HB := n2_
                            clear n0_ n1_ n2_
                            have hHeld := trivial
                            refine norm_ (a' := ?_) ?_ ?_
                            rotate_left
                            · simp only [putAll, Act.put, List.setIfInBounds_toArray, List.set_cons_zero, List.set_cons_succ]
                              rfl
                            refine two_ (i := 8) (j := 13) (Ni := some 43) (Nj := some 8) #[true, true, true, true, true, true, true, true, true, false, false, false, false, false, false, false] #[true, true, true, true, true, true, true, true, false, false, false, false, false, true, false, false] rfl rfl rfl rfl (two_of HT_.out (by kernel_rfl)) (by decide) (by decide) (fun K hK => ?_) (fun K hK => ?_)
                            · skip
                              refine Kd.R_append_rows_step (Kd.int .i64) (w0 := w) w.heap.size (by rfl) (.tmp 39) (.tmp 42) 33 3 (.int .i64 0) 8 rfl Tryd.underlying33 info3 rfl (by decide) (by omega) v257 y256 (l0.take (x7_5 : Int).toNat) _ _ _ (fun _ => True) (fun _ => False) rfl rfl ?aO ?aR (fun _ _ h => h) (fun _ h => h.elim) ?aF ?aB ?aS ?aL ?_
                              (case aR => first | (have h_ := (Kd.C_below HR259.out HB.out); rw [show (l0.take (x7_5 : Int).toNat).length = x7_5.toNat from (by rw [List.length_take]; have h_ : (x7_5 : Int) ≤ (l0.length : Int) := of_decide_eq_true (by first | (with_reducible assumption) | assumption); omega)] at h_; exact h_) | ((repeat (first | exact (Kd.C_below HR259.out HB.out) | (with_reducible refine Kd.C_alloc ?_ _) | (with_reducible refine Kd.C_drewN ?_ _) | (with_reducible refine Kd.C_drew ?_))); done) | (rw [← show (l0.take (x7_5 : Int).toNat).length = x7_5.toNat from (by rw [List.length_take]; have h_ : (x7_5 : Int) ≤ (l0.length : Int) := of_decide_eq_true (by first | (with_reducible assumption) | assumption); omega)]; repeat (first | exact (Kd.C_below HR259.out HB.out) | (with_reducible refine Kd.C_alloc ?_ _) | (with_reducible refine Kd.C_drewN ?_ _) | (with_reducible refine Kd.C_drew ?_))))
                              (case aB => exact (by repeat (first | (with_reducible first | exact HB.out | apply below_alloc | apply pw_below_drewN | apply below_drew1 | refine below_set ?_ GE251.out) | exact HB.out)))
                              (case aF => exact (fun _ _ => trivial))
                              (case aO => exact (by (with_reducible repeat (first | apply Kd.R_alloc | apply Kd.R_drewN | apply Kd.R_drew)); exact HO258.out))
                              (case aS => exact (below_size (by repeat (first | (with_reducible first | exact HB.out | apply below_alloc | apply pw_below_drewN | apply below_drew1 | refine below_set ?_ GE251.out) | exact HB.out))))
                              (case aL => have := LMc18.out; have hlx_ := (show (l0.take (x7_5 : Int).toNat).length = x7_5.toNat from (by rw [List.length_take]; have h_ : (x7_5 : Int) ≤ (l0.length : Int) := of_decide_eq_true (by first | (with_reducible assumption) | assumption); omega)); omega)
                              intro v261 w28 ho hb hg hat
                              rw [← Ny260.out] at ho
                              have n0_ := Aside0.mk (blk_grown (g := gb251) (o := .cells #[.int .i64 t248, .int .i64 t249] 23 (0, 0)) (by (with_reducible repeat (first | refine blk_drewN ?_ _ | refine blk_drew ?_ | refine blk_alloc ?_ _)); exact BK251.out) hg (Kd.R_ne HO258.out BK251.out (by decide)))
                              have n1_ := Aside0.mk (hb)
                              have n2_ := Aside0.mk (ho)
                              clear BK251
                              clear HB
                              clear HO258
                              have BK251 := n0_
                              have HB := n1_
                              have HO262 := n2_
                              clear n0_ n1_ n2_
                              clear ho hb hg hat
                              refine hK.out _ _ trivial (fun hHeld => ?_)
                              clear hK K
                              refine norm_ (a' := ?_) ?_ ?_
                              rotate_left
                              · show Act.put _ (some 43) _ = _
                                simp only [Act.put, List.setIfInBounds_toArray, List.set_cons_zero, List.set_cons_succ, i64_w, i32_w]
                                rfl
                              exact norm_ (by first | (simp only [putAll, Act.put, List.setIfInBounds_toArray, List.set_cons_zero, List.set_cons_succ]; done) | (simp only [putAll, Act.put, List.setIfInBounds_toArray, List.set_cons_zero, List.set_cons_succ]; rfl)) (hJ0_4_8 (v253, v257, v261) _ ⟨(by (with_reducible repeat (first | apply Kd.R_alloc | apply Kd.R_drewN | apply Kd.R_drew)); exact HO262.out), (by (with_reducible repeat (first | refine blk_drewN ?_ _ | refine blk_drew ?_ | refine blk_alloc ?_ _)); exact BK251.out), (by repeat (first | (with_reducible first | exact HB.out | apply below_alloc | apply pw_below_drewN | apply below_drew1 | refine below_set ?_ GE251.out) | exact HB.out))⟩)
                            · skip
                              refine box_step ?hg (N := 8) ?hd (cs := #[.int .i64 0, .int .i64 0]) (t := 23) ?hr ?_; (case hd => rfl); (case hg => rfl); (case hr => first | (go_simp; done) | (go_simp; rfl))
                              intro gb266 hg w28 hbox hb
                              have n0_ := Aside0.mk (Kd.R_below (by (with_reducible repeat (first | apply Kd.R_alloc | apply Kd.R_drewN | apply Kd.R_drew)); exact HO258.out) hb)
                              have n1_ := Aside0.mk (blk_below (g := gb251) (o := .cells #[.int .i64 t248, .int .i64 t249] 23 (0, 0)) (by (with_reducible repeat (first | refine blk_drewN ?_ _ | refine blk_drew ?_ | refine blk_alloc ?_ _)); exact BK251.out) hb)
                              have n2_ := Aside0.mk (below_step (by repeat (first | (with_reducible first | exact HB.out | apply below_alloc | apply pw_below_drewN | apply below_drew1 | refine below_set ?_ GE251.out) | exact HB.out)) hb)
                              have n3_ := Aside0.mk (hbox)
                              have n4_ := Aside0.mk ((by rw [hg]; exact (below_size (by repeat (first | (with_reducible first | exact HB.out | apply below_alloc | apply pw_below_drewN | apply below_drew1 | refine below_set ?_ GE251.out) | exact HB.out))) : w.heap.size ≤ gb266))
                              have n5_ := Aside0.mk ((by rw [hg]; exact (below_size (by repeat (first | (with_reducible first | exact HB.out | apply below_alloc | apply pw_below_drewN | apply below_drew1 | refine below_set ?_ GE251.out) | exact HB.out))) : w.heap.size ≤ gb266))
                              have n6_ := Aside0.mk ((by rw [hg]; exact Nat.ne_of_lt (blk_lt (g := gb251) (o := .cells #[.int .i64 t248, .int .i64 t249] 23 (0, 0)) (by (with_reducible repeat (first | refine blk_drewN ?_ _ | refine blk_drew ?_ | refine blk_alloc ?_ _)); exact BK251.out)) : gb251 ≠ gb266))
                              have n7_ := Aside0.mk ((by rw [hg]; exact Nat.ne_of_gt (blk_lt (g := gb251) (o := .cells #[.int .i64 t248, .int .i64 t249] 23 (0, 0)) (by (with_reducible repeat (first | refine blk_drewN ?_ _ | refine blk_drew ?_ | refine blk_alloc ?_ _)); exact BK251.out)) : gb266 ≠ gb251))
                              clear HO258
                              clear BK251
                              clear HB
                              have HO258 := n0_
                              have BK251 := n1_
                              have HB := n2_
                              have BK266 := n3_
                              have GW266 := n4_
                              have GE266 := n5_
                              have NB251_266 := n6_
                              have NB266_251 := n7_
                              clear n0_ n1_ n2_ n3_ n4_ n5_ n6_ n7_
                              clear hb hbox hg
                              refine hK.out _ _ trivial (fun hHeld => ?_)
                              clear hK K
                              refine norm_ (a' := ?_) ?_ ?_
                              rotate_left
                              · show Act.put _ (some 8) _ = _
                                simp only [Act.put, List.setIfInBounds_toArray, List.set_cons_zero, List.set_cons_succ, i64_w, i32_w]
                                rfl
                              exact norm_ (by first | (simp only [putAll, Act.put, List.setIfInBounds_toArray, List.set_cons_zero, List.set_cons_succ]; done) | (simp only [putAll, Act.put, List.setIfInBounds_toArray, List.set_cons_zero, List.set_cons_succ]; rfl)) (hJ0_4_13 (v253, v257, gb266) _ ⟨(by (with_reducible repeat (first | apply Kd.R_alloc | apply Kd.R_drewN | apply Kd.R_drew)); exact HO258.out), (by (with_reducible repeat (first | refine blk_drewN ?_ _ | refine blk_drew ?_ | refine blk_alloc ?_ _)); exact BK251.out), (by (with_reducible repeat (first | refine blk_drewN ?_ _ | refine blk_drew ?_ | refine blk_alloc ?_ _)); exact BK266.out), GW266.out, GE266.out, NB251_266.out, NB266_251.out, (by repeat (first | (with_reducible first | exact HB.out | apply below_alloc | apply pw_below_drewN | apply below_drew1 | refine below_set ?_ GE251.out | refine below_set ?_ GE266.out) | exact HB.out))⟩)
                        · skip
                          rintro ⟨v253, v257, gb266⟩ w28 ⟨h0_, h1_, h2_, h3_, h4_, h5_, h6_, h7_⟩
                          have n0_ : Aside0 (Kd.R (Kd.int .i64) 3 w28 w.heap.size (fun _ => True) v257 y256) := ⟨h0_⟩
                          have n1_ : Aside0 (w28.heap[gb251]? = some (.cells #[.int .i64 t248, .int .i64 t249] 23 (0, 0))) := ⟨h1_⟩
                          have n2_ : Aside0 (w28.heap[gb266]? = some (.cells #[.int .i64 0, .int .i64 0] 23 (0, 0))) := ⟨h2_⟩
                          have n3_ : Aside0 (w.heap.size ≤ gb266) := ⟨h3_⟩
                          have n4_ : Aside0 (w.heap.size ≤ gb266) := ⟨h4_⟩
                          have n5_ : Aside0 (gb251 ≠ gb266) := ⟨h5_⟩
                          have n6_ : Aside0 (gb266 ≠ gb251) := ⟨h6_⟩
                          have n7_ : Aside0 (Below w.heap.size w w28) := ⟨h7_⟩
                          clear BK251
                          clear HB
                          clear h0_ h1_ h2_ h3_ h4_ h5_ h6_ h7_
                          have HO258 := n0_
                          have BK251 := n1_
                          have BK266 := n2_
                          have GW266 := n3_
                          have GE266 := n4_
                          have NB251_266 := n5_
                          have NB266_251 := n6_
                          have HB := n7_
                          clear n0_ n1_ n2_ n3_ n4_ n5_ n6_ n7_
                          have hHeld := trivial
                          refine norm_ (a' := ?_) ?_ ?_
                          rotate_left
                          · simp only [putAll, Act.put, List.setIfInBounds_toArray, List.set_cons_zero, List.set_cons_succ]
                            rfl
                          refine one_ (i := 8) (N := some 43) #[true, true, true, true, true, true, true, true, true, false, false, false, false, true, false, false] rfl rfl (one_of HT_.out (by kernel_rfl)) (by decide) (fun K hK => ?_)
                          refine Kd.R_append_rows_step (Kd.int .i64) (w0 := w) w.heap.size (by rfl) (.tmp 39) (.tmp 42) 33 3 (.int .i64 0) 8 rfl Tryd.underlying33 info3 rfl (by decide) (by omega) v257 y256 (l0.take (x7_5 : Int).toNat) _ _ _ (fun _ => True) (fun _ => False) rfl rfl ?aO ?aR (fun _ _ h => h) (fun _ h => h.elim) ?aF ?aB ?aS ?aL ?_
                          (case aR => first | (have h_ := (Kd.C_below HR259.out HB.out); rw [show (l0.take (x7_5 : Int).toNat).length = x7_5.toNat from (by rw [List.length_take]; have h_ : (x7_5 : Int) ≤ (l0.length : Int) := of_decide_eq_true (by first | (with_reducible assumption) | assumption); omega)] at h_; exact h_) | ((repeat (first | exact (Kd.C_below HR259.out HB.out) | (with_reducible refine Kd.C_alloc ?_ _) | (with_reducible refine Kd.C_drewN ?_ _) | (with_reducible refine Kd.C_drew ?_))); done) | (rw [← show (l0.take (x7_5 : Int).toNat).length = x7_5.toNat from (by rw [List.length_take]; have h_ : (x7_5 : Int) ≤ (l0.length : Int) := of_decide_eq_true (by first | (with_reducible assumption) | assumption); omega)]; repeat (first | exact (Kd.C_below HR259.out HB.out) | (with_reducible refine Kd.C_alloc ?_ _) | (with_reducible refine Kd.C_drewN ?_ _) | (with_reducible refine Kd.C_drew ?_))))
                          (case aB => exact (by repeat (first | (with_reducible first | exact HB.out | apply below_alloc | apply pw_below_drewN | apply below_drew1 | refine below_set ?_ GE251.out | refine below_set ?_ GE266.out) | exact HB.out)))
                          (case aF => exact (fun _ _ => trivial))
                          (case aO => exact (by (with_reducible repeat (first | apply Kd.R_alloc | apply Kd.R_drewN | apply Kd.R_drew)); exact HO258.out))
                          (case aS => exact (below_size (by repeat (first | (with_reducible first | exact HB.out | apply below_alloc | apply pw_below_drewN | apply below_drew1 | refine below_set ?_ GE251.out | refine below_set ?_ GE266.out) | exact HB.out))))
                          (case aL => have := LMc18.out; have hlx_ := (show (l0.take (x7_5 : Int).toNat).length = x7_5.toNat from (by rw [List.length_take]; have h_ : (x7_5 : Int) ≤ (l0.length : Int) := of_decide_eq_true (by first | (with_reducible assumption) | assumption); omega)); omega)
                          intro v261 w29 ho hb hg hat
                          rw [← Ny260.out] at ho
                          have n0_ := Aside0.mk (blk_grown (g := gb251) (o := .cells #[.int .i64 t248, .int .i64 t249] 23 (0, 0)) (by (with_reducible repeat (first | refine blk_drewN ?_ _ | refine blk_drew ?_ | refine blk_alloc ?_ _)); exact BK251.out) hg (Kd.R_ne HO258.out BK251.out (by decide)))
                          have n1_ := Aside0.mk (blk_grown (g := gb266) (o := .cells #[.int .i64 0, .int .i64 0] 23 (0, 0)) (by (with_reducible repeat (first | refine blk_drewN ?_ _ | refine blk_drew ?_ | refine blk_alloc ?_ _)); exact BK266.out) hg (Kd.R_ne HO258.out BK266.out (by decide)))
                          have n2_ := Aside0.mk (hb)
                          have n3_ := Aside0.mk (ho)
                          clear BK251
                          clear BK266
                          clear HB
                          clear HO258
                          have BK251 := n0_
                          have BK266 := n1_
                          have HB := n2_
                          have HO262 := n3_
                          clear n0_ n1_ n2_ n3_
                          clear ho hb hg hat
                          refine hK.out _ _ trivial (fun hHeld => ?_)
                          clear hK K
                          refine norm_ (a' := ?_) ?_ ?_
                          rotate_left
                          · show Act.put _ (some 43) _ = _
                            simp only [Act.put, List.setIfInBounds_toArray, List.set_cons_zero, List.set_cons_succ, i64_w, i32_w]
                            rfl
                          exact norm_ (by first | (simp only [putAll, Act.put, List.setIfInBounds_toArray, List.set_cons_zero, List.set_cons_succ]; done) | (simp only [putAll, Act.put, List.setIfInBounds_toArray, List.set_cons_zero, List.set_cons_succ]; rfl)) (hJ0_4_8_13 (v253, v257, v261, gb266) _ ⟨(by (with_reducible repeat (first | apply Kd.R_alloc | apply Kd.R_drewN | apply Kd.R_drew)); exact HO262.out), (by (with_reducible repeat (first | refine blk_drewN ?_ _ | refine blk_drew ?_ | refine blk_alloc ?_ _)); exact BK251.out), (by (with_reducible repeat (first | refine blk_drewN ?_ _ | refine blk_drew ?_ | refine blk_alloc ?_ _)); exact BK266.out), GW266.out, GE266.out, NB251_266.out, NB266_251.out, (by repeat (first | (with_reducible first | exact HB.out | apply below_alloc | apply pw_below_drewN | apply below_drew1 | refine below_set ?_ GE251.out | refine below_set ?_ GE266.out) | exact HB.out))⟩)
                      · skip
                        rintro ⟨v253, v257, v261⟩ w28 ⟨h0_, h1_, h2_⟩
                        have n0_ : Aside0 (Kd.R (Kd.int .i64) 3 w28 w.heap.size (fun _ => True) v261 y260) := ⟨h0_⟩
                        have n1_ : Aside0 (w28.heap[gb251]? = some (.cells #[.int .i64 t248, .int .i64 t249] 23 (0, 0))) := ⟨h1_⟩
                        have n2_ : Aside0 (Below w.heap.size w w28) := ⟨h2_⟩
                        clear BK251
                        clear HB
                        clear h0_ h1_ h2_
                        have HO262 := n0_
                        have BK251 := n1_
                        have HB := n2_
                        clear n0_ n1_ n2_
                        have hHeld := trivial
                        obtain ⟨Ao29, co29, eo29⟩ := Kd.R_slice HO262.out
                        (first | subst eo29 | (injection eo29 with f1_ f2_ f3_; have f4_ := f1_.symm; have f5_ := f3_.symm; clear f1_ f2_ f3_; subst f4_; subst f5_))
                        refine norm_ (a' := ?_) ?_ ?_
                        rotate_left
                        · simp only [putAll, Act.put, List.setIfInBounds_toArray, List.set_cons_zero, List.set_cons_succ]
                          rfl
                        refine two_ (i := 9) (j := 13) (Ni := some 44) (Nj := some 8) #[true, true, true, true, true, true, true, true, true, true, false, false, false, false, false, false] #[true, true, true, true, true, true, true, true, true, false, false, false, false, true, false, false] rfl rfl rfl rfl (two_of HT_.out (by kernel_rfl)) (by decide) (by decide) (fun K hK => ?_) (fun K hK => ?_)
                        · skip
                          refine goes_ Tryd.func19 (by kernel_rfl) rfl #[.slice Ao29 y260.length co29] (by rfl) rfl rfl (by (try simp only [List.map_toArray, List.map_cons, List.map_nil]); first | done | rfl | (simp only [List.length_drop, List.length_take]; rfl)) ?_
                          with_reducible refine (span_Common.calls _ _ y260 t263 t264 t265 _ ?side1 ?side2 A19.out).mono ?_
                          (case side1 => repeat (first | exact (Kd.R_reads' HO262.out).2.2 | (with_reducible refine Kd.C_alloc ?_ _) | (with_reducible refine Kd.C_drewN ?_ _) | (with_reducible refine Kd.C_drew ?_)))
                          (case side2 => exact (Kd.R_reads' HO262.out).2.1)
                          rintro e w30 ⟨rfl, hb⟩
                          refine ⟨_, rfl, ?_⟩
                          have n0_ := Aside0.mk (Kd.R_below (by (with_reducible repeat (first | apply Kd.R_alloc | apply Kd.R_drewN | apply Kd.R_drew)); exact HO262.out) hb)
                          have n1_ := Aside0.mk (blk_below (g := gb251) (o := .cells #[.int .i64 t248, .int .i64 t249] 23 (0, 0)) (by (with_reducible repeat (first | refine blk_drewN ?_ _ | refine blk_drew ?_ | refine blk_alloc ?_ _)); exact BK251.out) hb)
                          have n2_ := Aside0.mk (below_step (by repeat (first | (with_reducible first | exact HB.out | apply below_alloc | apply pw_below_drewN | apply below_drew1 | refine below_set ?_ GE251.out) | exact HB.out)) hb)
                          clear HO262
                          clear BK251
                          clear HB
                          have HO262 := n0_
                          have BK251 := n1_
                          have HB := n2_
                          clear n0_ n1_ n2_
                          (try clear hb)
                          (try clear hb2)
                          (try clear hk)
                          (try clear hi)
                          refine hK.out _ _ trivial (fun hHeld => ?_)
                          clear hK K
                          refine norm_ (a' := ?_) ?_ ?_
                          rotate_left
                          · show Act.put _ (some 44) _ = _
                            simp only [Act.put, List.setIfInBounds_toArray, List.set_cons_zero, List.set_cons_succ, i64_w, i32_w]
                            rfl
                          refine pure_ (i := 10) (N := some 34) (v := ?_) (a' := ?_) #[true, true, true, true, true, true, true, true, true, true, true, false, false, false, false, false] rfl rfl (any_of HT_.out (by kernel_rfl)) (fun _ _ _ h => h) (Or.inl ⟨by rfl, ?_⟩) ?_ ?_
                          rotate_left
                          · intro w'
                            go_simp
                            with_reducible rfl
                          rotate_left
                          · simp only [Act.put, List.setIfInBounds_toArray, List.set_cons_zero, List.set_cons_succ, i64_w, i32_w]
                            rfl
                          refine pure_ (i := 11) (N := some 45) (v := ?_) (a' := ?_) #[true, true, true, true, true, true, true, true, true, true, true, true, false, false, false, false] rfl rfl (any_of HT_.out (by kernel_rfl)) (fun _ _ _ h => h) (Or.inl ⟨by rfl, ?_⟩) ?_ ?_
                          rotate_left
                          · intro w'
                            go_simp
                            with_reducible rfl
                          rotate_left
                          · simp only [Act.put, List.setIfInBounds_toArray, List.set_cons_zero, List.set_cons_succ, i64_w, i32_w]
                            rfl
                          refine pure_ (i := 12) (N := some 46) (v := ?_) (a' := ?_) #[true, true, true, true, true, true, true, true, true, true, true, true, true, false, false, false] rfl rfl (any_of HT_.out (by kernel_rfl)) (fun _ _ _ h => h) (Or.inl ⟨by rfl, ?_⟩) ?_ ?_
                          rotate_left
                          · intro w'
                            go_simp
                            with_reducible rfl
                          rotate_left
                          · simp only [Act.put, List.setIfInBounds_toArray, List.set_cons_zero, List.set_cons_succ, i64_w, i32_w]
                            rfl
                          exact norm_ (by first | (simp only [putAll, Act.put, List.setIfInBounds_toArray, List.set_cons_zero, List.set_cons_succ]; done) | (simp only [putAll, Act.put, List.setIfInBounds_toArray, List.set_cons_zero, List.set_cons_succ]; rfl)) (hJ0_4_8_9 (v253, v257, .slice Ao29 y260.length co29) _ ⟨(by (with_reducible repeat (first | apply Kd.R_alloc | apply Kd.R_drewN | apply Kd.R_drew)); exact HO262.out), (by (with_reducible repeat (first | refine blk_drewN ?_ _ | refine blk_drew ?_ | refine blk_alloc ?_ _)); exact BK251.out), (by repeat (first | (with_reducible first | exact HB.out | apply below_alloc | apply pw_below_drewN | apply below_drew1 | refine below_set ?_ GE251.out) | exact HB.out))⟩)
                        · skip
                          refine box_step ?hg (N := 8) ?hd (cs := #[.int .i64 0, .int .i64 0]) (t := 23) ?hr ?_; (case hd => rfl); (case hg => rfl); (case hr => first | (go_simp; done) | (go_simp; rfl))
                          intro gb266 hg w29 hbox hb
                          have n0_ := Aside0.mk (Kd.R_below (by (with_reducible repeat (first | apply Kd.R_alloc | apply Kd.R_drewN | apply Kd.R_drew)); exact HO262.out) hb)
                          have n1_ := Aside0.mk (blk_below (g := gb251) (o := .cells #[.int .i64 t248, .int .i64 t249] 23 (0, 0)) (by (with_reducible repeat (first | refine blk_drewN ?_ _ | refine blk_drew ?_ | refine blk_alloc ?_ _)); exact BK251.out) hb)
                          have n2_ := Aside0.mk (below_step (by repeat (first | (with_reducible first | exact HB.out | apply below_alloc | apply pw_below_drewN | apply below_drew1 | refine below_set ?_ GE251.out) | exact HB.out)) hb)
                          have n3_ := Aside0.mk (hbox)
                          have n4_ := Aside0.mk ((by rw [hg]; exact (below_size (by repeat (first | (with_reducible first | exact HB.out | apply below_alloc | apply pw_below_drewN | apply below_drew1 | refine below_set ?_ GE251.out) | exact HB.out))) : w.heap.size ≤ gb266))
                          have n5_ := Aside0.mk ((by rw [hg]; exact (below_size (by repeat (first | (with_reducible first | exact HB.out | apply below_alloc | apply pw_below_drewN | apply below_drew1 | refine below_set ?_ GE251.out) | exact HB.out))) : w.heap.size ≤ gb266))
                          have n6_ := Aside0.mk ((by rw [hg]; exact Nat.ne_of_lt (blk_lt (g := gb251) (o := .cells #[.int .i64 t248, .int .i64 t249] 23 (0, 0)) (by (with_reducible repeat (first | refine blk_drewN ?_ _ | refine blk_drew ?_ | refine blk_alloc ?_ _)); exact BK251.out)) : gb251 ≠ gb266))
                          have n7_ := Aside0.mk ((by rw [hg]; exact Nat.ne_of_gt (blk_lt (g := gb251) (o := .cells #[.int .i64 t248, .int .i64 t249] 23 (0, 0)) (by (with_reducible repeat (first | refine blk_drewN ?_ _ | refine blk_drew ?_ | refine blk_alloc ?_ _)); exact BK251.out)) : gb266 ≠ gb251))
                          clear HO262
                          clear BK251
                          clear HB
                          have HO262 := n0_
                          have BK251 := n1_
                          have HB := n2_
                          have BK266 := n3_
                          have GW266 := n4_
                          have GE266 := n5_
                          have NB251_266 := n6_
                          have NB266_251 := n7_
                          clear n0_ n1_ n2_ n3_ n4_ n5_ n6_ n7_
                          clear hb hbox hg
                          refine hK.out _ _ trivial (fun hHeld => ?_)
                          clear hK K
                          refine norm_ (a' := ?_) ?_ ?_
                          rotate_left
                          · show Act.put _ (some 8) _ = _
                            simp only [Act.put, List.setIfInBounds_toArray, List.set_cons_zero, List.set_cons_succ, i64_w, i32_w]
                            rfl
                          exact norm_ (by first | (simp only [putAll, Act.put, List.setIfInBounds_toArray, List.set_cons_zero, List.set_cons_succ]; done) | (simp only [putAll, Act.put, List.setIfInBounds_toArray, List.set_cons_zero, List.set_cons_succ]; rfl)) (hJ0_4_8_13 (v253, v257, .slice Ao29 y260.length co29, gb266) _ ⟨(by (with_reducible repeat (first | apply Kd.R_alloc | apply Kd.R_drewN | apply Kd.R_drew)); exact HO262.out), (by (with_reducible repeat (first | refine blk_drewN ?_ _ | refine blk_drew ?_ | refine blk_alloc ?_ _)); exact BK251.out), (by (with_reducible repeat (first | refine blk_drewN ?_ _ | refine blk_drew ?_ | refine blk_alloc ?_ _)); exact BK266.out), GW266.out, GE266.out, NB251_266.out, NB266_251.out, (by repeat (first | (with_reducible first | exact HB.out | apply below_alloc | apply pw_below_drewN | apply below_drew1 | refine below_set ?_ GE251.out | refine below_set ?_ GE266.out) | exact HB.out))⟩)
                    · skip
                      rintro ⟨v253, v257, v261, gb266⟩ w29 ⟨h0_, h1_, h2_, h3_, h4_, h5_, h6_, h7_⟩
                      have n0_ : Aside0 (Kd.R (Kd.int .i64) 3 w29 w.heap.size (fun _ => True) v261 y260) := ⟨h0_⟩
                      have n1_ : Aside0 (w29.heap[gb251]? = some (.cells #[.int .i64 t248, .int .i64 t249] 23 (0, 0))) := ⟨h1_⟩
                      have n2_ : Aside0 (w29.heap[gb266]? = some (.cells #[.int .i64 0, .int .i64 0] 23 (0, 0))) := ⟨h2_⟩
                      have n3_ : Aside0 (w.heap.size ≤ gb266) := ⟨h3_⟩
                      have n4_ : Aside0 (w.heap.size ≤ gb266) := ⟨h4_⟩
                      have n5_ : Aside0 (gb251 ≠ gb266) := ⟨h5_⟩
                      have n6_ : Aside0 (gb266 ≠ gb251) := ⟨h6_⟩
                      have n7_ : Aside0 (Below w.heap.size w w29) := ⟨h7_⟩
                      clear BK251
                      clear HB
                      clear h0_ h1_ h2_ h3_ h4_ h5_ h6_ h7_
                      have HO262 := n0_
                      have BK251 := n1_
                      have BK266 := n2_
                      have GW266 := n3_
                      have GE266 := n4_
                      have NB251_266 := n5_
                      have NB266_251 := n6_
                      have HB := n7_
                      clear n0_ n1_ n2_ n3_ n4_ n5_ n6_ n7_
                      have hHeld := trivial
                      obtain ⟨Ao30, co30, eo30⟩ := Kd.R_slice HO262.out
                      (first | subst eo30 | (injection eo30 with f1_ f2_ f3_; have f4_ := f1_.symm; have f5_ := f3_.symm; clear f1_ f2_ f3_; subst f4_; subst f5_))
                      refine norm_ (a' := ?_) ?_ ?_
                      rotate_left
                      · simp only [putAll, Act.put, List.setIfInBounds_toArray, List.set_cons_zero, List.set_cons_succ]
                        rfl
                      refine one_ (i := 9) (N := some 44) #[true, true, true, true, true, true, true, true, true, true, false, false, false, true, false, false] rfl rfl (one_of HT_.out (by kernel_rfl)) (by decide) (fun K hK => ?_)
                      refine goes_ Tryd.func19 (by kernel_rfl) rfl #[.slice Ao30 y260.length co30] (by rfl) rfl rfl (by (try simp only [List.map_toArray, List.map_cons, List.map_nil]); first | done | rfl | (simp only [List.length_drop, List.length_take]; rfl)) ?_
                      with_reducible refine (span_Common.calls _ _ y260 t263 t264 t265 _ ?side1 ?side2 A19.out).mono ?_
                      (case side1 => repeat (first | exact (Kd.R_reads' HO262.out).2.2 | (with_reducible refine Kd.C_alloc ?_ _) | (with_reducible refine Kd.C_drewN ?_ _) | (with_reducible refine Kd.C_drew ?_)))
                      (case side2 => exact (Kd.R_reads' HO262.out).2.1)
                      rintro e w31 ⟨rfl, hb⟩
                      refine ⟨_, rfl, ?_⟩
                      have n0_ := Aside0.mk (Kd.R_below (by (with_reducible repeat (first | apply Kd.R_alloc | apply Kd.R_drewN | apply Kd.R_drew)); exact HO262.out) hb)
                      have n1_ := Aside0.mk (blk_below (g := gb251) (o := .cells #[.int .i64 t248, .int .i64 t249] 23 (0, 0)) (by (with_reducible repeat (first | refine blk_drewN ?_ _ | refine blk_drew ?_ | refine blk_alloc ?_ _)); exact BK251.out) hb)
                      have n2_ := Aside0.mk (blk_below (g := gb266) (o := .cells #[.int .i64 0, .int .i64 0] 23 (0, 0)) (by (with_reducible repeat (first | refine blk_drewN ?_ _ | refine blk_drew ?_ | refine blk_alloc ?_ _)); exact BK266.out) hb)
                      have n3_ := Aside0.mk (below_step (by repeat (first | (with_reducible first | exact HB.out | apply below_alloc | apply pw_below_drewN | apply below_drew1 | refine below_set ?_ GE251.out | refine below_set ?_ GE266.out) | exact HB.out)) hb)
                      clear HO262
                      clear BK251
                      clear BK266
                      clear HB
                      have HO262 := n0_
                      have BK251 := n1_
                      have BK266 := n2_
                      have HB := n3_
                      clear n0_ n1_ n2_ n3_
                      (try clear hb)
                      (try clear hb2)
                      (try clear hk)
                      (try clear hi)
                      refine hK.out _ _ trivial (fun hHeld => ?_)
                      clear hK K
                      refine norm_ (a' := ?_) ?_ ?_
                      rotate_left
                      · show Act.put _ (some 44) _ = _
                        simp only [Act.put, List.setIfInBounds_toArray, List.set_cons_zero, List.set_cons_succ, i64_w, i32_w]
                        rfl
                      refine pure_ (i := 10) (N := some 34) (v := ?_) (a' := ?_) #[true, true, true, true, true, true, true, true, true, true, true, false, false, true, false, false] rfl rfl (any_of HT_.out (by kernel_rfl)) (fun _ _ _ h => h) (Or.inl ⟨by rfl, ?_⟩) ?_ ?_
                      rotate_left
                      · intro w'
                        go_simp
                        with_reducible rfl
                      rotate_left
                      · simp only [Act.put, List.setIfInBounds_toArray, List.set_cons_zero, List.set_cons_succ, i64_w, i32_w]
                        rfl
                      refine pure_ (i := 11) (N := some 45) (v := ?_) (a' := ?_) #[true, true, true, true, true, true, true, true, true, true, true, true, false, true, false, false] rfl rfl (any_of HT_.out (by kernel_rfl)) (fun _ _ _ h => h) (Or.inl ⟨by rfl, ?_⟩) ?_ ?_
                      rotate_left
                      · intro w'
                        go_simp
                        with_reducible rfl
                      rotate_left
                      · simp only [Act.put, List.setIfInBounds_toArray, List.set_cons_zero, List.set_cons_succ, i64_w, i32_w]
                        rfl
                      refine pure_ (i := 12) (N := some 46) (v := ?_) (a' := ?_) #[true, true, true, true, true, true, true, true, true, true, true, true, true, true, false, false] rfl rfl (any_of HT_.out (by kernel_rfl)) (fun _ _ _ h => h) (Or.inl ⟨by rfl, ?_⟩) ?_ ?_
                      rotate_left
                      · intro w'
                        go_simp
                        with_reducible rfl
                      rotate_left
                      · simp only [Act.put, List.setIfInBounds_toArray, List.set_cons_zero, List.set_cons_succ, i64_w, i32_w]
                        rfl
                      exact norm_ (by first | (simp only [putAll, Act.put, List.setIfInBounds_toArray, List.set_cons_zero, List.set_cons_succ]; done) | (simp only [putAll, Act.put, List.setIfInBounds_toArray, List.set_cons_zero, List.set_cons_succ]; rfl)) (hJ0_4_8_9_13 (v253, v257, .slice Ao30 y260.length co30, gb266) _ ⟨(by (with_reducible repeat (first | apply Kd.R_alloc | apply Kd.R_drewN | apply Kd.R_drew)); exact HO262.out), (by (with_reducible repeat (first | refine blk_drewN ?_ _ | refine blk_drew ?_ | refine blk_alloc ?_ _)); exact BK251.out), (by (with_reducible repeat (first | refine blk_drewN ?_ _ | refine blk_drew ?_ | refine blk_alloc ?_ _)); exact BK266.out), GW266.out, GE266.out, NB251_266.out, NB266_251.out, (by repeat (first | (with_reducible first | exact HB.out | apply below_alloc | apply pw_below_drewN | apply below_drew1 | refine below_set ?_ GE251.out | refine below_set ?_ GE266.out) | exact HB.out))⟩)
                  · skip
                    rintro ⟨v253, v257, v261⟩ w30 ⟨h0_, h1_, h2_⟩
                    have n0_ : Aside0 (Kd.R (Kd.int .i64) 3 w30 w.heap.size (fun _ => True) v261 y260) := ⟨h0_⟩
                    have n1_ : Aside0 (w30.heap[gb251]? = some (.cells #[.int .i64 t248, .int .i64 t249] 23 (0, 0))) := ⟨h1_⟩
                    have n2_ : Aside0 (Below w.heap.size w w30) := ⟨h2_⟩
                    clear BK251
                    clear HB
                    clear h0_ h1_ h2_
                    have HO262 := n0_
                    have BK251 := n1_
                    have HB := n2_
                    clear n0_ n1_ n2_
                    have hHeld := trivial
                    refine norm_ (a' := ?_) ?_ ?_
                    rotate_left
                    · simp only [putAll, Act.put, List.setIfInBounds_toArray, List.set_cons_zero, List.set_cons_succ]
                      rfl
                    refine one_ (i := 13) (N := some 8) #[true, true, true, true, true, true, true, true, true, true, true, true, true, true, false, false] rfl rfl (one_of HT_.out (by kernel_rfl)) (by decide) (fun K hK => ?_)
                    refine box_step ?hg (N := 8) ?hd (cs := #[.int .i64 0, .int .i64 0]) (t := 23) ?hr ?_; (case hd => rfl); (case hg => rfl); (case hr => first | (go_simp; done) | (go_simp; rfl))
                    intro gb266 hg w31 hbox hb
                    have n0_ := Aside0.mk (Kd.R_below (by (with_reducible repeat (first | apply Kd.R_alloc | apply Kd.R_drewN | apply Kd.R_drew)); exact HO262.out) hb)
                    have n1_ := Aside0.mk (blk_below (g := gb251) (o := .cells #[.int .i64 t248, .int .i64 t249] 23 (0, 0)) (by (with_reducible repeat (first | refine blk_drewN ?_ _ | refine blk_drew ?_ | refine blk_alloc ?_ _)); exact BK251.out) hb)
                    have n2_ := Aside0.mk (below_step (by repeat (first | (with_reducible first | exact HB.out | apply below_alloc | apply pw_below_drewN | apply below_drew1 | refine below_set ?_ GE251.out) | exact HB.out)) hb)
                    have n3_ := Aside0.mk (hbox)
                    have n4_ := Aside0.mk ((by rw [hg]; exact (below_size (by repeat (first | (with_reducible first | exact HB.out | apply below_alloc | apply pw_below_drewN | apply below_drew1 | refine below_set ?_ GE251.out) | exact HB.out))) : w.heap.size ≤ gb266))
                    have n5_ := Aside0.mk ((by rw [hg]; exact (below_size (by repeat (first | (with_reducible first | exact HB.out | apply below_alloc | apply pw_below_drewN | apply below_drew1 | refine below_set ?_ GE251.out) | exact HB.out))) : w.heap.size ≤ gb266))
                    have n6_ := Aside0.mk ((by rw [hg]; exact Nat.ne_of_lt (blk_lt (g := gb251) (o := .cells #[.int .i64 t248, .int .i64 t249] 23 (0, 0)) (by (with_reducible repeat (first | refine blk_drewN ?_ _ | refine blk_drew ?_ | refine blk_alloc ?_ _)); exact BK251.out)) : gb251 ≠ gb266))
                    have n7_ := Aside0.mk ((by rw [hg]; exact Nat.ne_of_gt (blk_lt (g := gb251) (o := .cells #[.int .i64 t248, .int .i64 t249] 23 (0, 0)) (by (with_reducible repeat (first | refine blk_drewN ?_ _ | refine blk_drew ?_ | refine blk_alloc ?_ _)); exact BK251.out)) : gb266 ≠ gb251))
                    clear HO262
                    clear BK251
                    clear HB
                    have HO262 := n0_
                    have BK251 := n1_
                    have HB := n2_
                    have BK266 := n3_
                    have GW266 := n4_
                    have GE266 := n5_
                    have NB251_266 := n6_
                    have NB266_251 := n7_
                    clear n0_ n1_ n2_ n3_ n4_ n5_ n6_ n7_
                    clear hb hbox hg
                    refine hK.out _ _ trivial (fun hHeld => ?_)
                    clear hK K
                    refine norm_ (a' := ?_) ?_ ?_
                    rotate_left
                    · show Act.put _ (some 8) _ = _
                      simp only [Act.put, List.setIfInBounds_toArray, List.set_cons_zero, List.set_cons_succ, i64_w, i32_w]
                      rfl
                    exact norm_ (by first | (simp only [putAll, Act.put, List.setIfInBounds_toArray, List.set_cons_zero, List.set_cons_succ]; done) | (simp only [putAll, Act.put, List.setIfInBounds_toArray, List.set_cons_zero, List.set_cons_succ]; rfl)) (hJ0_4_8_9_13 (v253, v257, v261, gb266) _ ⟨(by (with_reducible repeat (first | apply Kd.R_alloc | apply Kd.R_drewN | apply Kd.R_drew)); exact HO262.out), (by (with_reducible repeat (first | refine blk_drewN ?_ _ | refine blk_drew ?_ | refine blk_alloc ?_ _)); exact BK251.out), (by (with_reducible repeat (first | refine blk_drewN ?_ _ | refine blk_drew ?_ | refine blk_alloc ?_ _)); exact BK266.out), GW266.out, GE266.out, NB251_266.out, NB266_251.out, (by repeat (first | (with_reducible first | exact HB.out | apply below_alloc | apply pw_below_drewN | apply below_drew1 | refine below_set ?_ GE251.out | refine below_set ?_ GE266.out) | exact HB.out))⟩)
                rintro ⟨v253, v257, v261, gb266⟩ w31 ⟨h0_, h1_, h2_, h3_, h4_, h5_, h6_, h7_⟩
                have n0_ : Aside0 (Kd.R (Kd.int .i64) 3 w31 w.heap.size (fun _ => True) v261 y260) := ⟨h0_⟩
                have n1_ : Aside0 (w31.heap[gb251]? = some (.cells #[.int .i64 t248, .int .i64 t249] 23 (0, 0))) := ⟨h1_⟩
                have n2_ : Aside0 (w31.heap[gb266]? = some (.cells #[.int .i64 0, .int .i64 0] 23 (0, 0))) := ⟨h2_⟩
                have n3_ : Aside0 (w.heap.size ≤ gb266) := ⟨h3_⟩
                have n4_ : Aside0 (w.heap.size ≤ gb266) := ⟨h4_⟩
                have n5_ : Aside0 (gb251 ≠ gb266) := ⟨h5_⟩
                have n6_ : Aside0 (gb266 ≠ gb251) := ⟨h6_⟩
                have n7_ : Aside0 (Below w.heap.size w w31) := ⟨h7_⟩
                clear BK251
                clear HB
                clear h0_ h1_ h2_ h3_ h4_ h5_ h6_ h7_
                have HO262 := n0_
                have BK251 := n1_
                have BK266 := n2_
                have GW266 := n3_
                have GE266 := n4_
                have NB251_266 := n5_
                have NB266_251 := n6_
                have HB := n7_
                clear n0_ n1_ n2_ n3_ n4_ n5_ n6_ n7_
                have hHeld := trivial
                refine norm_ (a' := ?_) ?_ ?_
                rotate_left
                · simp only [putAll, Act.put, List.setIfInBounds_toArray, List.set_cons_zero, List.set_cons_succ]
                  rfl
                refine one_ (i := 14) (N := none) #[true, true, true, true, true, true, true, true, true, true, true, true, true, true, true, false] rfl rfl (one_of HT_.out (by kernel_rfl)) (by decide) (fun K hK => ?_)
                have hs32 : w31.cell? ⟨gb266, 0, none⟩ = some (.int .i64 0) := (blk_cell BK266.out 0).trans rfl
                have hfs32 := blk_frozen BK266.out 0
                have hns32_0 := NB251_266.out
                have hms32_0 := NB266_251.out
                have hs33 : w31.cell? ⟨gb266, 1, none⟩ = some (.int .i64 0) := (blk_cell BK266.out 1).trans rfl
                have hfs33 := blk_frozen BK266.out 1
                have hns33_0 := NB251_266.out
                have hms33_0 := NB266_251.out
                refine skip_ (w1 := ?_) (by rfl) rfl ?_ ?_
                rotate_left
                · go_simp
                  rfl
                refine hK.out _ _ trivial (fun hHeld => ?_)
                clear hK K
                refine pure_ (i := 15) (N := some 9) (v := ?_) (a' := ?_) #[true, true, true, true, true, true, true, true, true, true, true, true, true, true, true, true] rfl rfl (any_of HT_.out (by kernel_rfl)) (fun _ _ _ h => h) (Or.inl ⟨by rfl, ?_⟩) ?_ ?_
                rotate_left
                · intro w'
                  go_simp
                  with_reducible rfl
                rotate_left
                · simp only [Act.put, List.setIfInBounds_toArray, List.set_cons_zero, List.set_cons_succ, i64_w, i32_w]
                  rfl
                refine done_ (done_of HT_.out (by kernel_rfl)) ?_
                go_upto_region 8 with (fail)
                go_cut [54] (fun v54 wc => ∃ (kq : Nat) (x54_19 : Bool), v54 = .bool x54_19 ∧ Aside0 (trommellaw10_SpanCommons.j1 kq l0 t250 x54_19 t248 t249 = some r) ∧ Aside0 (kq ≤ kj5) ∧ Aside0 (wc.heap[gb251]? = some (.cells #[.int .i64 t248, .int .i64 t249] 23 (0, 0))) ∧ Aside0 (wc.heap[gb266]? = some (.cells #[.int .i64 t263, .int .i64 t264] 23 (0, 0))) ∧ Aside0 (Below w.heap.size w wc))
                case first =>
                  have H := HC20.out
                  clear HC20
                  by_cases c34 : (!(t248 == t263) || (!(t249 == t264))) = true
                  · rw [if_pos c34] at H
                    have c34b0 : (!(t248 == t263) || (!(t249 == t264))) = true := c34
                    clear c34
                    (first | rw [c34b0] | (simp only [i64_w, i32_w]; rw [c34b0]) | skip)
                    have H' := Aside0.mk H
                    clear H
                    have hnb35 := NB251_266.out
                    have hnc35 := NB266_251.out
                    have hcz36_0 : w31.cell? ⟨gb251, 0, none⟩ = some (.int .i64 t248) := (blk_cell BK251.out 0).trans rfl
                    have hcz36_1 : w31.cell? ⟨gb251, 1, none⟩ = some (.int .i64 t249) := (blk_cell BK251.out 1).trans rfl
                    have hfz36_0 := blk_frozen BK251.out 0
                    have hfz36_1 := blk_frozen BK251.out 1
                    have hcz37_0 : w31.cell? ⟨gb266, 0, none⟩ = some (.int .i64 0) := (blk_cell BK266.out 0).trans rfl
                    have hcz37_1 : w31.cell? ⟨gb266, 1, none⟩ = some (.int .i64 0) := (blk_cell BK266.out 1).trans rfl
                    have hfz37_0 := blk_frozen BK266.out 0
                    have hfz37_1 := blk_frozen BK266.out 1
                    go_wp2
                    go_meet
                    case rel => exact ⟨_, (true), (by first | rfl | (simp; done) | (simp [*]; done)), H', ⟨by have := HJ5.out; first | omega | exact Nat.le_refl _⟩, ⟨by (with_reducible repeat (first | refine blk_drewN ?_ _ | refine blk_drew ?_ | refine blk_alloc ?_ _)); refine blk_far ?_ NB251_266.out _; (with_reducible repeat (first | refine blk_drewN ?_ _ | refine blk_drew ?_ | refine blk_alloc ?_ _)); refine blk_far ?_ NB251_266.out _; (with_reducible repeat (first | refine blk_drewN ?_ _ | refine blk_drew ?_ | refine blk_alloc ?_ _)); exact BK251.out⟩, ⟨by (with_reducible repeat (first | refine blk_drewN ?_ _ | refine blk_drew ?_ | refine blk_alloc ?_ _)); refine blk_put (cs := #[.int .i64 t263, .int .i64 0]) ?_ 1 _ rfl; (with_reducible repeat (first | refine blk_drewN ?_ _ | refine blk_drew ?_ | refine blk_alloc ?_ _)); refine blk_put (cs := #[.int .i64 0, .int .i64 0]) ?_ 0 _ rfl; (with_reducible repeat (first | refine blk_drewN ?_ _ | refine blk_drew ?_ | refine blk_alloc ?_ _)); exact BK266.out⟩, ⟨by repeat (first | (with_reducible first | exact HB.out | apply below_alloc | apply pw_below_drewN | apply below_drew1 | refine below_set ?_ GE251.out | refine below_set ?_ GE266.out) | exact HB.out)⟩⟩
                  · rw [if_neg c34] at H
                    have c34b0 : (!(t248 == t263) || (!(t249 == t264))) = false := by simpa using c34
                    clear c34
                    (first | rw [c34b0] | (simp only [i64_w, i32_w]; rw [c34b0]) | skip)
                    have H' := Aside0.mk H
                    clear H
                    have hnb38 := NB251_266.out
                    have hnc38 := NB266_251.out
                    have hcz39_0 : w31.cell? ⟨gb251, 0, none⟩ = some (.int .i64 t248) := (blk_cell BK251.out 0).trans rfl
                    have hcz39_1 : w31.cell? ⟨gb251, 1, none⟩ = some (.int .i64 t249) := (blk_cell BK251.out 1).trans rfl
                    have hfz39_0 := blk_frozen BK251.out 0
                    have hfz39_1 := blk_frozen BK251.out 1
                    have hcz40_0 : w31.cell? ⟨gb266, 0, none⟩ = some (.int .i64 0) := (blk_cell BK266.out 0).trans rfl
                    have hcz40_1 : w31.cell? ⟨gb266, 1, none⟩ = some (.int .i64 0) := (blk_cell BK266.out 1).trans rfl
                    have hfz40_0 := blk_frozen BK266.out 0
                    have hfz40_1 := blk_frozen BK266.out 1
                    go_wp2
                    go_meet
                    case rel => exact ⟨_, ((t250 != t265)), (by first | rfl | (simp; done) | (simp [*]; done)), H', ⟨by have := HJ5.out; first | omega | exact Nat.le_refl _⟩, ⟨by (with_reducible repeat (first | refine blk_drewN ?_ _ | refine blk_drew ?_ | refine blk_alloc ?_ _)); refine blk_far ?_ NB251_266.out _; (with_reducible repeat (first | refine blk_drewN ?_ _ | refine blk_drew ?_ | refine blk_alloc ?_ _)); refine blk_far ?_ NB251_266.out _; (with_reducible repeat (first | refine blk_drewN ?_ _ | refine blk_drew ?_ | refine blk_alloc ?_ _)); exact BK251.out⟩, ⟨by (with_reducible repeat (first | refine blk_drewN ?_ _ | refine blk_drew ?_ | refine blk_alloc ?_ _)); refine blk_put (cs := #[.int .i64 t263, .int .i64 0]) ?_ 1 _ rfl; (with_reducible repeat (first | refine blk_drewN ?_ _ | refine blk_drew ?_ | refine blk_alloc ?_ _)); refine blk_put (cs := #[.int .i64 0, .int .i64 0]) ?_ 0 _ rfl; (with_reducible repeat (first | refine blk_drewN ?_ _ | refine blk_drew ?_ | refine blk_alloc ?_ _)); exact BK266.out⟩, ⟨by repeat (first | (with_reducible first | exact HB.out | apply below_alloc | apply pw_below_drewN | apply below_drew1 | refine below_set ?_ GE251.out | refine below_set ?_ GE266.out) | exact HB.out)⟩⟩
                case rest =>
                  clear HC20
                  try clear c1
                  try clear p2
                  try clear c3
                  try clear c15
                  try clear c18
                  try clear c19
                  try clear c34
                  try clear c34b0
                  try clear c35
                  try clear c38
                  try clear hcz36_0
                  try clear hcz36_1
                  try clear hcz37_0
                  try clear hcz37_1
                  try clear hcz39_0
                  try clear hcz39_1
                  try clear hcz40_0
                  try clear hcz40_1
                  try clear hfz36_0
                  try clear hfz36_1
                  try clear hfz37_0
                  try clear hfz37_1
                  try clear hfz39_0
                  try clear hfz39_1
                  try clear hfz40_0
                  try clear hfz40_1
                  obtain ⟨kq, x54_19, rfl, HA, HJ19, BK251, BK266, HB⟩ := hcut
                  cases kq with
                  | zero => exact absurd HA.out (by simp [trommellaw10_SpanCommons.j1])
                  | succ kj19 =>
                    have H := HA.out
                    clear HA
                    simp only [trommellaw10_SpanCommons.j1] at H
                    by_cases c41 : x54_19 = true
                    · subst c41
                      have H1 : (some false) = some r := by rw [if_pos rfl] at H; exact H
                      clear H
                      have H := H1
                      clear H1
                      obtain rfl := Option.some.inj H
                      go_wp2
                      go_ret
                      exact ⟨by first | rfl | (simp [errW_none, errW_some] <;> rfl) | (simp [*, errW_none, errW_some] <;> rfl), by repeat (first | (with_reducible first | exact HB.out | apply below_alloc | apply pw_below_drewN | apply below_drew1 | refine below_set ?_ GE251.out | refine below_set ?_ GE266.out) | exact HB.out)⟩
                    · replace c41 := Bool.eq_false_iff.mpr c41
                      subst c41
                      have H1 : (trommellaw10_SpanCommons.l0 kj19 l0 t250 (decide ((l0.length : Int) > 0)) l0 (l0.length : Int) 0 t248 t249) = some r := by rw [if_neg (show ¬ (false = true) by decide)] at H; exact H
                      clear H
                      have H := H1
                      clear H1
                      have H' := Aside0.mk H
                      clear H
                      go_wp2
                      go_loopg [10, 60] kj19 (fun kq v10 v60 w' => ∃ (x10_3 : Bool) (x60_3 : Int), v10 = .bool x10_3 ∧ v60 = .int .i64 x60_3 ∧ Aside0 (trommellaw10_SpanCommons.l0 kq l0 t250 x10_3 l0 (l0.length : Int) x60_3 t248 t249 = some r) ∧ Aside0 (kq ≤ kj19) ∧ Aside0 (w'.heap[gb251]? = some (.cells #[.int .i64 t248, .int .i64 t249] 23 (0, 0))) ∧ Aside0 (w'.heap[gb266]? = some (.cells #[.int .i64 t263, .int .i64 t264] 23 (0, 0))) ∧ Aside0 (Below w.heap.size w w'))
                      case atStart => exact ⟨(decide ((l0.length : Int) > 0)), (0), (by first | rfl | (simp; done) | (simp [*]; done)), (by first | rfl | (simp; done) | (simp [*]; done)), H', ⟨Nat.le_refl _⟩, ⟨by (with_reducible repeat (first | refine blk_drewN ?_ _ | refine blk_drew ?_ | refine blk_alloc ?_ _)); exact BK251.out⟩, ⟨by (with_reducible repeat (first | refine blk_drewN ?_ _ | refine blk_drew ?_ | refine blk_alloc ?_ _)); exact BK266.out⟩, ⟨by repeat (first | (with_reducible first | exact HB.out | apply below_alloc | apply pw_below_drewN | apply below_drew1 | refine below_set ?_ GE251.out | refine below_set ?_ GE266.out) | exact HB.out)⟩⟩
                      case round =>
                        clear H'
                        try clear c1
                        try clear p2
                        try clear c3
                        try clear c4
                        try clear c15
                        try clear c18
                        try clear c19
                        try clear c34
                        try clear c34b0
                        try clear c35
                        try clear c38
                        try clear c41
                        try clear hcz36_0
                        try clear hcz36_1
                        try clear hcz37_0
                        try clear hcz37_1
                        try clear hcz39_0
                        try clear hcz39_1
                        try clear hcz40_0
                        try clear hcz40_1
                        try clear hfz36_0
                        try clear hfz36_1
                        try clear hfz37_0
                        try clear hfz37_1
                        try clear hfz39_0
                        try clear hfz39_1
                        try clear hfz40_0
                        try clear hfz40_1
                        try clear p2
                        obtain ⟨x10_3, x60_3, rfl, rfl, HA, HK3, BK251, BK266, HB⟩ := hrel
                        cases gk with
                        | zero => exact absurd HA.out (by simp [trommellaw10_SpanCommons.l0])
                        | succ k3 =>
                          have H := HA.out
                          clear HA
                          simp only [trommellaw10_SpanCommons.l0] at H
                          by_cases c42 : x60_3 < (l0.length : Int)
                          · rw [if_pos c42] at H
                            have c42b0 : decide (x60_3 < (l0.length : Int)) = true := decide_eq_true c42
                            clear c42
                            by_cases c43 : 0 ≤ x60_3
                            · rw [if_pos c43] at H
                              have c43b0 : decide (0 ≤ x60_3) = true := decide_eq_true c43
                              clear c43
                              by_cases c44 : x60_3 < (l0.length : Int)
                              · rw [if_pos c44] at H
                                have c44b0 : decide (x60_3 < (l0.length : Int)) = true := decide_eq_true c44
                                clear c44
                                by_cases c45 : x10_3 = true
                                · subst c45
                                  have H1 : (if (rd l0 x60_3) ≥ (-2147483648) then (trommellaw10_SpanCommons.l0 k3 l0 t250 (decide ((rd l0 x60_3) ≤ 2147483647)) l0 (l0.length : Int) (wrap64 (x60_3 + 1)) t248 t249) else (trommellaw10_SpanCommons.l0 k3 l0 t250 false l0 (l0.length : Int) (wrap64 (x60_3 + 1)) t248 t249)) = some r := by rw [if_pos rfl] at H; exact H
                                  clear H
                                  have H := H1
                                  clear H1
                                  by_cases c46 : (rd l0 x60_3) ≥ (-2147483648)
                                  · rw [if_pos c46] at H
                                    have c46b0 : decide ((-2147483648) ≤ (rd l0 x60_3)) = true := decide_eq_true c46
                                    clear c46
                                    have H' := Aside0.mk H
                                    clear H
                                    have p267 : 0 ≤ (x60_3 : Int) := of_decide_eq_true (by first | (with_reducible assumption) | assumption)
                                    have q267 : x60_3 < (l0.length : Int) := of_decide_eq_true (by first | (with_reducible assumption) | assumption)
                                    obtain ⟨ad267, e267, hx267_0⟩ := Kd.at_int HR0.out x60_3 p267 q267
                                    cases e267
                                    replace hx267_0 := (HB.out.cell (World.block_lt_of_cell? w _ hx267_0)).trans hx267_0
                                    replace p267 := eq_true p267
                                    replace q267 := eq_true q267
                                    go_wp2
                                    go_roundg k3
                                    case measure => have := HJ5.out; have := HJ19.out; have := HK3.out; omega
                                    case rel => exact ⟨(decide ((rd l0 x60_3) ≤ 2147483647)), (wrap64 (x60_3 + 1)), (by first | rfl | (simp; done) | (simp [*]; done)), (by first | rfl | (simp; done) | (simp [*]; done)), H', ⟨by have := HJ5.out; have := HJ19.out; have := HK3.out; omega⟩, ⟨by (with_reducible repeat (first | refine blk_drewN ?_ _ | refine blk_drew ?_ | refine blk_alloc ?_ _)); exact BK251.out⟩, ⟨by (with_reducible repeat (first | refine blk_drewN ?_ _ | refine blk_drew ?_ | refine blk_alloc ?_ _)); exact BK266.out⟩, ⟨by repeat (first | (with_reducible first | exact HB.out | apply below_alloc | apply pw_below_drewN | apply below_drew1 | refine below_set ?_ GE251.out | refine below_set ?_ GE266.out) | exact HB.out)⟩⟩
                                  · rw [if_neg c46] at H
                                    have c46b0 : decide ((-2147483648) ≤ (rd l0 x60_3)) = false := decide_eq_false c46
                                    clear c46
                                    have H' := Aside0.mk H
                                    clear H
                                    have p267 : 0 ≤ (x60_3 : Int) := of_decide_eq_true (by first | (with_reducible assumption) | assumption)
                                    have q267 : x60_3 < (l0.length : Int) := of_decide_eq_true (by first | (with_reducible assumption) | assumption)
                                    obtain ⟨ad267, e267, hx267_0⟩ := Kd.at_int HR0.out x60_3 p267 q267
                                    cases e267
                                    replace hx267_0 := (HB.out.cell (World.block_lt_of_cell? w _ hx267_0)).trans hx267_0
                                    replace p267 := eq_true p267
                                    replace q267 := eq_true q267
                                    go_wp2
                                    go_roundg k3
                                    case measure => have := HJ5.out; have := HJ19.out; have := HK3.out; omega
                                    case rel => exact ⟨(false), (wrap64 (x60_3 + 1)), (by first | rfl | (simp; done) | (simp [*]; done)), (by first | rfl | (simp; done) | (simp [*]; done)), H', ⟨by have := HJ5.out; have := HJ19.out; have := HK3.out; omega⟩, ⟨by (with_reducible repeat (first | refine blk_drewN ?_ _ | refine blk_drew ?_ | refine blk_alloc ?_ _)); exact BK251.out⟩, ⟨by (with_reducible repeat (first | refine blk_drewN ?_ _ | refine blk_drew ?_ | refine blk_alloc ?_ _)); exact BK266.out⟩, ⟨by repeat (first | (with_reducible first | exact HB.out | apply below_alloc | apply pw_below_drewN | apply below_drew1 | refine below_set ?_ GE251.out | refine below_set ?_ GE266.out) | exact HB.out)⟩⟩
                                · replace c45 := Bool.eq_false_iff.mpr c45
                                  subst c45
                                  have H1 : (trommellaw10_SpanCommons.l0 k3 l0 t250 false l0 (l0.length : Int) (wrap64 (x60_3 + 1)) t248 t249) = some r := by rw [if_neg (show ¬ (false = true) by decide)] at H; exact H
                                  clear H
                                  have H := H1
                                  clear H1
                                  have H' := Aside0.mk H
                                  clear H
                                  have p267 : 0 ≤ (x60_3 : Int) := of_decide_eq_true (by first | (with_reducible assumption) | assumption)
                                  have q267 : x60_3 < (l0.length : Int) := of_decide_eq_true (by first | (with_reducible assumption) | assumption)
                                  obtain ⟨ad267, e267, hx267_0⟩ := Kd.at_int HR0.out x60_3 p267 q267
                                  cases e267
                                  replace hx267_0 := (HB.out.cell (World.block_lt_of_cell? w _ hx267_0)).trans hx267_0
                                  replace p267 := eq_true p267
                                  replace q267 := eq_true q267
                                  go_wp2
                                  go_roundg k3
                                  case measure => have := HJ5.out; have := HJ19.out; have := HK3.out; omega
                                  case rel => exact ⟨(false), (wrap64 (x60_3 + 1)), (by first | rfl | (simp; done) | (simp [*]; done)), (by first | rfl | (simp; done) | (simp [*]; done)), H', ⟨by have := HJ5.out; have := HJ19.out; have := HK3.out; omega⟩, ⟨by (with_reducible repeat (first | refine blk_drewN ?_ _ | refine blk_drew ?_ | refine blk_alloc ?_ _)); exact BK251.out⟩, ⟨by (with_reducible repeat (first | refine blk_drewN ?_ _ | refine blk_drew ?_ | refine blk_alloc ?_ _)); exact BK266.out⟩, ⟨by repeat (first | (with_reducible first | exact HB.out | apply below_alloc | apply pw_below_drewN | apply below_drew1 | refine below_set ?_ GE251.out | refine below_set ?_ GE266.out) | exact HB.out)⟩⟩
                              · rw [if_neg c44] at H
                                exact absurd H (by simp)
                            · rw [if_neg c43] at H
                              exact absurd H (by simp)
                          · rw [if_neg c42] at H
                            have c42b0 : decide (x60_3 < (l0.length : Int)) = false := decide_eq_false c42
                            clear c42
                            by_cases c47 : x10_3 = true
                            · subst c47
                              have H1 : (trommellaw10_SpanCommons.l1 k3 t250 0 0 l0 (l0.length : Int) 0 t248 t249) = some r := by rw [if_pos rfl] at H; exact H
                              clear H
                              have H := H1
                              clear H1
                              have H' := Aside0.mk H
                              clear H
                              go_wp2
                              go_loopg [13, 14, 85] k3 (fun kq v13 v14 v85 w' => ∃ (x13_4 : Int) (x14_4 : Int) (x85_4 : Int), v13 = .int .i64 x13_4 ∧ v14 = .int .i64 x14_4 ∧ v85 = .int .i64 x85_4 ∧ Aside0 (trommellaw10_SpanCommons.l1 kq t250 x13_4 x14_4 l0 (l0.length : Int) x85_4 t248 t249 = some r) ∧ Aside0 (kq ≤ k3) ∧ Aside0 (w'.heap[gb251]? = some (.cells #[.int .i64 t248, .int .i64 t249] 23 (0, 0))) ∧ Aside0 (w'.heap[gb266]? = some (.cells #[.int .i64 t263, .int .i64 t264] 23 (0, 0))) ∧ Aside0 (Below w.heap.size w w'))
                              case atStart => exact ⟨(0), (0), (0), (by first | rfl | (simp; done) | (simp [*]; done)), (by first | rfl | (simp; done) | (simp [*]; done)), (by first | rfl | (simp; done) | (simp [*]; done)), H', ⟨Nat.le_refl _⟩, ⟨by (with_reducible repeat (first | refine blk_drewN ?_ _ | refine blk_drew ?_ | refine blk_alloc ?_ _)); exact BK251.out⟩, ⟨by (with_reducible repeat (first | refine blk_drewN ?_ _ | refine blk_drew ?_ | refine blk_alloc ?_ _)); exact BK266.out⟩, ⟨by repeat (first | (with_reducible first | exact HB.out | apply below_alloc | apply pw_below_drewN | apply below_drew1 | refine below_set ?_ GE251.out | refine below_set ?_ GE266.out) | exact HB.out)⟩⟩
                              case round =>
                                clear H'
                                try clear c1
                                try clear p2
                                try clear q2
                                try clear hx2
                                try clear c3
                                try clear c4
                                try clear p6
                                try clear c15
                                try clear c18
                                try clear c19
                                try clear p26
                                try clear q26
                                try clear hx26
                                try clear c34
                                try clear c34b0
                                try clear c35
                                try clear c38
                                try clear c41
                                try clear c42
                                try clear c42b0
                                try clear c43
                                try clear c43b0
                                try clear c44
                                try clear c44b0
                                try clear c45
                                try clear c46
                                try clear c46b0
                                try clear c47
                                try clear hcz36_0
                                try clear hcz36_1
                                try clear hcz37_0
                                try clear hcz37_1
                                try clear hcz39_0
                                try clear hcz39_1
                                try clear hcz40_0
                                try clear hcz40_1
                                try clear hfz36_0
                                try clear hfz36_1
                                try clear hfz37_0
                                try clear hfz37_1
                                try clear hfz39_0
                                try clear hfz39_1
                                try clear hfz40_0
                                try clear hfz40_1
                                try clear hx267_0
                                try clear p2
                                try clear p267
                                try clear q267
                                obtain ⟨x13_4, x14_4, x85_4, rfl, rfl, rfl, HA, HK4, BK251, BK266, HB⟩ := hrel
                                cases gk with
                                | zero => exact absurd HA.out (by simp [trommellaw10_SpanCommons.l1])
                                | succ k4 =>
                                  have H := HA.out
                                  clear HA
                                  simp only [trommellaw10_SpanCommons.l1] at H
                                  by_cases c48 : x85_4 < (l0.length : Int)
                                  · rw [if_pos c48] at H
                                    have c48b0 : decide (x85_4 < (l0.length : Int)) = true := decide_eq_true c48
                                    clear c48
                                    by_cases c49 : 0 ≤ x85_4
                                    · rw [if_pos c49] at H
                                      have c49b0 : decide (0 ≤ x85_4) = true := decide_eq_true c49
                                      clear c49
                                      by_cases c50 : x85_4 < (l0.length : Int)
                                      · rw [if_pos c50] at H
                                        have c50b0 : decide (x85_4 < (l0.length : Int)) = true := decide_eq_true c50
                                        clear c50
                                        replace H := Option.bind_eq_some_iff.mp H
                                        obtain ⟨t269, A510, H⟩ := H
                                        replace H : (if t269 = true then (if t248 > 0 then ((span_Has.f (wrap64 (t248 - 1)) (wrap64 (2 * t249)) (rd l0 x85_4)).bind fun t270 => (if t270 = true then (trommellaw10_SpanCommons.l1 k4 t250 (wrap64 (x13_4 + 1)) x14_4 l0 (l0.length : Int) (wrap64 (x85_4 + 1)) t248 t249) else (trommellaw10_SpanCommons.l1 k4 t250 x13_4 (wrap64 (x14_4 + 1)) l0 (l0.length : Int) (wrap64 (x85_4 + 1)) t248 t249))) else (trommellaw10_SpanCommons.l1 k4 t250 x13_4 (wrap64 (x14_4 + 1)) l0 (l0.length : Int) (wrap64 (x85_4 + 1)) t248 t249)) else (some false)) = some r := H
                                        have A51 := Aside0.mk A510
                                        clear A510
                                        by_cases c52 : t269 = true
                                        · subst c52
                                          have H1 : (if t248 > 0 then ((span_Has.f (wrap64 (t248 - 1)) (wrap64 (2 * t249)) (rd l0 x85_4)).bind fun t270 => (if t270 = true then (trommellaw10_SpanCommons.l1 k4 t250 (wrap64 (x13_4 + 1)) x14_4 l0 (l0.length : Int) (wrap64 (x85_4 + 1)) t248 t249) else (trommellaw10_SpanCommons.l1 k4 t250 x13_4 (wrap64 (x14_4 + 1)) l0 (l0.length : Int) (wrap64 (x85_4 + 1)) t248 t249))) else (trommellaw10_SpanCommons.l1 k4 t250 x13_4 (wrap64 (x14_4 + 1)) l0 (l0.length : Int) (wrap64 (x85_4 + 1)) t248 t249)) = some r := by rw [if_pos rfl] at H; exact H
                                          clear H
                                          have H := H1
                                          clear H1
                                          by_cases c53 : t248 > 0
                                          · rw [if_pos c53] at H
                                            have c53b0 : decide (0 < t248) = true := decide_eq_true c53
                                            clear c53
                                            replace H := Option.bind_eq_some_iff.mp H
                                            obtain ⟨t270, A540, H⟩ := H
                                            replace H : (if t270 = true then (trommellaw10_SpanCommons.l1 k4 t250 (wrap64 (x13_4 + 1)) x14_4 l0 (l0.length : Int) (wrap64 (x85_4 + 1)) t248 t249) else (trommellaw10_SpanCommons.l1 k4 t250 x13_4 (wrap64 (x14_4 + 1)) l0 (l0.length : Int) (wrap64 (x85_4 + 1)) t248 t249)) = some r := H
                                            have A54 := Aside0.mk A540
                                            clear A540
                                            by_cases c55 : t270 = true
                                            · subst c55
                                              have H1 : (trommellaw10_SpanCommons.l1 k4 t250 (wrap64 (x13_4 + 1)) x14_4 l0 (l0.length : Int) (wrap64 (x85_4 + 1)) t248 t249) = some r := by rw [if_pos rfl] at H; exact H
                                              clear H
                                              have H := H1
                                              clear H1
                                              have H' := Aside0.mk H
                                              clear H
                                              have p268 : 0 ≤ (x85_4 : Int) := of_decide_eq_true (by first | (with_reducible assumption) | assumption)
                                              have q268 : x85_4 < (l0.length : Int) := of_decide_eq_true (by first | (with_reducible assumption) | assumption)
                                              obtain ⟨ad268, e268, hx268_0⟩ := Kd.at_int HR0.out x85_4 p268 q268
                                              cases e268
                                              replace hx268_0 := (HB.out.cell (World.block_lt_of_cell? w _ hx268_0)).trans hx268_0
                                              replace p268 := eq_true p268
                                              replace q268 := eq_true q268
                                              have hnb56 := NB251_266.out
                                              have hnc56 := NB266_251.out
                                              have hcz57_0 : wr.cell? ⟨gb251, 0, none⟩ = some (.int .i64 t248) := (blk_cell BK251.out 0).trans rfl
                                              have hcz57_1 : wr.cell? ⟨gb251, 1, none⟩ = some (.int .i64 t249) := (blk_cell BK251.out 1).trans rfl
                                              have hfz57_0 := blk_frozen BK251.out 0
                                              have hfz57_1 := blk_frozen BK251.out 1
                                              go_wp2_with (first | ((with_reducible refine gate_callee (f := 16) rfl ?_); refine goesL_ (some 91) rfl rfl Tryd.func16 (by kernel_rfl) rfl #[.agg #[.int .i64 t248, .int .i64 t249], .int .i64 (rd l0 x85_4)] rfl (by (try simp only [List.map_toArray, List.map_cons, List.map_nil]); first | done | rfl | (simp only [List.length_drop, List.length_take]; rfl)) ?_; (with_reducible refine (span_Has.calls t248 t249 (rd l0 x85_4) true _ A51.out).mono ?_); rintro e w58 ⟨rfl, hb⟩; refine ⟨_, rfl, ?_⟩; have n0_ := Aside0.mk (blk_below (g := gb251) (o := .cells #[.int .i64 t248, .int .i64 t249] 23 (0, 0)) (by (with_reducible repeat (first | refine blk_drewN ?_ _ | refine blk_drew ?_ | refine blk_alloc ?_ _)); exact BK251.out) hb); have n1_ := Aside0.mk (blk_below (g := gb266) (o := .cells #[.int .i64 t263, .int .i64 t264] 23 (0, 0)) (by (with_reducible repeat (first | refine blk_drewN ?_ _ | refine blk_drew ?_ | refine blk_alloc ?_ _)); exact BK266.out) hb); have n2_ := Aside0.mk (below_step (by repeat (first | (with_reducible first | exact HB.out | apply below_alloc | apply pw_below_drewN | apply below_drew1 | refine below_set ?_ GE251.out | refine below_set ?_ GE266.out) | exact HB.out)) hb); clear BK251; clear BK266; clear HB; have BK251 := n0_; have BK266 := n1_; have HB := n2_; clear n0_ n1_ n2_; (try clear hb); (try clear hb2); (try clear hk); (try clear hi); have hcz59_0 : w58.cell? ⟨gb251, 0, none⟩ = some (.int .i64 t248) := (blk_cell BK251.out 0).trans rfl; have hcz59_1 : w58.cell? ⟨gb251, 1, none⟩ = some (.int .i64 t249) := (blk_cell BK251.out 1).trans rfl; have hfz59_0 := blk_frozen BK251.out 0; have hfz59_1 := blk_frozen BK251.out 1) | (go_at_call 16; (with_reducible refine (span_Has.calls (wrap64 (t248 - 1)) (wrap64 (2 * t249)) (rd l0 x85_4) true _ A54.out).mono ?_); rintro e w60 ⟨rfl, hb⟩; have n0_ := Aside0.mk (blk_below (g := gb251) (o := .cells #[.int .i64 t248, .int .i64 t249] 23 (0, 0)) (by (with_reducible repeat (first | refine blk_drewN ?_ _ | refine blk_drew ?_ | refine blk_alloc ?_ _)); exact BK251.out) hb); have n1_ := Aside0.mk (blk_below (g := gb266) (o := .cells #[.int .i64 t263, .int .i64 t264] 23 (0, 0)) (by (with_reducible repeat (first | refine blk_drewN ?_ _ | refine blk_drew ?_ | refine blk_alloc ?_ _)); exact BK266.out) hb); have n2_ := Aside0.mk (below_step (by repeat (first | (with_reducible first | exact HB.out | apply below_alloc | apply pw_below_drewN | apply below_drew1 | refine below_set ?_ GE251.out | refine below_set ?_ GE266.out) | exact HB.out)) hb); clear BK251; clear BK266; clear HB; have BK251 := n0_; have BK266 := n1_; have HB := n2_; clear n0_ n1_ n2_; (try clear hb); (try clear hb2); (try clear hk); (try clear hi)))
                                              go_roundg k4
                                              case measure => have := HJ5.out; have := HJ19.out; have := HK3.out; have := HK4.out; omega
                                              case rel => exact ⟨(wrap64 (x13_4 + 1)), (x14_4), (wrap64 (x85_4 + 1)), (by first | rfl | (simp; done) | (simp [*]; done)), (by first | rfl | (simp; done) | (simp [*]; done)), (by first | rfl | (simp; done) | (simp [*]; done)), H', ⟨by have := HJ5.out; have := HJ19.out; have := HK3.out; have := HK4.out; omega⟩, ⟨by (with_reducible repeat (first | refine blk_drewN ?_ _ | refine blk_drew ?_ | refine blk_alloc ?_ _)); exact BK251.out⟩, ⟨by (with_reducible repeat (first | refine blk_drewN ?_ _ | refine blk_drew ?_ | refine blk_alloc ?_ _)); exact BK266.out⟩, ⟨by repeat (first | (with_reducible first | exact HB.out | apply below_alloc | apply pw_below_drewN | apply below_drew1 | refine below_set ?_ GE251.out | refine below_set ?_ GE266.out) | exact HB.out)⟩⟩
                                            · replace c55 := Bool.eq_false_iff.mpr c55
                                              subst c55
                                              have H1 : (trommellaw10_SpanCommons.l1 k4 t250 x13_4 (wrap64 (x14_4 + 1)) l0 (l0.length : Int) (wrap64 (x85_4 + 1)) t248 t249) = some r := by rw [if_neg (show ¬ (false = true) by decide)] at H; exact H
                                              clear H
                                              have H := H1
                                              clear H1
                                              have H' := Aside0.mk H
                                              clear H
                                              have p268 : 0 ≤ (x85_4 : Int) := of_decide_eq_true (by first | (with_reducible assumption) | assumption)
                                              have q268 : x85_4 < (l0.length : Int) := of_decide_eq_true (by first | (with_reducible assumption) | assumption)
                                              obtain ⟨ad268, e268, hx268_0⟩ := Kd.at_int HR0.out x85_4 p268 q268
                                              cases e268
                                              replace hx268_0 := (HB.out.cell (World.block_lt_of_cell? w _ hx268_0)).trans hx268_0
                                              replace p268 := eq_true p268
                                              replace q268 := eq_true q268
                                              have hnb61 := NB251_266.out
                                              have hnc61 := NB266_251.out
                                              have hcz62_0 : wr.cell? ⟨gb251, 0, none⟩ = some (.int .i64 t248) := (blk_cell BK251.out 0).trans rfl
                                              have hcz62_1 : wr.cell? ⟨gb251, 1, none⟩ = some (.int .i64 t249) := (blk_cell BK251.out 1).trans rfl
                                              have hfz62_0 := blk_frozen BK251.out 0
                                              have hfz62_1 := blk_frozen BK251.out 1
                                              go_wp2_with (first | ((with_reducible refine gate_callee (f := 16) rfl ?_); refine goesL_ (some 91) rfl rfl Tryd.func16 (by kernel_rfl) rfl #[.agg #[.int .i64 t248, .int .i64 t249], .int .i64 (rd l0 x85_4)] rfl (by (try simp only [List.map_toArray, List.map_cons, List.map_nil]); first | done | rfl | (simp only [List.length_drop, List.length_take]; rfl)) ?_; (with_reducible refine (span_Has.calls t248 t249 (rd l0 x85_4) true _ A51.out).mono ?_); rintro e w63 ⟨rfl, hb⟩; refine ⟨_, rfl, ?_⟩; have n0_ := Aside0.mk (blk_below (g := gb251) (o := .cells #[.int .i64 t248, .int .i64 t249] 23 (0, 0)) (by (with_reducible repeat (first | refine blk_drewN ?_ _ | refine blk_drew ?_ | refine blk_alloc ?_ _)); exact BK251.out) hb); have n1_ := Aside0.mk (blk_below (g := gb266) (o := .cells #[.int .i64 t263, .int .i64 t264] 23 (0, 0)) (by (with_reducible repeat (first | refine blk_drewN ?_ _ | refine blk_drew ?_ | refine blk_alloc ?_ _)); exact BK266.out) hb); have n2_ := Aside0.mk (below_step (by repeat (first | (with_reducible first | exact HB.out | apply below_alloc | apply pw_below_drewN | apply below_drew1 | refine below_set ?_ GE251.out | refine below_set ?_ GE266.out) | exact HB.out)) hb); clear BK251; clear BK266; clear HB; have BK251 := n0_; have BK266 := n1_; have HB := n2_; clear n0_ n1_ n2_; (try clear hb); (try clear hb2); (try clear hk); (try clear hi); have hcz64_0 : w63.cell? ⟨gb251, 0, none⟩ = some (.int .i64 t248) := (blk_cell BK251.out 0).trans rfl; have hcz64_1 : w63.cell? ⟨gb251, 1, none⟩ = some (.int .i64 t249) := (blk_cell BK251.out 1).trans rfl; have hfz64_0 := blk_frozen BK251.out 0; have hfz64_1 := blk_frozen BK251.out 1) | (go_at_call 16; (with_reducible refine (span_Has.calls (wrap64 (t248 - 1)) (wrap64 (2 * t249)) (rd l0 x85_4) false _ A54.out).mono ?_); rintro e w65 ⟨rfl, hb⟩; have n0_ := Aside0.mk (blk_below (g := gb251) (o := .cells #[.int .i64 t248, .int .i64 t249] 23 (0, 0)) (by (with_reducible repeat (first | refine blk_drewN ?_ _ | refine blk_drew ?_ | refine blk_alloc ?_ _)); exact BK251.out) hb); have n1_ := Aside0.mk (blk_below (g := gb266) (o := .cells #[.int .i64 t263, .int .i64 t264] 23 (0, 0)) (by (with_reducible repeat (first | refine blk_drewN ?_ _ | refine blk_drew ?_ | refine blk_alloc ?_ _)); exact BK266.out) hb); have n2_ := Aside0.mk (below_step (by repeat (first | (with_reducible first | exact HB.out | apply below_alloc | apply pw_below_drewN | apply below_drew1 | refine below_set ?_ GE251.out | refine below_set ?_ GE266.out) | exact HB.out)) hb); clear BK251; clear BK266; clear HB; have BK251 := n0_; have BK266 := n1_; have HB := n2_; clear n0_ n1_ n2_; (try clear hb); (try clear hb2); (try clear hk); (try clear hi)))
                                              go_roundg k4
                                              case measure => have := HJ5.out; have := HJ19.out; have := HK3.out; have := HK4.out; omega
                                              case rel => exact ⟨(x13_4), (wrap64 (x14_4 + 1)), (wrap64 (x85_4 + 1)), (by first | rfl | (simp; done) | (simp [*]; done)), (by first | rfl | (simp; done) | (simp [*]; done)), (by first | rfl | (simp; done) | (simp [*]; done)), H', ⟨by have := HJ5.out; have := HJ19.out; have := HK3.out; have := HK4.out; omega⟩, ⟨by (with_reducible repeat (first | refine blk_drewN ?_ _ | refine blk_drew ?_ | refine blk_alloc ?_ _)); exact BK251.out⟩, ⟨by (with_reducible repeat (first | refine blk_drewN ?_ _ | refine blk_drew ?_ | refine blk_alloc ?_ _)); exact BK266.out⟩, ⟨by repeat (first | (with_reducible first | exact HB.out | apply below_alloc | apply pw_below_drewN | apply below_drew1 | refine below_set ?_ GE251.out | refine below_set ?_ GE266.out) | exact HB.out)⟩⟩
                                          · rw [if_neg c53] at H
                                            have c53b0 : decide (0 < t248) = false := decide_eq_false c53
                                            clear c53
                                            have H' := Aside0.mk H
                                            clear H
                                            have p268 : 0 ≤ (x85_4 : Int) := of_decide_eq_true (by first | (with_reducible assumption) | assumption)
                                            have q268 : x85_4 < (l0.length : Int) := of_decide_eq_true (by first | (with_reducible assumption) | assumption)
                                            obtain ⟨ad268, e268, hx268_0⟩ := Kd.at_int HR0.out x85_4 p268 q268
                                            cases e268
                                            replace hx268_0 := (HB.out.cell (World.block_lt_of_cell? w _ hx268_0)).trans hx268_0
                                            replace p268 := eq_true p268
                                            replace q268 := eq_true q268
                                            have hnb66 := NB251_266.out
                                            have hnc66 := NB266_251.out
                                            have hcz67_0 : wr.cell? ⟨gb251, 0, none⟩ = some (.int .i64 t248) := (blk_cell BK251.out 0).trans rfl
                                            have hcz67_1 : wr.cell? ⟨gb251, 1, none⟩ = some (.int .i64 t249) := (blk_cell BK251.out 1).trans rfl
                                            have hfz67_0 := blk_frozen BK251.out 0
                                            have hfz67_1 := blk_frozen BK251.out 1
                                            go_wp2_with (first | ((with_reducible refine gate_callee (f := 16) rfl ?_); refine goesL_ (some 91) rfl rfl Tryd.func16 (by kernel_rfl) rfl #[.agg #[.int .i64 t248, .int .i64 t249], .int .i64 (rd l0 x85_4)] rfl (by (try simp only [List.map_toArray, List.map_cons, List.map_nil]); first | done | rfl | (simp only [List.length_drop, List.length_take]; rfl)) ?_; (with_reducible refine (span_Has.calls t248 t249 (rd l0 x85_4) true _ A51.out).mono ?_); rintro e w68 ⟨rfl, hb⟩; refine ⟨_, rfl, ?_⟩; have n0_ := Aside0.mk (blk_below (g := gb251) (o := .cells #[.int .i64 t248, .int .i64 t249] 23 (0, 0)) (by (with_reducible repeat (first | refine blk_drewN ?_ _ | refine blk_drew ?_ | refine blk_alloc ?_ _)); exact BK251.out) hb); have n1_ := Aside0.mk (blk_below (g := gb266) (o := .cells #[.int .i64 t263, .int .i64 t264] 23 (0, 0)) (by (with_reducible repeat (first | refine blk_drewN ?_ _ | refine blk_drew ?_ | refine blk_alloc ?_ _)); exact BK266.out) hb); have n2_ := Aside0.mk (below_step (by repeat (first | (with_reducible first | exact HB.out | apply below_alloc | apply pw_below_drewN | apply below_drew1 | refine below_set ?_ GE251.out | refine below_set ?_ GE266.out) | exact HB.out)) hb); clear BK251; clear BK266; clear HB; have BK251 := n0_; have BK266 := n1_; have HB := n2_; clear n0_ n1_ n2_; (try clear hb); (try clear hb2); (try clear hk); (try clear hi); have hcz69_0 : w68.cell? ⟨gb251, 0, none⟩ = some (.int .i64 t248) := (blk_cell BK251.out 0).trans rfl; have hcz69_1 : w68.cell? ⟨gb251, 1, none⟩ = some (.int .i64 t249) := (blk_cell BK251.out 1).trans rfl; have hfz69_0 := blk_frozen BK251.out 0; have hfz69_1 := blk_frozen BK251.out 1))
                                            go_roundg k4
                                            case measure => have := HJ5.out; have := HJ19.out; have := HK3.out; have := HK4.out; omega
                                            case rel => exact ⟨(x13_4), (wrap64 (x14_4 + 1)), (wrap64 (x85_4 + 1)), (by first | rfl | (simp; done) | (simp [*]; done)), (by first | rfl | (simp; done) | (simp [*]; done)), (by first | rfl | (simp; done) | (simp [*]; done)), H', ⟨by have := HJ5.out; have := HJ19.out; have := HK3.out; have := HK4.out; omega⟩, ⟨by (with_reducible repeat (first | refine blk_drewN ?_ _ | refine blk_drew ?_ | refine blk_alloc ?_ _)); exact BK251.out⟩, ⟨by (with_reducible repeat (first | refine blk_drewN ?_ _ | refine blk_drew ?_ | refine blk_alloc ?_ _)); exact BK266.out⟩, ⟨by repeat (first | (with_reducible first | exact HB.out | apply below_alloc | apply pw_below_drewN | apply below_drew1 | refine below_set ?_ GE251.out | refine below_set ?_ GE266.out) | exact HB.out)⟩⟩
                                        · replace c52 := Bool.eq_false_iff.mpr c52
                                          subst c52
                                          have H1 : (some false) = some r := by rw [if_neg (show ¬ (false = true) by decide)] at H; exact H
                                          clear H
                                          have H := H1
                                          clear H1
                                          obtain rfl := Option.some.inj H
                                          have p268 : 0 ≤ (x85_4 : Int) := of_decide_eq_true (by first | (with_reducible assumption) | assumption)
                                          have q268 : x85_4 < (l0.length : Int) := of_decide_eq_true (by first | (with_reducible assumption) | assumption)
                                          obtain ⟨ad268, e268, hx268_0⟩ := Kd.at_int HR0.out x85_4 p268 q268
                                          cases e268
                                          replace hx268_0 := (HB.out.cell (World.block_lt_of_cell? w _ hx268_0)).trans hx268_0
                                          replace p268 := eq_true p268
                                          replace q268 := eq_true q268
                                          have hnb70 := NB251_266.out
                                          have hnc70 := NB266_251.out
                                          have hcz71_0 : wr.cell? ⟨gb251, 0, none⟩ = some (.int .i64 t248) := (blk_cell BK251.out 0).trans rfl
                                          have hcz71_1 : wr.cell? ⟨gb251, 1, none⟩ = some (.int .i64 t249) := (blk_cell BK251.out 1).trans rfl
                                          have hfz71_0 := blk_frozen BK251.out 0
                                          have hfz71_1 := blk_frozen BK251.out 1
                                          go_wp2_with (first | ((with_reducible refine gate_callee (f := 16) rfl ?_); refine goesL_ (some 91) rfl rfl Tryd.func16 (by kernel_rfl) rfl #[.agg #[.int .i64 t248, .int .i64 t249], .int .i64 (rd l0 x85_4)] rfl (by (try simp only [List.map_toArray, List.map_cons, List.map_nil]); first | done | rfl | (simp only [List.length_drop, List.length_take]; rfl)) ?_; (with_reducible refine (span_Has.calls t248 t249 (rd l0 x85_4) false _ A51.out).mono ?_); rintro e w72 ⟨rfl, hb⟩; refine ⟨_, rfl, ?_⟩; have n0_ := Aside0.mk (blk_below (g := gb251) (o := .cells #[.int .i64 t248, .int .i64 t249] 23 (0, 0)) (by (with_reducible repeat (first | refine blk_drewN ?_ _ | refine blk_drew ?_ | refine blk_alloc ?_ _)); exact BK251.out) hb); have n1_ := Aside0.mk (blk_below (g := gb266) (o := .cells #[.int .i64 t263, .int .i64 t264] 23 (0, 0)) (by (with_reducible repeat (first | refine blk_drewN ?_ _ | refine blk_drew ?_ | refine blk_alloc ?_ _)); exact BK266.out) hb); have n2_ := Aside0.mk (below_step (by repeat (first | (with_reducible first | exact HB.out | apply below_alloc | apply pw_below_drewN | apply below_drew1 | refine below_set ?_ GE251.out | refine below_set ?_ GE266.out) | exact HB.out)) hb); clear BK251; clear BK266; clear HB; have BK251 := n0_; have BK266 := n1_; have HB := n2_; clear n0_ n1_ n2_; (try clear hb); (try clear hb2); (try clear hk); (try clear hi)))
                                          go_ret
                                          exact ⟨by first | rfl | (simp [errW_none, errW_some] <;> rfl) | (simp [*, errW_none, errW_some] <;> rfl), by repeat (first | (with_reducible first | exact HB.out | apply below_alloc | apply pw_below_drewN | apply below_drew1 | refine below_set ?_ GE251.out | refine below_set ?_ GE266.out) | exact HB.out)⟩
                                      · rw [if_neg c50] at H
                                        exact absurd H (by simp)
                                    · rw [if_neg c49] at H
                                      exact absurd H (by simp)
                                  · rw [if_neg c48] at H
                                    have c48b0 : decide (x85_4 < (l0.length : Int)) = false := decide_eq_false c48
                                    clear c48
                                    by_cases c73 : t250 = true
                                    · subst c73
                                      have H1 : (if t248 = 0 then (some true) else (if x13_4 > 0 then (some (decide (x14_4 > 0))) else (some false))) = some r := by rw [if_pos rfl] at H; exact H
                                      clear H
                                      have H := H1
                                      clear H1
                                      by_cases c74 : t248 = 0
                                      · rw [if_pos c74] at H
                                        have c74b0 : (t248 == 0) = true := beq_iff_eq.mpr c74
                                        have c74b1 : (t248 != 0) = false := bne_eq_false_iff_eq.mpr c74
                                        clear c74
                                        obtain rfl := Option.some.inj H
                                        have hnb75 := NB251_266.out
                                        have hnc75 := NB266_251.out
                                        have hcz76_0 : wr.cell? ⟨gb251, 0, none⟩ = some (.int .i64 t248) := (blk_cell BK251.out 0).trans rfl
                                        have hcz76_1 : wr.cell? ⟨gb251, 1, none⟩ = some (.int .i64 t249) := (blk_cell BK251.out 1).trans rfl
                                        have hfz76_0 := blk_frozen BK251.out 0
                                        have hfz76_1 := blk_frozen BK251.out 1
                                        go_wp2
                                        go_ret
                                        exact ⟨by first | rfl | (simp [errW_none, errW_some] <;> rfl) | (simp [*, errW_none, errW_some] <;> rfl), by repeat (first | (with_reducible first | exact HB.out | apply below_alloc | apply pw_below_drewN | apply below_drew1 | refine below_set ?_ GE251.out | refine below_set ?_ GE266.out) | exact HB.out)⟩
                                      · rw [if_neg c74] at H
                                        have c74b0 : (t248 == 0) = false := beq_eq_false_iff_ne.mpr c74
                                        have c74b1 : (t248 != 0) = true := bne_iff_ne.mpr c74
                                        by_cases c77 : x13_4 > 0
                                        · rw [if_pos c77] at H
                                          have c77b0 : decide (0 < x13_4) = true := decide_eq_true c77
                                          clear c77
                                          obtain rfl := Option.some.inj H
                                          have hnb78 := NB251_266.out
                                          have hnc78 := NB266_251.out
                                          have hcz79_0 : wr.cell? ⟨gb251, 0, none⟩ = some (.int .i64 t248) := (blk_cell BK251.out 0).trans rfl
                                          have hcz79_1 : wr.cell? ⟨gb251, 1, none⟩ = some (.int .i64 t249) := (blk_cell BK251.out 1).trans rfl
                                          have hfz79_0 := blk_frozen BK251.out 0
                                          have hfz79_1 := blk_frozen BK251.out 1
                                          go_wp2
                                          go_ret
                                          exact ⟨by first | rfl | (simp [errW_none, errW_some] <;> rfl) | (simp [*, errW_none, errW_some] <;> rfl), by repeat (first | (with_reducible first | exact HB.out | apply below_alloc | apply pw_below_drewN | apply below_drew1 | refine below_set ?_ GE251.out | refine below_set ?_ GE266.out) | exact HB.out)⟩
                                        · rw [if_neg c77] at H
                                          have c77b0 : decide (0 < x13_4) = false := decide_eq_false c77
                                          clear c77
                                          obtain rfl := Option.some.inj H
                                          have hnb80 := NB251_266.out
                                          have hnc80 := NB266_251.out
                                          have hcz81_0 : wr.cell? ⟨gb251, 0, none⟩ = some (.int .i64 t248) := (blk_cell BK251.out 0).trans rfl
                                          have hcz81_1 : wr.cell? ⟨gb251, 1, none⟩ = some (.int .i64 t249) := (blk_cell BK251.out 1).trans rfl
                                          have hfz81_0 := blk_frozen BK251.out 0
                                          have hfz81_1 := blk_frozen BK251.out 1
                                          go_wp2
                                          go_ret
                                          exact ⟨by first | rfl | (simp [errW_none, errW_some] <;> rfl) | (simp [*, errW_none, errW_some] <;> rfl), by repeat (first | (with_reducible first | exact HB.out | apply below_alloc | apply pw_below_drewN | apply below_drew1 | refine below_set ?_ GE251.out | refine below_set ?_ GE266.out) | exact HB.out)⟩
                                    · replace c73 := Bool.eq_false_iff.mpr c73
                                      subst c73
                                      have H1 : (some false) = some r := by rw [if_neg (show ¬ (false = true) by decide)] at H; exact H
                                      clear H
                                      have H := H1
                                      clear H1
                                      obtain rfl := Option.some.inj H
                                      go_wp2
                                      go_ret
                                      exact ⟨by first | rfl | (simp [errW_none, errW_some] <;> rfl) | (simp [*, errW_none, errW_some] <;> rfl), by repeat (first | (with_reducible first | exact HB.out | apply below_alloc | apply pw_below_drewN | apply below_drew1 | refine below_set ?_ GE251.out | refine below_set ?_ GE266.out) | exact HB.out)⟩
                            · replace c47 := Bool.eq_false_iff.mpr c47
                              subst c47
                              have H1 : (if t250 = true then (some false) else (some (t248 == 0 && (t249 == 0)))) = some r := by rw [if_neg (show ¬ (false = true) by decide)] at H; exact H
                              clear H
                              have H := H1
                              clear H1
                              by_cases c82 : t250 = true
                              · subst c82
                                have H1 : (some false) = some r := by rw [if_pos rfl] at H; exact H
                                clear H
                                have H := H1
                                clear H1
                                obtain rfl := Option.some.inj H
                                go_wp2
                                go_ret
                                exact ⟨by first | rfl | (simp [errW_none, errW_some] <;> rfl) | (simp [*, errW_none, errW_some] <;> rfl), by repeat (first | (with_reducible first | exact HB.out | apply below_alloc | apply pw_below_drewN | apply below_drew1 | refine below_set ?_ GE251.out | refine below_set ?_ GE266.out) | exact HB.out)⟩
                              · replace c82 := Bool.eq_false_iff.mpr c82
                                subst c82
                                have H1 : (some (t248 == 0 && (t249 == 0))) = some r := by rw [if_neg (show ¬ (false = true) by decide)] at H; exact H
                                clear H
                                have H := H1
                                clear H1
                                obtain rfl := Option.some.inj H
                                have hnb83 := NB251_266.out
                                have hnc83 := NB266_251.out
                                have hcz84_0 : wr.cell? ⟨gb251, 0, none⟩ = some (.int .i64 t248) := (blk_cell BK251.out 0).trans rfl
                                have hcz84_1 : wr.cell? ⟨gb251, 1, none⟩ = some (.int .i64 t249) := (blk_cell BK251.out 1).trans rfl
                                have hfz84_0 := blk_frozen BK251.out 0
                                have hfz84_1 := blk_frozen BK251.out 1
                                go_wp2
                                go_ret
                                exact ⟨by first | rfl | (simp [errW_none, errW_some] <;> rfl) | (simp [*, errW_none, errW_some] <;> rfl), by repeat (first | (with_reducible first | exact HB.out | apply below_alloc | apply pw_below_drewN | apply below_drew1 | refine below_set ?_ GE251.out | refine below_set ?_ GE266.out) | exact HB.out)⟩
              · rw [if_neg c18] at H
                exact absurd H (by simp)
            · rw [if_neg c15] at H
              exact absurd H (by simp)
          · rw [if_neg c14] at H
            exact absurd H (by simp)
        · rw [if_neg c13] at H
          exact absurd H (by simp)
  · replace c4 := Bool.eq_false_iff.mpr c4
    subst c4
    have H1 : (some false) = some r := by rw [if_neg (show ¬ (false = true) by decide)] at H; exact H
    clear H
    have H := H1
    clear H1
    obtain rfl := Option.some.inj H
    go_enter Tryd.func8, Tryd.ntmps8
    go_wp2_with (first | ((with_reducible refine gate_callee (f := 9) rfl ?_); refine goesL_ (some 17) rfl rfl Tryd.func9 (by kernel_rfl) rfl #[] rfl (by (try simp only [List.map_toArray, List.map_cons, List.map_nil]); first | done | rfl | (simp only [List.length_drop, List.length_take]; rfl)) ?_; (with_reducible refine (trommellaw10_fixed.calls k  false _ ?side1 A3.out).mono ?_); (case side1 => exact GLaid.below HG.out (by repeat (first | (with_reducible first | exact HB.out | apply below_alloc | apply pw_below_drewN | apply below_drew1) | exact HB.out))); rintro e w85 ⟨rfl, hb⟩; refine ⟨_, rfl, ?_⟩; have n0_ := Aside0.mk (below_step (by repeat (first | (with_reducible first | exact HB.out | apply below_alloc | apply pw_below_drewN | apply below_drew1) | exact HB.out)) hb); clear HB; have HB := n0_; clear n0_; (try clear hb); (try clear hb2); (try clear hk); (try clear hi)))
    go_ret
    exact ⟨by first | rfl | (simp [errW_none, errW_some] <;> rfl) | (simp [*, errW_none, errW_some] <;> rfl), by repeat (first | (with_reducible first | exact HB.out | apply below_alloc | apply pw_below_drewN | apply below_drew1) | exact HB.out)⟩

end Go.Proofs.YtapemeboobcgmaaDoor.Prt
