/- SpanPlays: the law's own walk, out of the contracts of what it calls. Conditions: the listed variable holds its table. -/
import Derived.Test.YtapemeboobcgmaaDoorMathE
import Derived.Test.YtapemeboobcgmaaDoorMathFix
import Derived.WalkSpells
import Derived.Deep.RegionHeld3
namespace Go.Proofs.YtapemeboobcgmaaDoor.Prt
open Go.RowKit Go.Proofs.YtapemeboobcgmaaDoorW.PrintWords Go.Proofs.YtapemeboobcgmaaDoorW.PrintLast Go.Proofs.YtapemeboobcgmaaDoorW.PrintMore
attribute [local go_sem high] eqA23
set_option linter.unusedVariables false
set_option linter.unusedSimpArgs false

set_option maxHeartbeats 8000000 in
set_option maxRecDepth 100000 in
theorem plays_core (s0 s1 x lo hi p0 p1 c : Int) (ok b h : Bool) (w : World) (hG : GLaid w)
    (e1 : span_Bounds.f s0 s1 = some (lo, hi)) (e2 : trommelref10_Bounds.f s0 s1 = some (lo, hi)) (e3 : span_Parent.f s0 s1 = some (p0, p1, ok)) (e4 : trommelref10_Parent.f s0 s1 = some (p0, p1, ok))
    (e5 : span_Check.f s0 s1 = some c) (e6 : trommelref10_Check.f s0 s1 = some b) (e7 : span_Has.f s0 s1 x = some h) (e8 : trommelref10_Has.f s0 s1 x = some h)
    (hc : (c = 0 ∧ b = true) ∨ (c = 1 ∧ b = false)) :
    Calls Tryd.prog 3 #[.agg #[.int .i64 s0, .int .i64 s1], .int .i64 x] w fun e w' => e = .returned (.bool true) ∧ Below w.heap.size w w' := by
  have hu23 := Tryd.underlying23
  have E0 := Aside0.mk (fixed_ge (k := 100) (by decide))
  have E1 := Aside0.mk e1; have E2 := Aside0.mk e2; have E3 := Aside0.mk e3; have E4 := Aside0.mk e4; have E5 := Aside0.mk e5; have E6 := Aside0.mk e6; have E7 := Aside0.mk e7; have E8 := Aside0.mk e8
  clear e1 e2 e3 e4 e5 e6 e7 e8
  have HG := Aside0.mk hG
  have HB := Aside0.mk (Below.refl w.heap.size w)
  clear hG
  have HQ : ∀ z : Bool, (z == z) = true := fun z => by cases z <;> rfl
  rcases hc with ⟨rfl, rfl⟩ | ⟨rfl, rfl⟩
  all_goals
    go_enter Tryd.func3, Tryd.ntmps3
    go_wp2_with (fail)
    refine (trommellaw10_fixed.calls 100 true _ (HG.out.below (below_alloc HB.out _)) E0.out).mono ?_
    rintro e w1 ⟨rfl, hb⟩
    obtain ⟨c0, c1, f⟩ := span_box hb
    have HB1 := Aside0.mk (below_step (below_alloc HB.out _) hb)
    have L0 := World.block_lt_of_cell? _ _ c0
    clear hb f
    go_wp2_with (fail)
    refine (span_Bounds.calls _ _ _ _ _ E1.out).mono ?_
    rintro e w2 ⟨rfl, hb⟩
    replace c0 := cell_later hb c0
    replace c1 := cell_later hb c1
    have HB2 := Aside0.mk (below_step HB1.out hb)
    clear hb HB1 L0
    go_wp2_with (fail)
    refine (trommelref10_Bounds.calls _ _ _ _ _ E2.out).mono ?_
    rintro e w3 ⟨rfl, hb⟩
    replace c0 := cell_later hb c0
    replace c1 := cell_later hb c1
    have HB3 := Aside0.mk (below_step HB2.out hb)
    clear hb HB2
    go_wp2_with (fail)
    refine (span_Parent.calls _ _ _ _ _ _ E3.out).mono ?_
    rintro e w4 ⟨rfl, hb⟩
    replace c0 := cell_later hb c0
    replace c1 := cell_later hb c1
    have HB4 := Aside0.mk (below_step HB3.out hb)
    have L4 := World.block_lt_of_cell? _ _ c0
    clear hb HB3
    go_wp2_with (fail)
    refine (trommelref10_Parent.calls _ _ _ _ _ _ E4.out).mono ?_
    rintro e w5 ⟨rfl, hb⟩
    obtain ⟨d0, d1, df⟩ := span_box hb
    have hb0 := below_step (below_alloc (Below.refl _ w4) _) hb
    replace c0 := cell_later hb0 c0
    replace c1 := cell_later hb0 c1
    have HB5 := Aside0.mk (below_step HB4.out hb0)
    have L5 := World.block_lt_of_cell? _ _ c0
    clear hb hb0 HB4 df
    go_wp2_with (fail)
    have hbn := below_alloc (Below.refl w5.heap.size w5) (Obj.cells #[.int .i64 p0, .int .i64 p1] 23)
    replace c0 := cell_later hbn c0
    replace c1 := cell_later hbn c1
    replace d0 := cell_later hbn d0
    replace d1 := cell_later hbn d1
    have HB6 : Below w.heap.size w (w5.alloc (Obj.cells #[.int .i64 p0, .int .i64 p1] 23)) := below_step HB5.out hbn
    have q0 : (w5.alloc (Obj.cells #[.int .i64 p0, .int .i64 p1] 23)).cell? ⟨w5.heap.size, 0, none⟩ = some (.int .i64 p0) := by simp
    have q1 : (w5.alloc (Obj.cells #[.int .i64 p0, .int .i64 p1] 23)).cell? ⟨w5.heap.size, 1, none⟩ = some (.int .i64 p1) := by simp
    clear hbn HB5
    generalize w5.alloc (Obj.cells #[.int .i64 p0, .int .i64 p1] 23) = W at *
    generalize w4.heap.size = g4 at *
    generalize w5.heap.size = g5 at *
    generalize hg0 : w.heap.size = g0 at c0 c1 ⊢
    rw [hg0] at L4 L5
    clear L4 L5
    go_region_held3 (fun w' => w'.cell? ⟨g0, 0, none⟩ = some (.int .i64 s0) ∧ w'.cell? ⟨g0, 1, none⟩ = some (.int .i64 s1) ∧ w'.cell? ⟨g4, 0, none⟩ = some (.int .i64 p0) ∧ w'.cell? ⟨g4, 1, none⟩ = some (.int .i64 p1) ∧ w'.cell? ⟨g5, 0, none⟩ = some (.int .i64 p0) ∧ w'.cell? ⟨g5, 1, none⟩ = some (.int .i64 p1) ∧ Below w.heap.size w w')
      (first | (go_split_ands; (refine ⟨?_, ?_, ?_, ?_, ?_, ?_, ?_⟩ <;> first | exact cell_later hb (by assumption) | exact below_step (by assumption) hb | exact below_drew1 (by assumption) | assumption | go_keep)) | (refine ⟨?_, ?_, ?_, ?_, ?_, ?_, ?_⟩ <;> first | exact cell_later hb (by assumption) | exact below_step (by assumption) hb | exact below_drew1 (by assumption) | assumption | go_keep))
      (first
        | (go_at_call 14; refine (span_Check.calls _ _ _ _ E5.out).mono ?_; rintro e w' ⟨rfl, hb⟩)
        | (go_at_call 15; refine (trommelref10_Check.calls _ _ _ _ E6.out).mono ?_; rintro e w' ⟨rfl, hb⟩)
        | (go_at_call 16; refine (span_Has.calls _ _ _ _ _ E7.out).mono ?_; rintro e w' ⟨rfl, hb⟩)
        | (go_at_call 17; refine (trommelref10_Has.calls _ _ _ _ _ E8.out).mono ?_; rintro e w' ⟨rfl, hb⟩))
    all_goals go_wp2
    all_goals go_ret
    all_goals first
      | exact ⟨rfl, by assumption⟩
      | (go_split_ands; exact ⟨rfl, by assumption⟩)

theorem SpanPlays_walk (s0 s1 x : Int) (w : World) (hG : GLaid w) :
    Calls Tryd.prog 3 #[.agg #[.int .i64 s0, .int .i64 s1], .int .i64 x] w fun e w' => e = .returned (.bool true) ∧ Below w.heap.size w w' := by
  obtain ⟨lo, hi, e1⟩ := bounds_some s0 s1
  obtain ⟨p0, p1, ok, e3⟩ := parent_some s0 s1
  obtain ⟨h, e7⟩ := has_some' s0 s1 x
  refine plays_core s0 s1 x lo hi p0 p1 (if isSpan s0 s1 then 0 else 1) ok (decide (isSpan s0 s1)) h w hG e1 (by rw [refBounds_eq]; exact e1) e3 (by rw [refParent_eq]; exact e3) (check_some s0 s1) (refCheck s0 s1) e7 (by rw [refHas_eq]; exact e7) ?_
  by_cases hs : isSpan s0 s1
  · exact .inl ⟨by rw [if_pos hs], decide_eq_true hs⟩
  · exact .inr ⟨by rw [if_neg hs], decide_eq_false hs⟩
end Go.Proofs.YtapemeboobcgmaaDoor.Prt
