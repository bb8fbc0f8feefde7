/- What the reference's Scan computes, as a plain Lean function, and that the machine's call comes to it. Laid by a program of this session. -/
import Derived.Test.YtgnhadbadhgdgaaExtI
namespace Go.Proofs.Ytgnhadbadhgdgaa.Prt
open Go.RowKit Go.Proofs.YtgnhadbadhgdgaaW.PrintWords Go.Proofs.YtgnhadbadhgdgaaW.PrintLast Go.Proofs.YtgnhadbadhgdgaaW.PrintMore
attribute [local go_sem] max2_int min2_int max_two min_two max_three min_three max_four min_four   -- for this text's walks alone
set_option linter.unusedVariables false
set_option linter.unusedSimpArgs false

attribute [local go_sem high] eqA32

/-! ### trommelref17_Scan: function 25 -/
mutual
def trommelref17_Scan.j0 : Nat → List Int → Int → List Int → Bool → Option (Int × (List (S32)) × Int × Int)
  | 0, _, _, _, _ => none
  | k + 1, x0, x6, x9, x38 => if x38 = true then (some (0, ([] : List (S32)), 0, 31)) else (trommelref17_Scan.l0 k x0 x6 ([] : List (S32)) (x9.length : Int))
def trommelref17_Scan.l0 : Nat → List Int → Int → List (S32) → Int → Option (Int × (List (S32)) × Int × Int)
  | 0, _, _, _, _ => none
  | k + 1, x0, x6, x11, x12 => if 0 ≤ x12 then (if x12 ≤ (x0.length : Int) then ((trommelref17_Decode.f k (x0.drop (x12 : Int).toNat)).bind fun bt251 => (if bt251.2.2.2.2 = 0 then (if x11.length < 4398046511104 then (trommelref17_Scan.l0 k x0 x6 (x11 ++ [(⟨bt251.1, bt251.2.1, bt251.2.2.1⟩ : S32)]) (wrap64 (x12 + bt251.2.2.2.1))) else (none)) else (some (x6, x11, x12, 0)))) else (none)) else (none)
end
def trommelref17_Scan.f (k : Nat) (l0 : List Int) : Option (Int × (List (S32)) × Int × Int) := (trommelref17_read.f k l0 1 1099511627777).bind fun bt242 => ((trommelref17_Head.f k bt242.1).bind fun bt245 => (if bt242.2.2 = true then (if bt245.2 = 0 then ((trommelref17_begins.f k l0 bt245.1).bind fun t249 => (trommelref17_Scan.j0 k l0 bt242.1 bt245.1 (!t249))) else (trommelref17_Scan.j0 k l0 bt242.1 bt245.1 true)) else (trommelref17_Scan.j0 k l0 bt242.1 bt245.1 true)))
theorem trommelref17_Scan.mono_l : ∀ k, (∀ y0 y1 y2 y3, LeO (trommelref17_Scan.j0 k y0 y1 y2 y3) (trommelref17_Scan.j0 (k + 1) y0 y1 y2 y3)) ∧ (∀ y0 y1 y2 y3, LeO (trommelref17_Scan.l0 k y0 y1 y2 y3) (trommelref17_Scan.l0 (k + 1) y0 y1 y2 y3))
  | 0 => ⟨fun _ _ _ _ r h => by simp [trommelref17_Scan.j0] at h, fun _ _ _ _ r h => by simp [trommelref17_Scan.l0] at h⟩
  | k + 1 => by
    obtain ⟨ih0, ih1⟩ := trommelref17_Scan.mono_l k
    refine ⟨?_, ?_⟩
    · intro y0 y1 y2 y3
      unfold trommelref17_Scan.j0
      repeat' first
      | (with_reducible exact ih0 _ _ _ _)
      | (with_reducible exact ih1 _ _ _ _)
      | (with_reducible exact trommelref17_Decode.mono _ _)
      | (with_reducible exact trommelref17_Head.mono _ _)
      | (with_reducible exact trommelref17_begins.mono _ _ _)
      | (with_reducible exact trommelref17_read.mono _ _ _ _)
      | (with_reducible exact LeO.refl _)
      | (with_reducible exact LeO.none _)
      | (with_reducible refine LeO.ite ?_ ?_)
      | (with_reducible refine LeO.bind ?_ (fun _ => ?_))
      | exact ih0 _ _ _ _
      | exact ih1 _ _ _ _
      | exact trommelref17_Decode.mono _ _
      | exact trommelref17_Head.mono _ _
      | exact trommelref17_begins.mono _ _ _
      | exact trommelref17_read.mono _ _ _ _
      | exact LeO.none _
      | refine LeO.ite ?_ ?_
      | refine LeO.bind ?_ (fun _ => ?_)
    · intro y0 y1 y2 y3
      unfold trommelref17_Scan.l0
      repeat' first
      | (with_reducible exact ih0 _ _ _ _)
      | (with_reducible exact ih1 _ _ _ _)
      | (with_reducible exact trommelref17_Decode.mono _ _)
      | (with_reducible exact trommelref17_Head.mono _ _)
      | (with_reducible exact trommelref17_begins.mono _ _ _)
      | (with_reducible exact trommelref17_read.mono _ _ _ _)
      | (with_reducible exact LeO.refl _)
      | (with_reducible exact LeO.none _)
      | (with_reducible refine LeO.ite ?_ ?_)
      | (with_reducible refine LeO.bind ?_ (fun _ => ?_))
      | exact ih0 _ _ _ _
      | exact ih1 _ _ _ _
      | exact trommelref17_Decode.mono _ _
      | exact trommelref17_Head.mono _ _
      | exact trommelref17_begins.mono _ _ _
      | exact trommelref17_read.mono _ _ _ _
      | exact LeO.none _
      | refine LeO.ite ?_ ?_
      | refine LeO.bind ?_ (fun _ => ?_)
theorem trommelref17_Scan.mono : ∀ a0 k, LeO (trommelref17_Scan.f k a0) (trommelref17_Scan.f (k + 1) a0) := by
  intro a0 k
  obtain ⟨ih0, ih1⟩ := trommelref17_Scan.mono_l k
  unfold trommelref17_Scan.f
  repeat' first
      | (with_reducible exact ih0 _ _ _ _)
      | (with_reducible exact ih1 _ _ _ _)
      | (with_reducible exact trommelref17_Decode.mono _ _)
      | (with_reducible exact trommelref17_Head.mono _ _)
      | (with_reducible exact trommelref17_begins.mono _ _ _)
      | (with_reducible exact trommelref17_read.mono _ _ _ _)
      | (with_reducible exact LeO.refl _)
      | (with_reducible exact LeO.none _)
      | (with_reducible refine LeO.ite ?_ ?_)
      | (with_reducible refine LeO.bind ?_ (fun _ => ?_))
      | exact ih0 _ _ _ _
      | exact ih1 _ _ _ _
      | exact trommelref17_Decode.mono _ _
      | exact trommelref17_Head.mono _ _
      | exact trommelref17_begins.mono _ _ _
      | exact trommelref17_read.mono _ _ _ _
      | exact LeO.none _
      | refine LeO.ite ?_ ?_
      | refine LeO.bind ?_ (fun _ => ?_)
set_option maxHeartbeats 8000000 in
set_option maxRecDepth 100000 in
theorem trommelref17_Scan.calls (k : Nat) (A0 : Option Addr) (c0 : Nat) (l0 : List Int) (r1 : Int) (r2 : List (S32)) (r3 : Int) (r4 : Int) (w : World) (hr0 : Kd.C (Kd.int .u8) w A0 l0.length l0) (hc0 : l0.length ≤ c0) (h : trommelref17_Scan.f k l0 = some (r1, r2, r3, r4)) :
    Calls Try.prog 25 #[.slice A0 l0.length c0] w fun e w' => ∃ v1_ : Value, e = .returned (.tuple #[.int .i64 r1, v1_, .int .i64 r3, .int .i64 r4]) ∧ Kd.R k32 32 w' w.heap.size (fun _ => True) v1_ r2 ∧ Below w.heap.size w w' := by
  have hu32 := Try.underlying32
  have HR0 := Aside0.mk hr0
  have HC0 := Aside0.mk hc0
  clear hr0 hc0
  have HB := Aside0.mk (Below.refl w.heap.size w)
  have H : ((trommelref17_read.f k l0 1 1099511627777).bind fun bt242 => ((trommelref17_Head.f k bt242.1).bind fun bt245 => (if bt242.2.2 = true then (if bt245.2 = 0 then ((trommelref17_begins.f k l0 bt245.1).bind fun t249 => (trommelref17_Scan.j0 k l0 bt242.1 bt245.1 (!t249))) else (trommelref17_Scan.j0 k l0 bt242.1 bt245.1 true)) else (trommelref17_Scan.j0 k l0 bt242.1 bt245.1 true)))) = some (r1, r2, r3, r4) := h
  clear h
  replace H := Option.bind_eq_some_iff.mp H
  obtain ⟨⟨t242, t243, t244⟩, A20, H⟩ := H
  replace H : ((trommelref17_Head.f k t242).bind fun bt245 => (if t244 = true then (if bt245.2 = 0 then ((trommelref17_begins.f k l0 bt245.1).bind fun t249 => (trommelref17_Scan.j0 k l0 t242 bt245.1 (!t249))) else (trommelref17_Scan.j0 k l0 t242 bt245.1 true)) else (trommelref17_Scan.j0 k l0 t242 bt245.1 true))) = some (r1, r2, r3, r4) := H
  have A2 := Aside0.mk A20
  clear A20
  replace H := Option.bind_eq_some_iff.mp H
  obtain ⟨⟨t245, t246⟩, A30, H⟩ := H
  replace H : (if t244 = true then (if t246 = 0 then ((trommelref17_begins.f k l0 t245).bind fun t249 => (trommelref17_Scan.j0 k l0 t242 t245 (!t249))) else (trommelref17_Scan.j0 k l0 t242 t245 true)) else (trommelref17_Scan.j0 k l0 t242 t245 true)) = some (r1, r2, r3, r4) := H
  have A3 := Aside0.mk A30
  clear A30
  have HC4 := Aside0.mk H
  clear H
  go_enter Try.func25, Try.ntmps25
  go_upto_region 3 with (first | ((with_reducible refine gate_callee (f := 38) rfl ?_); refine goesL_ (some 18) rfl rfl Try.func38 (by kernel_rfl) rfl #[.slice A0 l0.length c0, .int .i64 1, .int .i64 1099511627777] rfl (by (try simp only [List.map_toArray, List.map_cons, List.map_nil]); first | done | rfl | (simp only [List.length_drop, List.length_take]; rfl)) ?_; (with_reducible refine (trommelref17_read.calls k _ _ l0 1 1099511627777 t242 t243 t244 _ ?side1 ?side2 A2.out).mono ?_); (case side1 => repeat (first | exact HR0.out | (with_reducible refine Kd.C_alloc ?_ _) | (with_reducible refine Kd.C_drewN ?_ _) | (with_reducible refine Kd.C_drew ?_))); (case side2 => exact HC0.out); rintro e w' ⟨rfl, ⟨nd, rfl⟩⟩; refine ⟨_, rfl, ?_⟩) | ((with_reducible refine gate_callee (f := 13) rfl ?_); refine goesL_ (some 24) rfl rfl Try.func13 (by kernel_rfl) rfl #[.int .i64 t242] rfl (by (try simp only [List.map_toArray, List.map_cons, List.map_nil]); first | done | rfl | (simp only [List.length_drop, List.length_take]; rfl)) ?_; (with_reducible refine (trommelref17_Head.calls k t242 t245 t246 _ A3.out).mono ?_); rintro e w5 ⟨v247, rfl, ho0, hb⟩; refine ⟨_, rfl, ?_⟩; have n0_ := Aside0.mk (Kd.R_lower ho0 (below_size (by repeat (first | (with_reducible first | exact HB.out | apply below_alloc | apply pw_below_drewN | apply below_drew1) | exact HB.out)))); have n1_ := Aside0.mk (below_step (by repeat (first | (with_reducible first | exact HB.out | apply below_alloc | apply pw_below_drewN | apply below_drew1) | exact HB.out)) hb); clear HB; have HO248 := n0_; have HB := n1_; clear n0_ n1_; (try clear hb); (try clear hb2); (try clear hk); (try clear hi); (try clear ho0)))
  (try simp only [Act.put, List.setIfInBounds_toArray, List.set_cons_zero, List.set_cons_succ])
  go_cut [38] (fun v38 wc => ∃ (kq : Nat) (x38_3 : Bool), v38 = .bool x38_3 ∧ Aside0 (trommelref17_Scan.j0 kq l0 t242 t245 x38_3 = some (r1, r2, r3, r4)) ∧ Aside0 (kq ≤ k) ∧ Aside0 (Kd.R (Kd.int .u8) 5 wc w.heap.size (fun _ => True) v247 t245) ∧ Aside0 (Below w.heap.size w wc))
  case first =>
    have H := HC4.out
    clear HC4
    by_cases c6 : t244 = true
    · subst c6
      have H1 : (if t246 = 0 then ((trommelref17_begins.f k l0 t245).bind fun t249 => (trommelref17_Scan.j0 k l0 t242 t245 (!t249))) else (trommelref17_Scan.j0 k l0 t242 t245 true)) = some (r1, r2, r3, r4) := by rw [if_pos rfl] at H; exact H
      clear H
      have H := H1
      clear H1
      by_cases c7 : t246 = 0
      · rw [if_pos c7] at H
        have c7b0 : (t246 == 0) = true := beq_iff_eq.mpr c7
        have c7b1 : (t246 != 0) = false := bne_eq_false_iff_eq.mpr c7
        clear c7
        (first | rw [c7b0] | (simp only [i64_w, i32_w]; rw [c7b0]) | skip)
        replace H := Option.bind_eq_some_iff.mp H
        obtain ⟨t249, A80, H⟩ := H
        replace H : (trommelref17_Scan.j0 k l0 t242 t245 (!t249)) = some (r1, r2, r3, r4) := H
        have A8 := Aside0.mk A80
        clear A80
        have H' := Aside0.mk H
        clear H
        obtain ⟨Ao9, co9, eo9⟩ := Kd.R_slice HO248.out
        subst eo9
        go_wp2_with (first | (go_at_call 39; (with_reducible refine (trommelref17_begins.calls k _ _ l0 _ _ t245 t249 _ ?side1 ?side2 ?side3 ?side4 A8.out).mono ?_); (case side1 => repeat (first | exact (Kd.C_below HR0.out HB.out) | (with_reducible refine Kd.C_alloc ?_ _) | (with_reducible refine Kd.C_drewN ?_ _) | (with_reducible refine Kd.C_drew ?_))); (case side2 => exact HC0.out); (case side3 => repeat (first | exact (Kd.R_reads' HO248.out).2.2 | (with_reducible refine Kd.C_alloc ?_ _) | (with_reducible refine Kd.C_drewN ?_ _) | (with_reducible refine Kd.C_drew ?_))); (case side4 => exact (Kd.R_reads' HO248.out).2.1); rintro e w' ⟨rfl, ⟨nd, rfl⟩⟩))
        go_meet
        case rel => exact ⟨_, (!t249), (by first | rfl | (simp; done) | (simp [*]; done)), H', ⟨by first | omega | exact Nat.le_refl _⟩, ⟨by (with_reducible repeat (first | apply Kd.R_alloc | apply Kd.R_drewN | apply Kd.R_drew)); exact HO248.out⟩, ⟨by repeat (first | (with_reducible first | exact HB.out | apply below_alloc | apply pw_below_drewN | apply below_drew1) | exact HB.out)⟩⟩
      · rw [if_neg c7] at H
        have c7b0 : (t246 == 0) = false := beq_eq_false_iff_ne.mpr c7
        have c7b1 : (t246 != 0) = true := bne_iff_ne.mpr c7
        (first | rw [c7b0] | (simp only [i64_w, i32_w]; rw [c7b0]) | skip)
        have H' := Aside0.mk H
        clear H
        go_wp2
        go_meet
        case rel => exact ⟨_, (true), (by first | rfl | (simp; done) | (simp [*]; done)), H', ⟨by first | omega | exact Nat.le_refl _⟩, ⟨by (with_reducible repeat (first | apply Kd.R_alloc | apply Kd.R_drewN | apply Kd.R_drew)); exact HO248.out⟩, ⟨by repeat (first | (with_reducible first | exact HB.out | apply below_alloc | apply pw_below_drewN | apply below_drew1) | exact HB.out)⟩⟩
    · replace c6 := Bool.eq_false_iff.mpr c6
      subst c6
      have H1 : (trommelref17_Scan.j0 k l0 t242 t245 true) = some (r1, r2, r3, r4) := by rw [if_neg (show ¬ (false = true) by decide)] at H; exact H
      clear H
      have H := H1
      clear H1
      have H' := Aside0.mk H
      clear H
      go_wp2
      go_meet
      case rel => exact ⟨_, (true), (by first | rfl | (simp; done) | (simp [*]; done)), H', ⟨by first | omega | exact Nat.le_refl _⟩, ⟨by (with_reducible repeat (first | apply Kd.R_alloc | apply Kd.R_drewN | apply Kd.R_drew)); exact HO248.out⟩, ⟨by repeat (first | (with_reducible first | exact HB.out | apply below_alloc | apply pw_below_drewN | apply below_drew1) | exact HB.out)⟩⟩
  case rest =>
    clear HC4
    try clear c1
    try clear c2
    try clear p2
    try clear c3
    try clear c6
    try clear c7
    try clear c7b0
    try clear c7b1
    obtain ⟨kq, x38_3, rfl, HA, HJ3, HO_9, HB⟩ := hcut
    cases kq with
    | zero => exact absurd HA.out (by simp [trommelref17_Scan.j0])
    | succ kj3 =>
      have H := HA.out
      clear HA
      simp only [trommelref17_Scan.j0] at H
      by_cases c10 : x38_3 = true
      · subst c10
        have H1 : (some (0, ([] : List (S32)), 0, 31)) = some (r1, r2, r3, r4) := by rw [if_pos rfl] at H; exact H
        clear H
        have H := H1
        clear H1
        simp only [Option.some.injEq, Prod.mk.injEq] at H
        obtain ⟨rfl, rfl, rfl, rfl⟩ := H
        go_wp2
        refine bodyPost_ret (results_list (rs := [.tmp 2, .tmp 3, .tmp 4, .tmp 5]) rfl (by simp) (.tmp (.tmp (.tmp (.tmp .nil))))) rfl ?_
        exact ⟨_, by first | rfl | (simp [errW_none, errW_some] <;> rfl) | (simp [*, errW_none, errW_some] <;> rfl), by first | exact Kd.R_nil _ _ _ _ _ | exact Kd.N_nil _ _ _ _ _ | exact Kd.V_nil _ _ _ _ _ | exact Kd.Q_nil _ _ _ _ _ | exact Kd.S_nil _ _ _ _ _, by repeat (first | (with_reducible first | exact HB.out | apply below_alloc | apply pw_below_drewN | apply below_drew1) | exact HB.out)⟩
      · replace c10 := Bool.eq_false_iff.mpr c10
        subst c10
        have H1 : (trommelref17_Scan.l0 kj3 l0 t242 ([] : List (S32)) (t245.length : Int)) = some (r1, r2, r3, r4) := by rw [if_neg (show ¬ (false = true) by decide)] at H; exact H
        clear H
        have H := H1
        clear H1
        have H' := Aside0.mk H
        clear H
        obtain ⟨Ao11, co11, eo11⟩ := Kd.R_slice HO_9.out
        subst eo11
        go_wp2
        go_loopg [11, 12] kj3 (fun kq v11 v12 w' => ∃ (x11_2 : List (S32)) (x12_2 : Int), v12 = .int .i64 x12_2 ∧ Aside0 (trommelref17_Scan.l0 kq l0 t242 x11_2 x12_2 = some (r1, r2, r3, r4)) ∧ Aside0 (kq ≤ kj3) ∧ Aside0 (Kd.R k32 32 w' w.heap.size (fun _ => True) v11 x11_2) ∧ Aside0 (Below w.heap.size w w'))
        case atStart => exact ⟨(([] : List (S32))), ((t245.length : Int)), (by first | rfl | (simp; done) | (simp [*]; done)), H', ⟨Nat.le_refl _⟩, ⟨by first | exact Kd.R_nil _ _ _ _ _ | exact Kd.N_nil _ _ _ _ _ | exact Kd.V_nil _ _ _ _ _ | exact Kd.Q_nil _ _ _ _ _ | exact Kd.S_nil _ _ _ _ _⟩, ⟨by repeat (first | (with_reducible first | exact HB.out | apply below_alloc | apply pw_below_drewN | apply below_drew1) | exact HB.out)⟩⟩
        case round =>
          clear H'
          try clear c1
          try clear c2
          try clear p2
          try clear c3
          try clear c6
          try clear c7
          try clear c7b0
          try clear c7b1
          try clear c10
          try clear p2
          obtain ⟨x11_2, x12_2, rfl, HA, HK2, HO_11, HB⟩ := hrel
          cases gk with
          | zero => exact absurd HA.out (by simp [trommelref17_Scan.l0])
          | succ k2 =>
            have H := HA.out
            clear HA
            simp only [trommelref17_Scan.l0] at H
            by_cases c12 : 0 ≤ x12_2
            · rw [if_pos c12] at H
              have c12b0 := eq_true c12
              have c12b1 : decide (0 ≤ x12_2) = true := decide_eq_true c12
              clear c12
              by_cases c13 : x12_2 ≤ (l0.length : Int)
              · rw [if_pos c13] at H
                have c13b0 := eq_true c13
                have c13b1 : decide (x12_2 ≤ (l0.length : Int)) = true := decide_eq_true c13
                clear c13
                replace H := Option.bind_eq_some_iff.mp H
                obtain ⟨⟨t251, t252, t253, t254, t255⟩, A140, H⟩ := H
                replace H : (if t255 = 0 then (if x11_2.length < 4398046511104 then (trommelref17_Scan.l0 k2 l0 t242 (x11_2 ++ [(⟨t251, t252, t253⟩ : S32)]) (wrap64 (x12_2 + t254))) else (none)) else (some (t242, x11_2, x12_2, 0))) = some (r1, r2, r3, r4) := H
                have A14 := Aside0.mk A140
                clear A140
                by_cases c15 : t255 = 0
                · rw [if_pos c15] at H
                  have c15b0 : (t255 == 0) = true := beq_iff_eq.mpr c15
                  have c15b1 : (t255 != 0) = false := bne_eq_false_iff_eq.mpr c15
                  clear c15
                  by_cases c16 : x11_2.length < 4398046511104
                  · rw [if_pos c16] at H
                    have LMc16 := Aside0.mk c16
                    clear c16
                    obtain ⟨y257, hy257⟩ : ∃ y_ : List (S32), y_ = (x11_2 ++ [(⟨t251, t252, t253⟩ : S32)]) := ⟨_, rfl⟩
                    replace H : (trommelref17_Scan.l0 k2 l0 t242 y257 (wrap64 (x12_2 + t254))) = some (r1, r2, r3, r4) := by first | (rw [hy257]; with_reducible exact H) | (have H2_ := (Option.bind_some _ _).symm.trans H; rw [hy257]; with_reducible exact H2_) | (have H2_ := (Option.bind_some _ _).symm.trans H; with_reducible exact H2_) | with_reducible exact H | (rw [hy257]; exact H) | exact H
                    have Ny257 := Aside0.mk hy257
                    clear hy257
                    have H' := Aside0.mk H
                    clear H
                    obtain ⟨i017, hi017, _, hsz17, _⟩ := info_parts info5
                    obtain ⟨A17, hcut17, hA17, hC17⟩ := print_drop_of (P := Try.prog) (Value.int .u8) 0 24 5 .i64 Try.underlying24 hi017 hsz17 A0 c0 l0 x12_2 (of_decide_eq_true (by first | (with_reducible assumption) | assumption)) (of_decide_eq_true (by first | (with_reducible assumption) | assumption)) HC0.out
                    have HR250 := Aside0.mk (Kd.C_of_reads (h1 := fun _ => rfl) (hA17 _ (Kd.reads_of_C HR0.out)))
                    have HC250 := Aside0.mk hC17
                    clear hA17 hC17 hi017 hsz17
                    go_wp2_with (first | ((with_reducible refine gate_callee (f := 23) rfl ?_); refine goesL_ (some 45) rfl rfl Try.func23 (by kernel_rfl) rfl #[.slice A17 (l0.drop (x12_2 : Int).toNat).length (c0 - x12_2.toNat)] rfl (by (try simp only [List.map_toArray, List.map_cons, List.map_nil]); first | done | (rw [show (l0.drop (x12_2 : Int).toNat).length = (l0.length - x12_2.toNat) from List.length_drop] <;> rfl) | rfl | (simp only [List.length_drop, List.length_take]; rfl)) ?_; (with_reducible refine (trommelref17_Decode.calls k2 _ _ (l0.drop (x12_2 : Int).toNat) t251 t252 t253 t254 t255 _ ?side1 ?side2 A14.out).mono ?_); (case side1 => repeat (first | exact (Kd.C_below HR250.out HB.out) | (with_reducible refine Kd.C_alloc ?_ _) | (with_reducible refine Kd.C_drewN ?_ _) | (with_reducible refine Kd.C_drew ?_))); (case side2 => exact HC250.out); rintro e w18 ⟨rfl, hb⟩; refine ⟨_, rfl, ?_⟩; have n0_ := Aside0.mk (Kd.R_below (by (with_reducible repeat (first | apply Kd.R_alloc | apply Kd.R_drewN | apply Kd.R_drew)); exact HO_11.out) hb); have n1_ := Aside0.mk (below_step (by repeat (first | (with_reducible first | exact HB.out | apply below_alloc | apply pw_below_drewN | apply below_drew1) | exact HB.out)) hb); clear HO_11; clear HB; have HO_11 := n0_; have HB := n1_; clear n0_ n1_; (try clear hb); (try clear hb2); (try clear hk); (try clear hi)) | ((with_reducible refine gate_dst (N := 13) rfl ?_); refine box_event ?hg (N := 13) ?hd (cs := #[.int .i64 0, .int .i64 0, .string (⟨#[]⟩ : ByteArray)]) (t := 32) ?hr ?_; (case hd => rfl); (case hg => rfl); (case hr => first | (go_simp; done) | (go_simp; rfl)); intro gb256 hg w19 hbox hb; have n0_ := Aside0.mk (Kd.R_below (Kd.R_elderB (by (with_reducible repeat (first | apply Kd.R_alloc | apply Kd.R_drewN | apply Kd.R_drew)); exact HO_11.out) gb256 (Nat.le_of_eq hg.symm)) hb); have n1_ := Aside0.mk (below_step (by repeat (first | (with_reducible first | exact HB.out | apply below_alloc | apply pw_below_drewN | apply below_drew1) | exact HB.out)) hb); have n2_ := Aside0.mk (hbox); have n3_ := Aside0.mk ((by rw [hg]; exact (below_size (by repeat (first | (with_reducible first | exact HB.out | apply below_alloc | apply pw_below_drewN | apply below_drew1) | exact HB.out))) : w.heap.size ≤ gb256)); have n4_ := Aside0.mk ((by rw [hg]; exact (below_size (by repeat (first | (with_reducible first | exact HB.out | apply below_alloc | apply pw_below_drewN | apply below_drew1) | exact HB.out))) : w.heap.size ≤ gb256)); clear HO_11; clear HB; have HO_11 := n0_; have HB := n1_; have BK256 := n2_; have GW256 := n3_; have GE256 := n4_; clear n0_ n1_ n2_ n3_ n4_; clear hb hbox hg; have hcz20_0 : w19.cell? ⟨gb256, 0, none⟩ = some (.int .i64 0) := (blk_cell BK256.out 0).trans rfl; have hcz20_1 : w19.cell? ⟨gb256, 1, none⟩ = some (.int .i64 0) := (blk_cell BK256.out 1).trans rfl; have hcz20_2 : w19.cell? ⟨gb256, 2, none⟩ = some (.string (⟨#[]⟩ : ByteArray)) := (blk_cell BK256.out 2).trans rfl; have hfz20_0 := blk_frozen BK256.out 0; have hfz20_1 := blk_frozen BK256.out 1; have hfz20_2 := blk_frozen BK256.out 2) | ((with_reducible refine gate_builtin (b := .append) (xs := #[.tmp 54, .tmp 56]) rfl ?_); at_builtin; refine Kd.R_append k32 (w0 := w) w.heap.size rfl (.tmp 54) (.tmp 56) 22 32 (.agg #[(.int .i64 0), (.int .i64 0), (.string ⟨#[]⟩)]) 32 rfl Try.underlying22 info32 rfl (by decide) (by omega) u11 x11_2 (⟨t251, t252, t253⟩ : S32) [.int .i64 t251, .int .i64 t252, .string t253] (fun k_ => k_ ≠ gb256) (fun _ => False) rfl (by first | (go_simp; done) | (go_simp; rfl)) ?aP (fun _ hk => hk.elim) ?aF ?aO ?aB ?aS ?aL ?_; (case aP => exact k32_mkM _ _ _ (⟨t251, t252, t253⟩ : S32)); (case aB => exact (by repeat (first | (with_reducible first | exact HB.out | apply below_alloc | apply pw_below_drewN | apply below_drew1 | refine below_set ?_ GE256.out) | exact HB.out))); (case aF => exact (fun k_ hk => Kd.freshB (g := gb256) (o := .cells #[.int .i64 t251, .int .i64 t252, .string t253] 32 (0, 0)) (by (with_reducible repeat (first | refine blk_drewN ?_ _ | refine blk_drew ?_ | refine blk_alloc ?_ _)); refine blk_put (cs := #[.int .i64 t251, .int .i64 t252, .string (⟨#[]⟩ : ByteArray)]) ?_ 2 _ rfl; (with_reducible repeat (first | refine blk_drewN ?_ _ | refine blk_drew ?_ | refine blk_alloc ?_ _)); refine blk_put (cs := #[.int .i64 t251, .int .i64 0, .string (⟨#[]⟩ : ByteArray)]) ?_ 1 _ rfl; (with_reducible repeat (first | refine blk_drewN ?_ _ | refine blk_drew ?_ | refine blk_alloc ?_ _)); refine blk_put (cs := #[.int .i64 0, .int .i64 0, .string (⟨#[]⟩ : ByteArray)]) ?_ 0 _ rfl; (with_reducible repeat (first | refine blk_drewN ?_ _ | refine blk_drew ?_ | refine blk_alloc ?_ _)); exact BK256.out) k_ hk)); (case aO => exact (by (with_reducible repeat (first | apply Kd.R_alloc | apply Kd.R_drewN | apply Kd.R_drew)); exact Kd.R_mono (Kd.R_far (p := ⟨gb256, 2, none⟩) (Kd.R_far (p := ⟨gb256, 1, none⟩) (Kd.R_far (p := ⟨gb256, 0, none⟩) (Kd.R_mono HO_11.out (fun k_ hk => (⟨hk, hk.2⟩ : _ ∧ k_ ≠ gb256))) (fun _ hk => hk.2) (.int .i64 t251)) (fun _ hk => hk.2) (.int .i64 t252)) (fun _ hk => hk.2) (.string t253)) (fun _ hk => hk.1.2))); (case aS => exact (below_size (by repeat (first | (with_reducible first | exact HB.out | apply below_alloc | apply pw_below_drewN | apply below_drew1 | refine below_set ?_ GE256.out) | exact HB.out)))); (case aL => have := LMc16.out; omega); intro v258 w21 ho hb hg hat; rw [← Ny257.out] at ho; have n0_ := Aside0.mk (blk_grown (g := gb256) (o := .cells #[.int .i64 t251, .int .i64 t252, .string t253] 32 (0, 0)) (by (with_reducible repeat (first | refine blk_drewN ?_ _ | refine blk_drew ?_ | refine blk_alloc ?_ _)); refine blk_put (cs := #[.int .i64 t251, .int .i64 t252, .string (⟨#[]⟩ : ByteArray)]) ?_ 2 _ rfl; (with_reducible repeat (first | refine blk_drewN ?_ _ | refine blk_drew ?_ | refine blk_alloc ?_ _)); refine blk_put (cs := #[.int .i64 t251, .int .i64 0, .string (⟨#[]⟩ : ByteArray)]) ?_ 1 _ rfl; (with_reducible repeat (first | refine blk_drewN ?_ _ | refine blk_drew ?_ | refine blk_alloc ?_ _)); refine blk_put (cs := #[.int .i64 0, .int .i64 0, .string (⟨#[]⟩ : ByteArray)]) ?_ 0 _ rfl; (with_reducible repeat (first | refine blk_drewN ?_ _ | refine blk_drew ?_ | refine blk_alloc ?_ _)); exact BK256.out) hg (Kd.R_away HO_11.out (fun _ hk => hk.2))); have n1_ := Aside0.mk (hb); have n2_ := Aside0.mk (ho); clear BK256; clear HB; clear HO_11; have BK256 := n0_; have HB := n1_; have HO259 := n2_; clear n0_ n1_ n2_; clear ho hb hg hat))
                    go_roundg k2
                    case measure => have := HJ3.out; have := HK2.out; omega
                    case rel => exact ⟨(y257), (wrap64 (x12_2 + t254)), (by first | rfl | (simp; done) | (simp [*]; done)), H', ⟨by have := HJ3.out; have := HK2.out; omega⟩, ⟨by (with_reducible repeat (first | apply Kd.R_alloc | apply Kd.R_drewN | apply Kd.R_drew)); exact Kd.R_mono HO259.out (fun _ hk => trivial)⟩, ⟨by repeat (first | (with_reducible first | exact HB.out | apply below_alloc | apply pw_below_drewN | apply below_drew1 | refine below_set ?_ GE256.out) | exact HB.out)⟩⟩
                  · rw [if_neg c16] at H
                    exact absurd H (by simp)
                · rw [if_neg c15] at H
                  have c15b0 : (t255 == 0) = false := beq_eq_false_iff_ne.mpr c15
                  have c15b1 : (t255 != 0) = true := bne_iff_ne.mpr c15
                  simp only [Option.some.injEq, Prod.mk.injEq] at H
                  obtain ⟨rfl, rfl, rfl, rfl⟩ := H
                  obtain ⟨i022, hi022, _, hsz22, _⟩ := info_parts info5
                  obtain ⟨A22, hcut22, hA22, hC22⟩ := print_drop_of (P := Try.prog) (Value.int .u8) 0 24 5 .i64 Try.underlying24 hi022 hsz22 A0 c0 l0 x12_2 (of_decide_eq_true (by first | (with_reducible assumption) | assumption)) (of_decide_eq_true (by first | (with_reducible assumption) | assumption)) HC0.out
                  have HR250 := Aside0.mk (Kd.C_of_reads (h1 := fun _ => rfl) (hA22 _ (Kd.reads_of_C HR0.out)))
                  have HC250 := Aside0.mk hC22
                  clear hA22 hC22 hi022 hsz22
                  go_wp2_with (first | ((with_reducible refine gate_callee (f := 23) rfl ?_); refine goesL_ (some 45) rfl rfl Try.func23 (by kernel_rfl) rfl #[.slice A22 (l0.drop (x12_2 : Int).toNat).length (c0 - x12_2.toNat)] rfl (by (try simp only [List.map_toArray, List.map_cons, List.map_nil]); first | done | (rw [show (l0.drop (x12_2 : Int).toNat).length = (l0.length - x12_2.toNat) from List.length_drop] <;> rfl) | rfl | (simp only [List.length_drop, List.length_take]; rfl)) ?_; (with_reducible refine (trommelref17_Decode.calls k2 _ _ (l0.drop (x12_2 : Int).toNat) t251 t252 t253 t254 t255 _ ?side1 ?side2 A14.out).mono ?_); (case side1 => repeat (first | exact (Kd.C_below HR250.out HB.out) | (with_reducible refine Kd.C_alloc ?_ _) | (with_reducible refine Kd.C_drewN ?_ _) | (with_reducible refine Kd.C_drew ?_))); (case side2 => exact HC250.out); rintro e w23 ⟨rfl, hb⟩; refine ⟨_, rfl, ?_⟩; have n0_ := Aside0.mk (Kd.R_below (by (with_reducible repeat (first | apply Kd.R_alloc | apply Kd.R_drewN | apply Kd.R_drew)); exact HO_11.out) hb); have n1_ := Aside0.mk (below_step (by repeat (first | (with_reducible first | exact HB.out | apply below_alloc | apply pw_below_drewN | apply below_drew1) | exact HB.out)) hb); clear HO_11; clear HB; have HO_11 := n0_; have HB := n1_; clear n0_ n1_; (try clear hb); (try clear hb2); (try clear hk); (try clear hi)) | ((with_reducible refine gate_dst (N := 13) rfl ?_); refine box_event ?hg (N := 13) ?hd (cs := #[.int .i64 0, .int .i64 0, .string (⟨#[]⟩ : ByteArray)]) (t := 32) ?hr ?_; (case hd => rfl); (case hg => rfl); (case hr => first | (go_simp; done) | (go_simp; rfl)); intro gb256 hg w24 hbox hb; have n0_ := Aside0.mk (Kd.R_below (Kd.R_elderB (by (with_reducible repeat (first | apply Kd.R_alloc | apply Kd.R_drewN | apply Kd.R_drew)); exact HO_11.out) gb256 (Nat.le_of_eq hg.symm)) hb); have n1_ := Aside0.mk (below_step (by repeat (first | (with_reducible first | exact HB.out | apply below_alloc | apply pw_below_drewN | apply below_drew1) | exact HB.out)) hb); have n2_ := Aside0.mk (hbox); have n3_ := Aside0.mk ((by rw [hg]; exact (below_size (by repeat (first | (with_reducible first | exact HB.out | apply below_alloc | apply pw_below_drewN | apply below_drew1) | exact HB.out))) : w.heap.size ≤ gb256)); have n4_ := Aside0.mk ((by rw [hg]; exact (below_size (by repeat (first | (with_reducible first | exact HB.out | apply below_alloc | apply pw_below_drewN | apply below_drew1) | exact HB.out))) : w.heap.size ≤ gb256)); clear HO_11; clear HB; have HO_11 := n0_; have HB := n1_; have BK256 := n2_; have GW256 := n3_; have GE256 := n4_; clear n0_ n1_ n2_ n3_ n4_; clear hb hbox hg; have hcz25_0 : w24.cell? ⟨gb256, 0, none⟩ = some (.int .i64 0) := (blk_cell BK256.out 0).trans rfl; have hcz25_1 : w24.cell? ⟨gb256, 1, none⟩ = some (.int .i64 0) := (blk_cell BK256.out 1).trans rfl; have hcz25_2 : w24.cell? ⟨gb256, 2, none⟩ = some (.string (⟨#[]⟩ : ByteArray)) := (blk_cell BK256.out 2).trans rfl; have hfz25_0 := blk_frozen BK256.out 0; have hfz25_1 := blk_frozen BK256.out 1; have hfz25_2 := blk_frozen BK256.out 2))
                  refine bodyPost_ret (results_list (rs := [.tmp 2, .tmp 3, .tmp 4, .tmp 5]) rfl (by simp) (.tmp (.tmp (.tmp (.tmp .nil))))) rfl ?_
                  exact ⟨_, by first | rfl | (simp [errW_none, errW_some] <;> rfl) | (simp [*, errW_none, errW_some] <;> rfl), by (with_reducible repeat (first | apply Kd.R_alloc | apply Kd.R_drewN | apply Kd.R_drew)); exact Kd.R_mono (Kd.R_far (p := ⟨gb256, 2, none⟩) (Kd.R_far (p := ⟨gb256, 1, none⟩) (Kd.R_far (p := ⟨gb256, 0, none⟩) (Kd.R_mono HO_11.out (fun k_ hk => (⟨hk, hk.2⟩ : _ ∧ k_ ≠ gb256))) (fun _ hk => hk.2) (.int .i64 t251)) (fun _ hk => hk.2) (.int .i64 t252)) (fun _ hk => hk.2) (.string t253)) (fun _ hk => trivial), by repeat (first | (with_reducible first | exact HB.out | apply below_alloc | apply pw_below_drewN | apply below_drew1 | refine below_set ?_ GE256.out) | exact HB.out)⟩
              · rw [if_neg c13] at H
                exact absurd H (by simp)
            · rw [if_neg c12] at H
              exact absurd H (by simp)

end Go.Proofs.Ytgnhadbadhgdgaa.Prt
