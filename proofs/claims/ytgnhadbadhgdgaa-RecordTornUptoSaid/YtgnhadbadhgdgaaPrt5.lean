/- What the Go functions of this text compute, each as a plain Lean function, and that the machine's call comes to it. Laid by a program of this session. -/
import Derived.Test.YtgnhadbadhgdgaaPrt0
import Derived.Test.YtgnhadbadhgdgaaPrt2
import Derived.Test.YtgnhadbadhgdgaaPrt3
import Derived.Test.YtgnhadbadhgdgaaPrt4
namespace Go.Proofs.Ytgnhadbadhgdgaa.Prt
open Go.RowKit Go.Proofs.YtgnhadbadhgdgaaW.PrintWords Go.Proofs.YtgnhadbadhgdgaaW.PrintLast Go.Proofs.YtgnhadbadhgdgaaW.PrintMore
attribute [local go_sem] max2_int min2_int max_two min_two max_three min_three max_four min_four   -- for this text's walks alone
set_option linter.unusedVariables false
set_option linter.unusedSimpArgs false

/-! ### trommellaw17_RecordPlays: function 3 -/
def trommellaw17_RecordPlays.l0 : Nat → Int → List Int → List Int → Int → Int → List Int → List Int → Int → List (S32) → Int → Int → Option (Bool)
  | 0, _, _, _, _, _, _, _, _, _, _, _ => none
  | k + 1, x6, x7, x9, x10, x12, x13, x15, x16, x55, x56, x57 => if x57 < x56 then (if 0 ≤ x57 then (if x57 < (x55.length : Int) then ((record_May.f ((rd_T32 x55 x57).f0) ((rd_T32 x55 x57).f1) ((rd_T32 x55 x57).f2)).bind fun t237 => ((trommelref16_May.f ((rd_T32 x55 x57).f0) ((rd_T32 x55 x57).f1) ((rd_T32 x55 x57).f2)).bind fun t238 => (if (t237 != t238) = true then (some false) else (trommellaw17_RecordPlays.l0 k x6 x7 x9 x10 x12 x13 x15 x16 x55 x56 (wrap64 (x57 + 1)))))) else (none)) else (none)) else (if x6 = x10 then (if x12 = x16 then ((trommellaw17_sameBytes.f x7 x9).bind fun t233 => (if t233 = true then ((trommellaw17_sameBytes.f x13 x15).bind fun t234 => (some t234)) else (some false))) else (some false)) else (some false))
def trommellaw17_RecordPlays.f (k : Nat) (l0 : List (S32)) (a1 : Int) : Option (Bool) := (trommellaw17_fixed.f k).bind fun t208 => (if t208 = true then ((record_Encode.f k l0).bind fun bt209 => ((record_Encode.f k l0).bind fun bt213 => ((trommelref17_Encode.f k l0).bind fun bt217 => ((record_Head.f a1).bind fun bt221 => ((record_Head.f a1).bind fun bt225 => ((trommelref17_Head.f k a1).bind fun bt229 => ((trommellaw17_over.f k bt209.1).bind fun _ => ((trommellaw17_over.f k bt221.1).bind fun _ => (trommellaw17_RecordPlays.l0 k bt209.2 bt213.1 bt217.1 bt217.2 bt221.2 bt225.1 bt229.1 bt229.2 l0 (l0.length : Int) 0))))))))) else (some false))
theorem trommellaw17_RecordPlays.mono_l : ∀ k, (∀ y0 y1 y2 y3 y4 y5 y6 y7 y8 y9 y10, LeO (trommellaw17_RecordPlays.l0 k y0 y1 y2 y3 y4 y5 y6 y7 y8 y9 y10) (trommellaw17_RecordPlays.l0 (k + 1) y0 y1 y2 y3 y4 y5 y6 y7 y8 y9 y10))
  | 0 => fun _ _ _ _ _ _ _ _ _ _ _ r h => by simp [trommellaw17_RecordPlays.l0] at h
  | k + 1 => by
    have ih0 := trommellaw17_RecordPlays.mono_l k
    · intro y0 y1 y2 y3 y4 y5 y6 y7 y8 y9 y10
      unfold trommellaw17_RecordPlays.l0
      repeat' first
      | (with_reducible exact ih0 _ _ _ _ _ _ _ _ _ _ _)
      | (with_reducible exact record_Encode.mono _ _)
      | (with_reducible exact trommellaw17_fixed.mono _)
      | (with_reducible exact trommellaw17_over.mono _ _)
      | (with_reducible exact trommelref17_Encode.mono _ _)
      | (with_reducible exact trommelref17_Head.mono _ _)
      | (with_reducible exact LeO.refl _)
      | (with_reducible exact LeO.none _)
      | (with_reducible refine LeO.ite ?_ ?_)
      | (with_reducible refine LeO.bind ?_ (fun _ => ?_))
      | exact ih0 _ _ _ _ _ _ _ _ _ _ _
      | exact record_Encode.mono _ _
      | exact trommellaw17_fixed.mono _
      | exact trommellaw17_over.mono _ _
      | exact trommelref17_Encode.mono _ _
      | exact trommelref17_Head.mono _ _
      | exact LeO.none _
      | refine LeO.ite ?_ ?_
      | refine LeO.bind ?_ (fun _ => ?_)
theorem trommellaw17_RecordPlays.mono : ∀ a0 a1 k, LeO (trommellaw17_RecordPlays.f k a0 a1) (trommellaw17_RecordPlays.f (k + 1) a0 a1) := by
  intro a0 a1 k
  have ih0 := trommellaw17_RecordPlays.mono_l k
  unfold trommellaw17_RecordPlays.f
  repeat' first
      | (with_reducible exact ih0 _ _ _ _ _ _ _ _ _ _ _)
      | (with_reducible exact record_Encode.mono _ _)
      | (with_reducible exact trommellaw17_fixed.mono _)
      | (with_reducible exact trommellaw17_over.mono _ _)
      | (with_reducible exact trommelref17_Encode.mono _ _)
      | (with_reducible exact trommelref17_Head.mono _ _)
      | (with_reducible exact LeO.refl _)
      | (with_reducible exact LeO.none _)
      | (with_reducible refine LeO.ite ?_ ?_)
      | (with_reducible refine LeO.bind ?_ (fun _ => ?_))
      | exact ih0 _ _ _ _ _ _ _ _ _ _ _
      | exact record_Encode.mono _ _
      | exact trommellaw17_fixed.mono _
      | exact trommellaw17_over.mono _ _
      | exact trommelref17_Encode.mono _ _
      | exact trommelref17_Head.mono _ _
      | exact LeO.none _
      | refine LeO.ite ?_ ?_
      | refine LeO.bind ?_ (fun _ => ?_)
set_option maxHeartbeats 8000000 in
set_option maxRecDepth 100000 in
theorem trommellaw17_RecordPlays.calls (k : Nat) (A0 : Option Addr) (c0 : Nat) (l0 : List (S32)) (a1 : Int) (r : Bool) (w : World) (hr0 : Kd.C k32 w A0 l0.length l0) (hc0 : l0.length ≤ c0) (h : trommellaw17_RecordPlays.f k l0 a1 = some r) :
    Calls Try.prog 3 #[.slice A0 l0.length c0, .int .i64 a1] w fun e w' => e = .returned (.bool r) ∧ Below w.heap.size w w' := by
  have hu32 := Try.underlying32
  have HR0 := Aside0.mk hr0
  have HC0 := Aside0.mk hc0
  clear hr0 hc0
  have HB := Aside0.mk (Below.refl w.heap.size w)
  have H : ((trommellaw17_fixed.f k).bind fun t208 => (if t208 = true then ((record_Encode.f k l0).bind fun bt209 => ((record_Encode.f k l0).bind fun bt213 => ((trommelref17_Encode.f k l0).bind fun bt217 => ((record_Head.f a1).bind fun bt221 => ((record_Head.f a1).bind fun bt225 => ((trommelref17_Head.f k a1).bind fun bt229 => ((trommellaw17_over.f k bt209.1).bind fun _ => ((trommellaw17_over.f k bt221.1).bind fun _ => (trommellaw17_RecordPlays.l0 k bt209.2 bt213.1 bt217.1 bt217.2 bt221.2 bt225.1 bt229.1 bt229.2 l0 (l0.length : Int) 0))))))))) else (some false))) = some r := h
  clear h
  replace H := Option.bind_eq_some_iff.mp H
  obtain ⟨t208, A30, H⟩ := H
  replace H : (if t208 = true then ((record_Encode.f k l0).bind fun bt209 => ((record_Encode.f k l0).bind fun bt213 => ((trommelref17_Encode.f k l0).bind fun bt217 => ((record_Head.f a1).bind fun bt221 => ((record_Head.f a1).bind fun bt225 => ((trommelref17_Head.f k a1).bind fun bt229 => ((trommellaw17_over.f k bt209.1).bind fun _ => ((trommellaw17_over.f k bt221.1).bind fun _ => (trommellaw17_RecordPlays.l0 k bt209.2 bt213.1 bt217.1 bt217.2 bt221.2 bt225.1 bt229.1 bt229.2 l0 (l0.length : Int) 0))))))))) else (some false)) = some r := H
  have A3 := Aside0.mk A30
  clear A30
  by_cases c4 : t208 = true
  · subst c4
    have H1 : ((record_Encode.f k l0).bind fun bt209 => ((record_Encode.f k l0).bind fun bt213 => ((trommelref17_Encode.f k l0).bind fun bt217 => ((record_Head.f a1).bind fun bt221 => ((record_Head.f a1).bind fun bt225 => ((trommelref17_Head.f k a1).bind fun bt229 => ((trommellaw17_over.f k bt209.1).bind fun _ => ((trommellaw17_over.f k bt221.1).bind fun _ => (trommellaw17_RecordPlays.l0 k bt209.2 bt213.1 bt217.1 bt217.2 bt221.2 bt225.1 bt229.1 bt229.2 l0 (l0.length : Int) 0))))))))) = some r := by rw [if_pos rfl] at H; exact H
    clear H
    have H := H1
    clear H1
    replace H := Option.bind_eq_some_iff.mp H
    obtain ⟨⟨t209, t210⟩, A50, H⟩ := H
    replace H : ((record_Encode.f k l0).bind fun bt213 => ((trommelref17_Encode.f k l0).bind fun bt217 => ((record_Head.f a1).bind fun bt221 => ((record_Head.f a1).bind fun bt225 => ((trommelref17_Head.f k a1).bind fun bt229 => ((trommellaw17_over.f k t209).bind fun _ => ((trommellaw17_over.f k bt221.1).bind fun _ => (trommellaw17_RecordPlays.l0 k t210 bt213.1 bt217.1 bt217.2 bt221.2 bt225.1 bt229.1 bt229.2 l0 (l0.length : Int) 0)))))))) = some r := H
    have A5 := Aside0.mk A50
    clear A50
    replace H := Option.bind_eq_some_iff.mp H
    obtain ⟨⟨t213, t214⟩, A60, H⟩ := H
    replace H : ((trommelref17_Encode.f k l0).bind fun bt217 => ((record_Head.f a1).bind fun bt221 => ((record_Head.f a1).bind fun bt225 => ((trommelref17_Head.f k a1).bind fun bt229 => ((trommellaw17_over.f k t209).bind fun _ => ((trommellaw17_over.f k bt221.1).bind fun _ => (trommellaw17_RecordPlays.l0 k t210 t213 bt217.1 bt217.2 bt221.2 bt225.1 bt229.1 bt229.2 l0 (l0.length : Int) 0))))))) = some r := H
    have A6 := Aside0.mk A60
    clear A60
    replace H := Option.bind_eq_some_iff.mp H
    obtain ⟨⟨t217, t218⟩, A70, H⟩ := H
    replace H : ((record_Head.f a1).bind fun bt221 => ((record_Head.f a1).bind fun bt225 => ((trommelref17_Head.f k a1).bind fun bt229 => ((trommellaw17_over.f k t209).bind fun _ => ((trommellaw17_over.f k bt221.1).bind fun _ => (trommellaw17_RecordPlays.l0 k t210 t213 t217 t218 bt221.2 bt225.1 bt229.1 bt229.2 l0 (l0.length : Int) 0)))))) = some r := H
    have A7 := Aside0.mk A70
    clear A70
    replace H := Option.bind_eq_some_iff.mp H
    obtain ⟨⟨t221, t222⟩, A80, H⟩ := H
    replace H : ((record_Head.f a1).bind fun bt225 => ((trommelref17_Head.f k a1).bind fun bt229 => ((trommellaw17_over.f k t209).bind fun _ => ((trommellaw17_over.f k t221).bind fun _ => (trommellaw17_RecordPlays.l0 k t210 t213 t217 t218 t222 bt225.1 bt229.1 bt229.2 l0 (l0.length : Int) 0))))) = some r := H
    have A8 := Aside0.mk A80
    clear A80
    replace H := Option.bind_eq_some_iff.mp H
    obtain ⟨⟨t225, t226⟩, A90, H⟩ := H
    replace H : ((trommelref17_Head.f k a1).bind fun bt229 => ((trommellaw17_over.f k t209).bind fun _ => ((trommellaw17_over.f k t221).bind fun _ => (trommellaw17_RecordPlays.l0 k t210 t213 t217 t218 t222 t225 bt229.1 bt229.2 l0 (l0.length : Int) 0)))) = some r := H
    have A9 := Aside0.mk A90
    clear A90
    replace H := Option.bind_eq_some_iff.mp H
    obtain ⟨⟨t229, t230⟩, A100, H⟩ := H
    replace H : ((trommellaw17_over.f k t209).bind fun _ => ((trommellaw17_over.f k t221).bind fun _ => (trommellaw17_RecordPlays.l0 k t210 t213 t217 t218 t222 t225 t229 t230 l0 (l0.length : Int) 0))) = some r := H
    have A10 := Aside0.mk A100
    clear A100
    replace H := Option.bind_eq_some_iff.mp H
    obtain ⟨_, A110, H⟩ := H
    replace H : ((trommellaw17_over.f k t221).bind fun _ => (trommellaw17_RecordPlays.l0 k t210 t213 t217 t218 t222 t225 t229 t230 l0 (l0.length : Int) 0)) = some r := H
    have A11 := Aside0.mk A110
    clear A110
    replace H := Option.bind_eq_some_iff.mp H
    obtain ⟨_, A120, H⟩ := H
    replace H : (trommellaw17_RecordPlays.l0 k t210 t213 t217 t218 t222 t225 t229 t230 l0 (l0.length : Int) 0) = some r := H
    have A12 := Aside0.mk A120
    clear A120
    have H' := Aside0.mk H
    clear H
    go_enter Try.func3, Try.ntmps3
    go_wp2_with (first | ((with_reducible refine gate_callee (f := 9) rfl ?_); refine goesL_ (some 19) rfl rfl Try.func9 (by kernel_rfl) rfl #[] rfl (by (try simp only [List.map_toArray, List.map_cons, List.map_nil]); first | done | rfl | (simp only [List.length_drop, List.length_take]; rfl)) ?_; (with_reducible refine (trommellaw17_fixed.calls k  true _ A3.out).mono ?_); rintro e w13 ⟨rfl, hb⟩; refine ⟨_, rfl, ?_⟩; have n0_ := Aside0.mk (below_step (by repeat (first | (with_reducible first | exact HB.out | apply below_alloc | apply pw_below_drewN | apply below_drew1) | exact HB.out)) hb); clear HB; have HB := n0_; clear n0_; (try clear hb); (try clear hb2); (try clear hk); (try clear hi)) | ((with_reducible refine gate_callee (f := 10) rfl ?_); refine goesL_ (some 23) rfl rfl Try.func10 (by kernel_rfl) rfl #[.slice A0 l0.length c0] rfl (by (try simp only [List.map_toArray, List.map_cons, List.map_nil]); first | done | rfl | (simp only [List.length_drop, List.length_take]; rfl)) ?_; (with_reducible refine (record_Encode.calls k _ _ l0 t209 t210 _ ?side1 ?side2 A5.out).mono ?_); (case side1 => repeat (first | exact (Kd.C_below HR0.out HB.out) | (with_reducible refine Kd.C_alloc ?_ _) | (with_reducible refine Kd.C_drewN ?_ _) | (with_reducible refine Kd.C_drew ?_))); (case side2 => exact HC0.out); rintro e w14 ⟨v211, rfl, ho0, hb⟩; refine ⟨_, rfl, ?_⟩; have n0_ := Aside0.mk (Kd.R_lower ho0 (below_size (by repeat (first | (with_reducible first | exact HB.out | apply below_alloc | apply pw_below_drewN | apply below_drew1) | exact HB.out)))); have n1_ := Aside0.mk (below_step (by repeat (first | (with_reducible first | exact HB.out | apply below_alloc | apply pw_below_drewN | apply below_drew1) | exact HB.out)) hb); clear HB; have HO212 := n0_; have HB := n1_; clear n0_ n1_; (try clear hb); (try clear hb2); (try clear hk); (try clear hi); (try clear ho0)) | ((with_reducible refine gate_callee (f := 10) rfl ?_); refine goesL_ (some 28) rfl rfl Try.func10 (by kernel_rfl) rfl #[.slice A0 l0.length c0] rfl (by (try simp only [List.map_toArray, List.map_cons, List.map_nil]); first | done | rfl | (simp only [List.length_drop, List.length_take]; rfl)) ?_; (with_reducible refine (record_Encode.calls k _ _ l0 t213 t214 _ ?side1 ?side2 A6.out).mono ?_); (case side1 => repeat (first | exact (Kd.C_below HR0.out HB.out) | (with_reducible refine Kd.C_alloc ?_ _) | (with_reducible refine Kd.C_drewN ?_ _) | (with_reducible refine Kd.C_drew ?_))); (case side2 => exact HC0.out); rintro e w15 ⟨v215, rfl, ho0, hb⟩; refine ⟨_, rfl, ?_⟩; have n0_ := Aside0.mk (Kd.R_elder' (by (with_reducible repeat (first | apply Kd.R_alloc | apply Kd.R_drewN | apply Kd.R_drew)); exact HO212.out) (Kd.R_base ho0) hb); have n1_ := Aside0.mk (Kd.R_lower (Kd.R_new' ho0 (Kd.R_lt (by (with_reducible repeat (first | apply Kd.R_alloc | apply Kd.R_drewN | apply Kd.R_drew)); exact HO212.out))) (below_size (by repeat (first | (with_reducible first | exact HB.out | apply below_alloc | apply pw_below_drewN | apply below_drew1) | exact HB.out)))); have n2_ := Aside0.mk (below_step (by repeat (first | (with_reducible first | exact HB.out | apply below_alloc | apply pw_below_drewN | apply below_drew1) | exact HB.out)) hb); clear HO212; clear HB; have HO212 := n0_; have HO216 := n1_; have HB := n2_; clear n0_ n1_ n2_; (try clear hb); (try clear hb2); (try clear hk); (try clear hi); (try clear ho0)) | ((with_reducible refine gate_callee (f := 11) rfl ?_); refine goesL_ (some 33) rfl rfl Try.func11 (by kernel_rfl) rfl #[.slice A0 l0.length c0] rfl (by (try simp only [List.map_toArray, List.map_cons, List.map_nil]); first | done | rfl | (simp only [List.length_drop, List.length_take]; rfl)) ?_; (with_reducible refine (trommelref17_Encode.calls k _ _ l0 t217 t218 _ ?side1 ?side2 A7.out).mono ?_); (case side1 => repeat (first | exact (Kd.C_below HR0.out HB.out) | (with_reducible refine Kd.C_alloc ?_ _) | (with_reducible refine Kd.C_drewN ?_ _) | (with_reducible refine Kd.C_drew ?_))); (case side2 => exact HC0.out); rintro e w16 ⟨v219, rfl, ho0, hb⟩; refine ⟨_, rfl, ?_⟩; have n0_ := Aside0.mk (Kd.R_elder' (by (with_reducible repeat (first | apply Kd.R_alloc | apply Kd.R_drewN | apply Kd.R_drew)); exact HO212.out) (Kd.R_base ho0) hb); have n1_ := Aside0.mk (Kd.R_elder' (by (with_reducible repeat (first | apply Kd.R_alloc | apply Kd.R_drewN | apply Kd.R_drew)); exact HO216.out) (Kd.R_base ho0) hb); have n2_ := Aside0.mk (Kd.R_lower (Kd.R_new' (Kd.R_new' ho0 (Kd.R_lt (by (with_reducible repeat (first | apply Kd.R_alloc | apply Kd.R_drewN | apply Kd.R_drew)); exact HO212.out))) (Kd.R_lt (by (with_reducible repeat (first | apply Kd.R_alloc | apply Kd.R_drewN | apply Kd.R_drew)); exact HO216.out))) (below_size (by repeat (first | (with_reducible first | exact HB.out | apply below_alloc | apply pw_below_drewN | apply below_drew1) | exact HB.out)))); have n3_ := Aside0.mk (below_step (by repeat (first | (with_reducible first | exact HB.out | apply below_alloc | apply pw_below_drewN | apply below_drew1) | exact HB.out)) hb); clear HO212; clear HO216; clear HB; have HO212 := n0_; have HO216 := n1_; have HO220 := n2_; have HB := n3_; clear n0_ n1_ n2_ n3_; (try clear hb); (try clear hb2); (try clear hk); (try clear hi); (try clear ho0)) | ((with_reducible refine gate_callee (f := 12) rfl ?_); refine goesL_ (some 38) rfl rfl Try.func12 (by kernel_rfl) rfl #[.int .i64 a1] rfl (by (try simp only [List.map_toArray, List.map_cons, List.map_nil]); first | done | rfl | (simp only [List.length_drop, List.length_take]; rfl)) ?_; (with_reducible refine (record_Head.calls a1 t221 t222 _ A8.out).mono ?_); rintro e w17 ⟨v223, rfl, ho0, hb⟩; refine ⟨_, rfl, ?_⟩; have n0_ := Aside0.mk (Kd.R_elder' (by (with_reducible repeat (first | apply Kd.R_alloc | apply Kd.R_drewN | apply Kd.R_drew)); exact HO212.out) (Kd.R_base ho0) hb); have n1_ := Aside0.mk (Kd.R_elder' (by (with_reducible repeat (first | apply Kd.R_alloc | apply Kd.R_drewN | apply Kd.R_drew)); exact HO216.out) (Kd.R_base ho0) hb); have n2_ := Aside0.mk (Kd.R_elder' (by (with_reducible repeat (first | apply Kd.R_alloc | apply Kd.R_drewN | apply Kd.R_drew)); exact HO220.out) (Kd.R_base ho0) hb); have n3_ := Aside0.mk (Kd.R_lower (Kd.R_new' (Kd.R_new' (Kd.R_new' ho0 (Kd.R_lt (by (with_reducible repeat (first | apply Kd.R_alloc | apply Kd.R_drewN | apply Kd.R_drew)); exact HO212.out))) (Kd.R_lt (by (with_reducible repeat (first | apply Kd.R_alloc | apply Kd.R_drewN | apply Kd.R_drew)); exact HO216.out))) (Kd.R_lt (by (with_reducible repeat (first | apply Kd.R_alloc | apply Kd.R_drewN | apply Kd.R_drew)); exact HO220.out))) (below_size (by repeat (first | (with_reducible first | exact HB.out | apply below_alloc | apply pw_below_drewN | apply below_drew1) | exact HB.out)))); have n4_ := Aside0.mk (below_step (by repeat (first | (with_reducible first | exact HB.out | apply below_alloc | apply pw_below_drewN | apply below_drew1) | exact HB.out)) hb); clear HO212; clear HO216; clear HO220; clear HB; have HO212 := n0_; have HO216 := n1_; have HO220 := n2_; have HO224 := n3_; have HB := n4_; clear n0_ n1_ n2_ n3_ n4_; (try clear hb); (try clear hb2); (try clear hk); (try clear hi); (try clear ho0)) | ((with_reducible refine gate_callee (f := 12) rfl ?_); refine goesL_ (some 43) rfl rfl Try.func12 (by kernel_rfl) rfl #[.int .i64 a1] rfl (by (try simp only [List.map_toArray, List.map_cons, List.map_nil]); first | done | rfl | (simp only [List.length_drop, List.length_take]; rfl)) ?_; (with_reducible refine (record_Head.calls a1 t225 t226 _ A9.out).mono ?_); rintro e w18 ⟨v227, rfl, ho0, hb⟩; refine ⟨_, rfl, ?_⟩; have n0_ := Aside0.mk (Kd.R_elder' (by (with_reducible repeat (first | apply Kd.R_alloc | apply Kd.R_drewN | apply Kd.R_drew)); exact HO212.out) (Kd.R_base ho0) hb); have n1_ := Aside0.mk (Kd.R_elder' (by (with_reducible repeat (first | apply Kd.R_alloc | apply Kd.R_drewN | apply Kd.R_drew)); exact HO216.out) (Kd.R_base ho0) hb); have n2_ := Aside0.mk (Kd.R_elder' (by (with_reducible repeat (first | apply Kd.R_alloc | apply Kd.R_drewN | apply Kd.R_drew)); exact HO220.out) (Kd.R_base ho0) hb); have n3_ := Aside0.mk (Kd.R_elder' (by (with_reducible repeat (first | apply Kd.R_alloc | apply Kd.R_drewN | apply Kd.R_drew)); exact HO224.out) (Kd.R_base ho0) hb); have n4_ := Aside0.mk (Kd.R_lower (Kd.R_new' (Kd.R_new' (Kd.R_new' (Kd.R_new' ho0 (Kd.R_lt (by (with_reducible repeat (first | apply Kd.R_alloc | apply Kd.R_drewN | apply Kd.R_drew)); exact HO212.out))) (Kd.R_lt (by (with_reducible repeat (first | apply Kd.R_alloc | apply Kd.R_drewN | apply Kd.R_drew)); exact HO216.out))) (Kd.R_lt (by (with_reducible repeat (first | apply Kd.R_alloc | apply Kd.R_drewN | apply Kd.R_drew)); exact HO220.out))) (Kd.R_lt (by (with_reducible repeat (first | apply Kd.R_alloc | apply Kd.R_drewN | apply Kd.R_drew)); exact HO224.out))) (below_size (by repeat (first | (with_reducible first | exact HB.out | apply below_alloc | apply pw_below_drewN | apply below_drew1) | exact HB.out)))); have n5_ := Aside0.mk (below_step (by repeat (first | (with_reducible first | exact HB.out | apply below_alloc | apply pw_below_drewN | apply below_drew1) | exact HB.out)) hb); clear HO212; clear HO216; clear HO220; clear HO224; clear HB; have HO212 := n0_; have HO216 := n1_; have HO220 := n2_; have HO224 := n3_; have HO228 := n4_; have HB := n5_; clear n0_ n1_ n2_ n3_ n4_ n5_; (try clear hb); (try clear hb2); (try clear hk); (try clear hi); (try clear ho0)) | ((with_reducible refine gate_callee (f := 13) rfl ?_); refine goesL_ (some 48) rfl rfl Try.func13 (by kernel_rfl) rfl #[.int .i64 a1] rfl (by (try simp only [List.map_toArray, List.map_cons, List.map_nil]); first | done | rfl | (simp only [List.length_drop, List.length_take]; rfl)) ?_; (with_reducible refine (trommelref17_Head.calls k a1 t229 t230 _ A10.out).mono ?_); rintro e w19 ⟨v231, rfl, ho0, hb⟩; refine ⟨_, rfl, ?_⟩; have n0_ := Aside0.mk (Kd.R_elder' (by (with_reducible repeat (first | apply Kd.R_alloc | apply Kd.R_drewN | apply Kd.R_drew)); exact HO212.out) (Kd.R_base ho0) hb); have n1_ := Aside0.mk (Kd.R_elder' (by (with_reducible repeat (first | apply Kd.R_alloc | apply Kd.R_drewN | apply Kd.R_drew)); exact HO216.out) (Kd.R_base ho0) hb); have n2_ := Aside0.mk (Kd.R_elder' (by (with_reducible repeat (first | apply Kd.R_alloc | apply Kd.R_drewN | apply Kd.R_drew)); exact HO220.out) (Kd.R_base ho0) hb); have n3_ := Aside0.mk (Kd.R_elder' (by (with_reducible repeat (first | apply Kd.R_alloc | apply Kd.R_drewN | apply Kd.R_drew)); exact HO224.out) (Kd.R_base ho0) hb); have n4_ := Aside0.mk (Kd.R_elder' (by (with_reducible repeat (first | apply Kd.R_alloc | apply Kd.R_drewN | apply Kd.R_drew)); exact HO228.out) (Kd.R_base ho0) hb); have n5_ := Aside0.mk (Kd.R_lower (Kd.R_new' (Kd.R_new' (Kd.R_new' (Kd.R_new' (Kd.R_new' ho0 (Kd.R_lt (by (with_reducible repeat (first | apply Kd.R_alloc | apply Kd.R_drewN | apply Kd.R_drew)); exact HO212.out))) (Kd.R_lt (by (with_reducible repeat (first | apply Kd.R_alloc | apply Kd.R_drewN | apply Kd.R_drew)); exact HO216.out))) (Kd.R_lt (by (with_reducible repeat (first | apply Kd.R_alloc | apply Kd.R_drewN | apply Kd.R_drew)); exact HO220.out))) (Kd.R_lt (by (with_reducible repeat (first | apply Kd.R_alloc | apply Kd.R_drewN | apply Kd.R_drew)); exact HO224.out))) (Kd.R_lt (by (with_reducible repeat (first | apply Kd.R_alloc | apply Kd.R_drewN | apply Kd.R_drew)); exact HO228.out))) (below_size (by repeat (first | (with_reducible first | exact HB.out | apply below_alloc | apply pw_below_drewN | apply below_drew1) | exact HB.out)))); have n6_ := Aside0.mk (below_step (by repeat (first | (with_reducible first | exact HB.out | apply below_alloc | apply pw_below_drewN | apply below_drew1) | exact HB.out)) hb); clear HO212; clear HO216; clear HO220; clear HO224; clear HO228; clear HB; have HO212 := n0_; have HO216 := n1_; have HO220 := n2_; have HO224 := n3_; have HO228 := n4_; have HO232 := n5_; have HB := n6_; clear n0_ n1_ n2_ n3_ n4_ n5_ n6_; (try clear hb); (try clear hb2); (try clear hk); (try clear hi); (try clear ho0); obtain ⟨Ao20, co20, eo20⟩ := Kd.R_slice HO212.out; subst eo20) | ((with_reducible refine gate_callee (f := 14) rfl ?_); refine goesL_ (some 52) rfl rfl Try.func14 (by kernel_rfl) rfl #[.slice Ao20 t209.length co20] rfl (by (try simp only [List.map_toArray, List.map_cons, List.map_nil]); first | done | rfl | (simp only [List.length_drop, List.length_take]; rfl)) ?_; (with_reducible refine (trommellaw17_over.calls k (fun k_ => some k_ = (.slice Ao20 t209.length co20 : Value).ownBlock) (.slice Ao20 t209.length co20) t209  w _ ?side1 ?side2 A11.out).mono ?_); (case side1 => repeat (first | (with_reducible first | exact HB.out | apply below_alloc | apply pw_below_drewN | apply below_drew1) | exact HB.out)); (case side2 => exact Kd.R_tight rfl HO212.out); rintro e w21 ⟨rfl, hb, hkp⟩; refine ⟨_, rfl, ?_⟩; have n0_ := Aside0.mk (Kd.R_mono (ok' := fun k_ => some k_ ≠ (v219 : Value).ownBlock ∧ some k_ ≠ (v223 : Value).ownBlock ∧ some k_ ≠ (v227 : Value).ownBlock ∧ some k_ ≠ (v231 : Value).ownBlock) (Kd.R_keptB (HO216.out) hkp (fun k_ hk_ hs_ => (hk_.1.1.1.1.2) hs_)) (fun k_ hk_ => ⟨hk_.1.1.1.1.2, hk_.1.1.1.2, hk_.1.1.2, hk_.1.2⟩)); have n1_ := Aside0.mk (Kd.R_mono (ok' := fun k_ => some k_ ≠ (v215 : Value).ownBlock ∧ some k_ ≠ (v223 : Value).ownBlock ∧ some k_ ≠ (v227 : Value).ownBlock ∧ some k_ ≠ (v231 : Value).ownBlock) (Kd.R_keptB (HO220.out) hkp (fun k_ hk_ hs_ => (hk_.1.1.1.1.2) hs_)) (fun k_ hk_ => ⟨hk_.1.1.1.1.2, hk_.1.1.1.2, hk_.1.1.2, hk_.1.2⟩)); have n2_ := Aside0.mk (Kd.R_mono (ok' := fun k_ => some k_ ≠ (v215 : Value).ownBlock ∧ some k_ ≠ (v219 : Value).ownBlock ∧ some k_ ≠ (v227 : Value).ownBlock ∧ some k_ ≠ (v231 : Value).ownBlock) (Kd.R_keptB (HO224.out) hkp (fun k_ hk_ hs_ => (hk_.1.1.1.1.2) hs_)) (fun k_ hk_ => ⟨hk_.1.1.1.1.2, hk_.1.1.1.2, hk_.1.1.2, hk_.1.2⟩)); have n3_ := Aside0.mk (Kd.R_mono (ok' := fun k_ => some k_ ≠ (v215 : Value).ownBlock ∧ some k_ ≠ (v219 : Value).ownBlock ∧ some k_ ≠ (v223 : Value).ownBlock ∧ some k_ ≠ (v231 : Value).ownBlock) (Kd.R_keptB (HO228.out) hkp (fun k_ hk_ hs_ => (hk_.1.1.1.1.2) hs_)) (fun k_ hk_ => ⟨hk_.1.1.1.1.2, hk_.1.1.1.2, hk_.1.1.2, hk_.1.2⟩)); have n4_ := Aside0.mk (Kd.R_mono (ok' := fun k_ => some k_ ≠ (v215 : Value).ownBlock ∧ some k_ ≠ (v219 : Value).ownBlock ∧ some k_ ≠ (v223 : Value).ownBlock ∧ some k_ ≠ (v227 : Value).ownBlock) (Kd.R_keptB (HO232.out) hkp (fun k_ hk_ hs_ => (hk_.1.1.1.1.2) hs_)) (fun k_ hk_ => ⟨hk_.1.1.1.1.2, hk_.1.1.1.2, hk_.1.1.2, hk_.1.2⟩)); have n5_ := Aside0.mk (hb); clear HO216; clear HO220; clear HO224; clear HO228; clear HO232; clear HB; clear HO212; have HO216 := n0_; have HO220 := n1_; have HO224 := n2_; have HO228 := n3_; have HO232 := n4_; have HB := n5_; clear n0_ n1_ n2_ n3_ n4_ n5_; (try clear hb); (try clear hkp); obtain ⟨Ao22, co22, eo22⟩ := Kd.R_slice HO224.out; subst eo22) | ((with_reducible refine gate_callee (f := 14) rfl ?_); refine goesL_ (some 54) rfl rfl Try.func14 (by kernel_rfl) rfl #[.slice Ao22 t221.length co22] rfl (by (try simp only [List.map_toArray, List.map_cons, List.map_nil]); first | done | rfl | (simp only [List.length_drop, List.length_take]; rfl)) ?_; (with_reducible refine (trommellaw17_over.calls k (fun k_ => some k_ = (.slice Ao22 t221.length co22 : Value).ownBlock) (.slice Ao22 t221.length co22) t221  w _ ?side1 ?side2 A12.out).mono ?_); (case side1 => repeat (first | (with_reducible first | exact HB.out | apply below_alloc | apply pw_below_drewN | apply below_drew1) | exact HB.out)); (case side2 => exact Kd.R_tight rfl HO224.out); rintro e w23 ⟨rfl, hb, hkp⟩; refine ⟨_, rfl, ?_⟩; have n0_ := Aside0.mk (Kd.R_mono (ok' := fun k_ => some k_ ≠ (v219 : Value).ownBlock ∧ some k_ ≠ (v227 : Value).ownBlock ∧ some k_ ≠ (v231 : Value).ownBlock) (Kd.R_keptB (HO216.out) hkp (fun k_ hk_ hs_ => (hk_.2.1) hs_)) (fun k_ hk_ => ⟨hk_.1.1, hk_.1.2.2.1, hk_.1.2.2.2⟩)); have n1_ := Aside0.mk (Kd.R_mono (ok' := fun k_ => some k_ ≠ (v215 : Value).ownBlock ∧ some k_ ≠ (v227 : Value).ownBlock ∧ some k_ ≠ (v231 : Value).ownBlock) (Kd.R_keptB (HO220.out) hkp (fun k_ hk_ hs_ => (hk_.2.1) hs_)) (fun k_ hk_ => ⟨hk_.1.1, hk_.1.2.2.1, hk_.1.2.2.2⟩)); have n2_ := Aside0.mk (Kd.R_mono (ok' := fun k_ => some k_ ≠ (v215 : Value).ownBlock ∧ some k_ ≠ (v219 : Value).ownBlock ∧ some k_ ≠ (v231 : Value).ownBlock) (Kd.R_keptB (HO228.out) hkp (fun k_ hk_ hs_ => (hk_.2.2.1) hs_)) (fun k_ hk_ => ⟨hk_.1.1, hk_.1.2.1, hk_.1.2.2.2⟩)); have n3_ := Aside0.mk (Kd.R_mono (ok' := fun k_ => some k_ ≠ (v215 : Value).ownBlock ∧ some k_ ≠ (v219 : Value).ownBlock ∧ some k_ ≠ (v227 : Value).ownBlock) (Kd.R_keptB (HO232.out) hkp (fun k_ hk_ hs_ => (hk_.2.2.1) hs_)) (fun k_ hk_ => ⟨hk_.1.1, hk_.1.2.1, hk_.1.2.2.2⟩)); have n4_ := Aside0.mk (hb); clear HO216; clear HO220; clear HO228; clear HO232; clear HB; clear HO224; have HO216 := n0_; have HO220 := n1_; have HO228 := n2_; have HO232 := n3_; have HB := n4_; clear n0_ n1_ n2_ n3_ n4_; (try clear hb); (try clear hkp)))
    go_loopg [57] k (fun kq v57 w' => ∃ (x57_1 : Int), v57 = .int .i64 x57_1 ∧ Aside0 (trommellaw17_RecordPlays.l0 kq t210 t213 t217 t218 t222 t225 t229 t230 l0 (l0.length : Int) x57_1 = some r) ∧ Aside0 (kq ≤ k) ∧ Aside0 (Kd.R (Kd.int .u8) 5 w' w.heap.size (fun k_ => some k_ ≠ (v219 : Value).ownBlock ∧ some k_ ≠ (v227 : Value).ownBlock ∧ some k_ ≠ (v231 : Value).ownBlock) v215 t213) ∧ Aside0 (Kd.R (Kd.int .u8) 5 w' w.heap.size (fun k_ => some k_ ≠ (v215 : Value).ownBlock ∧ some k_ ≠ (v227 : Value).ownBlock ∧ some k_ ≠ (v231 : Value).ownBlock) v219 t217) ∧ Aside0 (Kd.R (Kd.int .u8) 5 w' w.heap.size (fun k_ => some k_ ≠ (v215 : Value).ownBlock ∧ some k_ ≠ (v219 : Value).ownBlock ∧ some k_ ≠ (v231 : Value).ownBlock) v227 t225) ∧ Aside0 (Kd.R (Kd.int .u8) 5 w' w.heap.size (fun k_ => some k_ ≠ (v215 : Value).ownBlock ∧ some k_ ≠ (v219 : Value).ownBlock ∧ some k_ ≠ (v227 : Value).ownBlock) v231 t229) ∧ Aside0 (Below w.heap.size w w'))
    case atStart => exact ⟨(0), (by first | rfl | (simp; done) | (simp [*]; done)), H', ⟨Nat.le_refl _⟩, ⟨by (with_reducible repeat (first | apply Kd.R_alloc | apply Kd.R_drewN | apply Kd.R_drew)); exact HO216.out⟩, ⟨by (with_reducible repeat (first | apply Kd.R_alloc | apply Kd.R_drewN | apply Kd.R_drew)); exact HO220.out⟩, ⟨by (with_reducible repeat (first | apply Kd.R_alloc | apply Kd.R_drewN | apply Kd.R_drew)); exact HO228.out⟩, ⟨by (with_reducible repeat (first | apply Kd.R_alloc | apply Kd.R_drewN | apply Kd.R_drew)); exact HO232.out⟩, ⟨by repeat (first | (with_reducible first | exact HB.out | apply below_alloc | apply pw_below_drewN | apply below_drew1) | exact HB.out)⟩⟩
    case round =>
      clear H'
      try clear c1
      try clear p2
      try clear c3
      try clear c4
      try clear c9
      try clear c10
      try clear c11
      try clear c12
      try clear c13
      try clear c14
      obtain ⟨x57_1, rfl, HA, HK1, HO_7, HO_9, HO_13, HO_15, HB⟩ := hrel
      cases gk with
      | zero => exact absurd HA.out (by simp [trommellaw17_RecordPlays.l0])
      | succ k1 =>
        have H := HA.out
        clear HA
        simp only [trommellaw17_RecordPlays.l0] at H
        by_cases c24 : x57_1 < (l0.length : Int)
        · rw [if_pos c24] at H
          have c24b0 : decide (x57_1 < (l0.length : Int)) = true := decide_eq_true c24
          clear c24
          by_cases c25 : 0 ≤ x57_1
          · rw [if_pos c25] at H
            have c25b0 : decide (0 ≤ x57_1) = true := decide_eq_true c25
            clear c25
            by_cases c26 : x57_1 < (l0.length : Int)
            · rw [if_pos c26] at H
              have c26b0 : decide (x57_1 < (l0.length : Int)) = true := decide_eq_true c26
              clear c26
              replace H := Option.bind_eq_some_iff.mp H
              obtain ⟨t237, A270, H⟩ := H
              replace H : ((trommelref16_May.f ((rd_T32 l0 x57_1).f0) ((rd_T32 l0 x57_1).f1) ((rd_T32 l0 x57_1).f2)).bind fun t238 => (if (t237 != t238) = true then (some false) else (trommellaw17_RecordPlays.l0 k1 t210 t213 t217 t218 t222 t225 t229 t230 l0 (l0.length : Int) (wrap64 (x57_1 + 1))))) = some r := H
              have A27 := Aside0.mk A270
              clear A270
              replace H := Option.bind_eq_some_iff.mp H
              obtain ⟨t238, A280, H⟩ := H
              replace H : (if (t237 != t238) = true then (some false) else (trommellaw17_RecordPlays.l0 k1 t210 t213 t217 t218 t222 t225 t229 t230 l0 (l0.length : Int) (wrap64 (x57_1 + 1)))) = some r := H
              have A28 := Aside0.mk A280
              clear A280
              by_cases c29 : (t237 != t238) = true
              · rw [if_pos c29] at H
                have c29b0 : (t237 != t238) = true := c29
                (try (have c29b1 : decide (t237 = t238) = false := by simpa using c29))
                (try (have c29b2 : (t237 == t238) = false := by simpa using c29))
                (try (have c29b3 : ¬ (t237 = t238) := by simpa using c29))
                clear c29
                obtain rfl := Option.some.inj H
                have p235 : 0 ≤ (x57_1 : Int) := of_decide_eq_true (by first | (with_reducible assumption) | assumption)
                have q235 : x57_1 < (l0.length : Int) := of_decide_eq_true (by first | (with_reducible assumption) | assumption)
                obtain ⟨ad235, e235, hx235_0, hx235_1, hx235_2⟩ := at_T32 HR0.out x57_1 p235 q235
                cases e235
                replace hx235_0 := (HB.out.cell (World.block_lt_of_cell? w _ hx235_0)).trans hx235_0
                replace hx235_1 := (HB.out.cell (World.block_lt_of_cell? w _ hx235_1)).trans hx235_1
                replace hx235_2 := (HB.out.cell (World.block_lt_of_cell? w _ hx235_2)).trans hx235_2
                replace p235 := eq_true p235
                replace q235 := eq_true q235
                try go_wp2_with (first | ((with_reducible refine gate_dst (N := 18) rfl ?_); refine box_event ?hg (N := 18) ?hd (cs := #[.int .i64 0, .int .i64 0, .string (⟨#[]⟩ : ByteArray)]) (t := 32) ?hr ?_; (case hd => rfl); (case hg => rfl); (case hr => first | (go_simp; done) | (go_simp; rfl)); intro gb236 hg w30 hbox hb; have n0_ := Aside0.mk (Kd.R_below (by (with_reducible repeat (first | apply Kd.R_alloc | apply Kd.R_drewN | apply Kd.R_drew)); exact HO_7.out) hb); have n1_ := Aside0.mk (Kd.R_below (by (with_reducible repeat (first | apply Kd.R_alloc | apply Kd.R_drewN | apply Kd.R_drew)); exact HO_9.out) hb); have n2_ := Aside0.mk (Kd.R_below (by (with_reducible repeat (first | apply Kd.R_alloc | apply Kd.R_drewN | apply Kd.R_drew)); exact HO_13.out) hb); have n3_ := Aside0.mk (Kd.R_below (by (with_reducible repeat (first | apply Kd.R_alloc | apply Kd.R_drewN | apply Kd.R_drew)); exact HO_15.out) hb); have n4_ := Aside0.mk (below_step (by repeat (first | (with_reducible first | exact HB.out | apply below_alloc | apply pw_below_drewN | apply below_drew1) | exact HB.out)) hb); have n5_ := Aside0.mk (hbox); have n6_ := Aside0.mk ((by rw [hg]; exact (below_size (by repeat (first | (with_reducible first | exact HB.out | apply below_alloc | apply pw_below_drewN | apply below_drew1) | exact HB.out))) : w.heap.size ≤ gb236)); have n7_ := Aside0.mk ((by rw [hg]; exact (below_size (by repeat (first | (with_reducible first | exact HB.out | apply below_alloc | apply pw_below_drewN | apply below_drew1) | exact HB.out))) : w.heap.size ≤ gb236)); clear HO_7; clear HO_9; clear HO_13; clear HO_15; clear HB; have HO_7 := n0_; have HO_9 := n1_; have HO_13 := n2_; have HO_15 := n3_; have HB := n4_; have BK236 := n5_; have GW236 := n6_; have GE236 := n7_; clear n0_ n1_ n2_ n3_ n4_ n5_ n6_ n7_; clear hb hbox hg; have hcz31_0 : w30.cell? ⟨gb236, 0, none⟩ = some (.int .i64 0) := (blk_cell BK236.out 0).trans rfl; have hcz31_1 : w30.cell? ⟨gb236, 1, none⟩ = some (.int .i64 0) := (blk_cell BK236.out 1).trans rfl; have hcz31_2 : w30.cell? ⟨gb236, 2, none⟩ = some (.string (⟨#[]⟩ : ByteArray)) := (blk_cell BK236.out 2).trans rfl; have hfz31_0 := blk_frozen BK236.out 0; have hfz31_1 := blk_frozen BK236.out 1; have hfz31_2 := blk_frozen BK236.out 2))
                have n0_ : Aside0 (Kd.R (Kd.int .u8) 5 (((w30.setCell ⟨gb236, 0, none⟩ (.int .i64 ((rd_T32 l0 x57_1).f0))).setCell ⟨gb236, 1, none⟩ (.int .i64 ((rd_T32 l0 x57_1).f1))).setCell ⟨gb236, 2, none⟩ (.string ((rd_T32 l0 x57_1).f2))) w.heap.size (fun k_ => some k_ ≠ (v219 : Value).ownBlock ∧ some k_ ≠ (v227 : Value).ownBlock ∧ some k_ ≠ (v231 : Value).ownBlock) v215 t213) := ⟨by (with_reducible repeat (first | apply Kd.R_alloc | apply Kd.R_drewN | apply Kd.R_drew)); exact Kd.R_mono (Kd.R_far (p := ⟨gb236, 2, none⟩) (Kd.R_far (p := ⟨gb236, 1, none⟩) (Kd.R_far (p := ⟨gb236, 0, none⟩) (Kd.R_types HO_7.out BK236.out (by decide)) (fun _ hk => hk.2) (.int .i64 ((rd_T32 l0 x57_1).f0))) (fun _ hk => hk.2) (.int .i64 ((rd_T32 l0 x57_1).f1))) (fun _ hk => hk.2) (.string ((rd_T32 l0 x57_1).f2))) (fun _ hk => ⟨hk.1.1, ⟨hk.1.2.1, hk.1.2.2⟩⟩)⟩
                have n1_ : Aside0 (Kd.R (Kd.int .u8) 5 (((w30.setCell ⟨gb236, 0, none⟩ (.int .i64 ((rd_T32 l0 x57_1).f0))).setCell ⟨gb236, 1, none⟩ (.int .i64 ((rd_T32 l0 x57_1).f1))).setCell ⟨gb236, 2, none⟩ (.string ((rd_T32 l0 x57_1).f2))) w.heap.size (fun k_ => some k_ ≠ (v215 : Value).ownBlock ∧ some k_ ≠ (v227 : Value).ownBlock ∧ some k_ ≠ (v231 : Value).ownBlock) v219 t217) := ⟨by (with_reducible repeat (first | apply Kd.R_alloc | apply Kd.R_drewN | apply Kd.R_drew)); exact Kd.R_mono (Kd.R_far (p := ⟨gb236, 2, none⟩) (Kd.R_far (p := ⟨gb236, 1, none⟩) (Kd.R_far (p := ⟨gb236, 0, none⟩) (Kd.R_types HO_9.out BK236.out (by decide)) (fun _ hk => hk.2) (.int .i64 ((rd_T32 l0 x57_1).f0))) (fun _ hk => hk.2) (.int .i64 ((rd_T32 l0 x57_1).f1))) (fun _ hk => hk.2) (.string ((rd_T32 l0 x57_1).f2))) (fun _ hk => ⟨hk.1.1, ⟨hk.1.2.1, hk.1.2.2⟩⟩)⟩
                have n2_ : Aside0 (Kd.R (Kd.int .u8) 5 (((w30.setCell ⟨gb236, 0, none⟩ (.int .i64 ((rd_T32 l0 x57_1).f0))).setCell ⟨gb236, 1, none⟩ (.int .i64 ((rd_T32 l0 x57_1).f1))).setCell ⟨gb236, 2, none⟩ (.string ((rd_T32 l0 x57_1).f2))) w.heap.size (fun k_ => some k_ ≠ (v215 : Value).ownBlock ∧ some k_ ≠ (v219 : Value).ownBlock ∧ some k_ ≠ (v231 : Value).ownBlock) v227 t225) := ⟨by (with_reducible repeat (first | apply Kd.R_alloc | apply Kd.R_drewN | apply Kd.R_drew)); exact Kd.R_mono (Kd.R_far (p := ⟨gb236, 2, none⟩) (Kd.R_far (p := ⟨gb236, 1, none⟩) (Kd.R_far (p := ⟨gb236, 0, none⟩) (Kd.R_types HO_13.out BK236.out (by decide)) (fun _ hk => hk.2) (.int .i64 ((rd_T32 l0 x57_1).f0))) (fun _ hk => hk.2) (.int .i64 ((rd_T32 l0 x57_1).f1))) (fun _ hk => hk.2) (.string ((rd_T32 l0 x57_1).f2))) (fun _ hk => ⟨hk.1.1, ⟨hk.1.2.1, hk.1.2.2⟩⟩)⟩
                have n3_ : Aside0 (Kd.R (Kd.int .u8) 5 (((w30.setCell ⟨gb236, 0, none⟩ (.int .i64 ((rd_T32 l0 x57_1).f0))).setCell ⟨gb236, 1, none⟩ (.int .i64 ((rd_T32 l0 x57_1).f1))).setCell ⟨gb236, 2, none⟩ (.string ((rd_T32 l0 x57_1).f2))) w.heap.size (fun k_ => some k_ ≠ (v215 : Value).ownBlock ∧ some k_ ≠ (v219 : Value).ownBlock ∧ some k_ ≠ (v227 : Value).ownBlock) v231 t229) := ⟨by (with_reducible repeat (first | apply Kd.R_alloc | apply Kd.R_drewN | apply Kd.R_drew)); exact Kd.R_mono (Kd.R_far (p := ⟨gb236, 2, none⟩) (Kd.R_far (p := ⟨gb236, 1, none⟩) (Kd.R_far (p := ⟨gb236, 0, none⟩) (Kd.R_types HO_15.out BK236.out (by decide)) (fun _ hk => hk.2) (.int .i64 ((rd_T32 l0 x57_1).f0))) (fun _ hk => hk.2) (.int .i64 ((rd_T32 l0 x57_1).f1))) (fun _ hk => hk.2) (.string ((rd_T32 l0 x57_1).f2))) (fun _ hk => ⟨hk.1.1, ⟨hk.1.2.1, hk.1.2.2⟩⟩)⟩
                have n4_ : Aside0 ((((w30.setCell ⟨gb236, 0, none⟩ (.int .i64 ((rd_T32 l0 x57_1).f0))).setCell ⟨gb236, 1, none⟩ (.int .i64 ((rd_T32 l0 x57_1).f1))).setCell ⟨gb236, 2, none⟩ (.string ((rd_T32 l0 x57_1).f2))).heap[gb236]? = some (.cells #[.int .i64 ((rd_T32 l0 x57_1).f0), .int .i64 ((rd_T32 l0 x57_1).f1), .string ((rd_T32 l0 x57_1).f2)] 32 (0, 0))) := ⟨by (with_reducible repeat (first | refine blk_drewN ?_ _ | refine blk_drew ?_ | refine blk_alloc ?_ _)); refine blk_put (cs := #[.int .i64 ((rd_T32 l0 x57_1).f0), .int .i64 ((rd_T32 l0 x57_1).f1), .string (⟨#[]⟩ : ByteArray)]) ?_ 2 _ rfl; (with_reducible repeat (first | refine blk_drewN ?_ _ | refine blk_drew ?_ | refine blk_alloc ?_ _)); refine blk_put (cs := #[.int .i64 ((rd_T32 l0 x57_1).f0), .int .i64 0, .string (⟨#[]⟩ : ByteArray)]) ?_ 1 _ rfl; (with_reducible repeat (first | refine blk_drewN ?_ _ | refine blk_drew ?_ | refine blk_alloc ?_ _)); refine blk_put (cs := #[.int .i64 0, .int .i64 0, .string (⟨#[]⟩ : ByteArray)]) ?_ 0 _ rfl; (with_reducible repeat (first | refine blk_drewN ?_ _ | refine blk_drew ?_ | refine blk_alloc ?_ _)); exact BK236.out⟩
                have n5_ : Aside0 (Below w.heap.size w (((w30.setCell ⟨gb236, 0, none⟩ (.int .i64 ((rd_T32 l0 x57_1).f0))).setCell ⟨gb236, 1, none⟩ (.int .i64 ((rd_T32 l0 x57_1).f1))).setCell ⟨gb236, 2, none⟩ (.string ((rd_T32 l0 x57_1).f2)))) := ⟨by repeat (first | (with_reducible first | exact HB.out | apply below_alloc | apply pw_below_drewN | apply below_drew1 | refine below_set ?_ GE236.out) | exact HB.out)⟩
                (try clear HO_7)
                (try clear HO_9)
                (try clear HO_13)
                (try clear HO_15)
                (try clear BK236)
                (try clear HB)
                generalize (((w30.setCell ⟨gb236, 0, none⟩ (.int .i64 ((rd_T32 l0 x57_1).f0))).setCell ⟨gb236, 1, none⟩ (.int .i64 ((rd_T32 l0 x57_1).f1))).setCell ⟨gb236, 2, none⟩ (.string ((rd_T32 l0 x57_1).f2))) = w32 at n0_ n1_ n2_ n3_ n4_ n5_ ⊢
                have HO_7 := n0_
                have HO_9 := n1_
                have HO_13 := n2_
                have HO_15 := n3_
                have BK236 := n4_
                have HB := n5_
                clear n0_ n1_ n2_ n3_ n4_ n5_
                have n0_ := Aside0.mk (Kd.R_drew HO_7.out)
                have n1_ := Aside0.mk (Kd.R_drew HO_9.out)
                have n2_ := Aside0.mk (Kd.R_drew HO_13.out)
                have n3_ := Aside0.mk (Kd.R_drew HO_15.out)
                have n4_ := Aside0.mk (blk_drew BK236.out)
                have n5_ := Aside0.mk (below_drew1 HB.out)
                clear HO_7
                clear HO_9
                clear HO_13
                clear HO_15
                clear BK236
                clear HB
                have HO_7 := n0_
                have HO_9 := n1_
                have HO_13 := n2_
                have HO_15 := n3_
                have BK236 := n4_
                have HB := n5_
                clear n0_ n1_ n2_ n3_ n4_ n5_
                refine start_ (n := 5) (S := fun w' => w'.cell? ⟨gb236, 0, none⟩ = some (.int .i64 ((rd_T32 l0 x57_1).f0)) ∧ w'.cell? ⟨gb236, 1, none⟩ = some (.int .i64 ((rd_T32 l0 x57_1).f1)) ∧ w'.cell? ⟨gb236, 2, none⟩ = some (.string ((rd_T32 l0 x57_1).f2))) (ds := []) #[false, false, false, false, false] (by kernel_rfl) rfl rfl ⟨(blk_cell BK236.out 0).trans rfl, (blk_cell BK236.out 1).trans rfl, (blk_cell BK236.out 2).trans rfl⟩ (fun hHeld => ?_)
                generalize w32.drew = w33 at HO_7 HO_9 HO_13 HO_15 BK236 HB hHeld ⊢
                refine take_ (i := 0) (N := some 61) (v := ?_) (a' := ?_) #[true, false, false, false, false] rfl rfl (by kernel_rfl) (fun _ _ _ h => h) (Or.inl ⟨by rfl, ?_⟩) hHeld ?_ ?_
                rotate_left
                · rintro w' ⟨s0, s1, s2⟩
                  go_simp
                  with_reducible rfl
                rotate_left
                · simp only [Act.put, List.setIfInBounds_toArray, List.set_cons_zero, List.set_cons_succ, i64_w, i32_w]
                  rfl
                refine take_ (i := 2) (N := some 63) (v := ?_) (a' := ?_) #[true, false, true, false, false] rfl rfl (by kernel_rfl) (fun _ _ _ h => h) (Or.inl ⟨by rfl, ?_⟩) hHeld ?_ ?_
                rotate_left
                · rintro w' ⟨s0, s1, s2⟩
                  go_simp
                  with_reducible rfl
                rotate_left
                · simp only [Act.put, List.setIfInBounds_toArray, List.set_cons_zero, List.set_cons_succ, i64_w, i32_w]
                  rfl
                refine one_ (i := 1) (N := some 62) #[true, true, true, false, false] rfl rfl (by kernel_rfl) (by decide) (fun K hK => ?_)
                refine goes_ Try.func15 (by kernel_rfl) rfl #[.agg #[.int .i64 ((rd_T32 l0 x57_1).f0), .int .i64 ((rd_T32 l0 x57_1).f1), .string ((rd_T32 l0 x57_1).f2)]] (by rfl) rfl rfl (by (try simp only [List.map_toArray, List.map_cons, List.map_nil]); first | done | rfl | (simp only [List.length_drop, List.length_take]; rfl)) ?_
                with_reducible refine (record_May.calls ((rd_T32 l0 x57_1).f0) ((rd_T32 l0 x57_1).f1) ((rd_T32 l0 x57_1).f2) t237 _ A27.out).mono ?_
                rintro e w34 ⟨rfl, hb⟩
                refine ⟨_, rfl, ?_⟩
                have n0_ := Aside0.mk (Kd.R_below (by (with_reducible repeat (first | apply Kd.R_alloc | apply Kd.R_drewN | apply Kd.R_drew)); exact HO_7.out) hb)
                have n1_ := Aside0.mk (Kd.R_below (by (with_reducible repeat (first | apply Kd.R_alloc | apply Kd.R_drewN | apply Kd.R_drew)); exact HO_9.out) hb)
                have n2_ := Aside0.mk (Kd.R_below (by (with_reducible repeat (first | apply Kd.R_alloc | apply Kd.R_drewN | apply Kd.R_drew)); exact HO_13.out) hb)
                have n3_ := Aside0.mk (Kd.R_below (by (with_reducible repeat (first | apply Kd.R_alloc | apply Kd.R_drewN | apply Kd.R_drew)); exact HO_15.out) hb)
                have n4_ := Aside0.mk (blk_below (g := gb236) (o := .cells #[.int .i64 ((rd_T32 l0 x57_1).f0), .int .i64 ((rd_T32 l0 x57_1).f1), .string ((rd_T32 l0 x57_1).f2)] 32 (0, 0)) (by (with_reducible repeat (first | refine blk_drewN ?_ _ | refine blk_drew ?_ | refine blk_alloc ?_ _)); exact BK236.out) hb)
                have n5_ := Aside0.mk (below_step (by repeat (first | (with_reducible first | exact HB.out | apply below_alloc | apply pw_below_drewN | apply below_drew1 | refine below_set ?_ GE236.out) | exact HB.out)) hb)
                clear HO_7
                clear HO_9
                clear HO_13
                clear HO_15
                clear BK236
                clear HB
                have HO_7 := n0_
                have HO_9 := n1_
                have HO_13 := n2_
                have HO_15 := n3_
                have BK236 := n4_
                have HB := n5_
                clear n0_ n1_ n2_ n3_ n4_ n5_
                (try clear hb)
                (try clear hb2)
                (try clear hk)
                (try clear hi)
                refine hK.out _ _ ⟨(blk_cell BK236.out 0).trans rfl, (blk_cell BK236.out 1).trans rfl, (blk_cell BK236.out 2).trans rfl⟩ (fun hHeld => ?_)
                clear hK K
                refine norm_ (a' := ?_) ?_ ?_
                rotate_left
                · show Act.put _ (some 62) _ = _
                  simp only [Act.put, List.setIfInBounds_toArray, List.set_cons_zero, List.set_cons_succ, i64_w, i32_w]
                  rfl
                refine one_ (i := 3) (N := some 64) #[true, true, true, true, false] rfl rfl (by kernel_rfl) (by decide) (fun K hK => ?_)
                refine goes_ Try.func16 (by kernel_rfl) rfl #[.agg #[.int .i64 ((rd_T32 l0 x57_1).f0), .int .i64 ((rd_T32 l0 x57_1).f1), .string ((rd_T32 l0 x57_1).f2)]] (by rfl) rfl rfl (by (try simp only [List.map_toArray, List.map_cons, List.map_nil]); first | done | rfl | (simp only [List.length_drop, List.length_take]; rfl)) ?_
                with_reducible refine (trommelref16_May.calls ((rd_T32 l0 x57_1).f0) ((rd_T32 l0 x57_1).f1) ((rd_T32 l0 x57_1).f2) t238 _ A28.out).mono ?_
                rintro e w35 ⟨rfl, hb⟩
                refine ⟨_, rfl, ?_⟩
                have n0_ := Aside0.mk (Kd.R_below (by (with_reducible repeat (first | apply Kd.R_alloc | apply Kd.R_drewN | apply Kd.R_drew)); exact HO_7.out) hb)
                have n1_ := Aside0.mk (Kd.R_below (by (with_reducible repeat (first | apply Kd.R_alloc | apply Kd.R_drewN | apply Kd.R_drew)); exact HO_9.out) hb)
                have n2_ := Aside0.mk (Kd.R_below (by (with_reducible repeat (first | apply Kd.R_alloc | apply Kd.R_drewN | apply Kd.R_drew)); exact HO_13.out) hb)
                have n3_ := Aside0.mk (Kd.R_below (by (with_reducible repeat (first | apply Kd.R_alloc | apply Kd.R_drewN | apply Kd.R_drew)); exact HO_15.out) hb)
                have n4_ := Aside0.mk (blk_below (g := gb236) (o := .cells #[.int .i64 ((rd_T32 l0 x57_1).f0), .int .i64 ((rd_T32 l0 x57_1).f1), .string ((rd_T32 l0 x57_1).f2)] 32 (0, 0)) (by (with_reducible repeat (first | refine blk_drewN ?_ _ | refine blk_drew ?_ | refine blk_alloc ?_ _)); exact BK236.out) hb)
                have n5_ := Aside0.mk (below_step (by repeat (first | (with_reducible first | exact HB.out | apply below_alloc | apply pw_below_drewN | apply below_drew1 | refine below_set ?_ GE236.out) | exact HB.out)) hb)
                clear HO_7
                clear HO_9
                clear HO_13
                clear HO_15
                clear BK236
                clear HB
                have HO_7 := n0_
                have HO_9 := n1_
                have HO_13 := n2_
                have HO_15 := n3_
                have BK236 := n4_
                have HB := n5_
                clear n0_ n1_ n2_ n3_ n4_ n5_
                (try clear hb)
                (try clear hb2)
                (try clear hk)
                (try clear hi)
                refine hK.out _ _ ⟨(blk_cell BK236.out 0).trans rfl, (blk_cell BK236.out 1).trans rfl, (blk_cell BK236.out 2).trans rfl⟩ (fun hHeld => ?_)
                clear hK K
                refine norm_ (a' := ?_) ?_ ?_
                rotate_left
                · show Act.put _ (some 64) _ = _
                  simp only [Act.put, List.setIfInBounds_toArray, List.set_cons_zero, List.set_cons_succ, i64_w, i32_w]
                  rfl
                refine pure_ (i := 4) (N := some 65) (v := ?_) (a' := ?_) #[true, true, true, true, true] rfl rfl (by kernel_rfl) (fun _ _ _ h => h) (Or.inl ⟨by rfl, ?_⟩) ?_ ?_
                rotate_left
                · intro w'
                  go_simp
                  with_reducible rfl
                rotate_left
                · simp only [Act.put, List.setIfInBounds_toArray, List.set_cons_zero, List.set_cons_succ, i64_w, i32_w]
                  rfl
                refine done_ (by kernel_rfl) ?_
                try go_wp2
                go_ret
                exact ⟨by first | rfl | (simp [errW_none, errW_some] <;> rfl) | (simp [*, errW_none, errW_some] <;> rfl), by repeat (first | (with_reducible first | exact HB.out | apply below_alloc | apply pw_below_drewN | apply below_drew1 | refine below_set ?_ GE236.out) | exact HB.out)⟩
              · rw [if_neg c29] at H
                have c29b0 : (t237 != t238) = false := by simpa using c29
                (try (have c29b1 : decide (t237 = t238) = true := by simpa using c29))
                (try (have c29b2 : (t237 == t238) = true := by simpa using c29))
                clear c29
                have H' := Aside0.mk H
                clear H
                have p235 : 0 ≤ (x57_1 : Int) := of_decide_eq_true (by first | (with_reducible assumption) | assumption)
                have q235 : x57_1 < (l0.length : Int) := of_decide_eq_true (by first | (with_reducible assumption) | assumption)
                obtain ⟨ad235, e235, hx235_0, hx235_1, hx235_2⟩ := at_T32 HR0.out x57_1 p235 q235
                cases e235
                replace hx235_0 := (HB.out.cell (World.block_lt_of_cell? w _ hx235_0)).trans hx235_0
                replace hx235_1 := (HB.out.cell (World.block_lt_of_cell? w _ hx235_1)).trans hx235_1
                replace hx235_2 := (HB.out.cell (World.block_lt_of_cell? w _ hx235_2)).trans hx235_2
                replace p235 := eq_true p235
                replace q235 := eq_true q235
                try go_wp2_with (first | ((with_reducible refine gate_dst (N := 18) rfl ?_); refine box_event ?hg (N := 18) ?hd (cs := #[.int .i64 0, .int .i64 0, .string (⟨#[]⟩ : ByteArray)]) (t := 32) ?hr ?_; (case hd => rfl); (case hg => rfl); (case hr => first | (go_simp; done) | (go_simp; rfl)); intro gb236 hg w36 hbox hb; have n0_ := Aside0.mk (Kd.R_below (by (with_reducible repeat (first | apply Kd.R_alloc | apply Kd.R_drewN | apply Kd.R_drew)); exact HO_7.out) hb); have n1_ := Aside0.mk (Kd.R_below (by (with_reducible repeat (first | apply Kd.R_alloc | apply Kd.R_drewN | apply Kd.R_drew)); exact HO_9.out) hb); have n2_ := Aside0.mk (Kd.R_below (by (with_reducible repeat (first | apply Kd.R_alloc | apply Kd.R_drewN | apply Kd.R_drew)); exact HO_13.out) hb); have n3_ := Aside0.mk (Kd.R_below (by (with_reducible repeat (first | apply Kd.R_alloc | apply Kd.R_drewN | apply Kd.R_drew)); exact HO_15.out) hb); have n4_ := Aside0.mk (below_step (by repeat (first | (with_reducible first | exact HB.out | apply below_alloc | apply pw_below_drewN | apply below_drew1) | exact HB.out)) hb); have n5_ := Aside0.mk (hbox); have n6_ := Aside0.mk ((by rw [hg]; exact (below_size (by repeat (first | (with_reducible first | exact HB.out | apply below_alloc | apply pw_below_drewN | apply below_drew1) | exact HB.out))) : w.heap.size ≤ gb236)); have n7_ := Aside0.mk ((by rw [hg]; exact (below_size (by repeat (first | (with_reducible first | exact HB.out | apply below_alloc | apply pw_below_drewN | apply below_drew1) | exact HB.out))) : w.heap.size ≤ gb236)); clear HO_7; clear HO_9; clear HO_13; clear HO_15; clear HB; have HO_7 := n0_; have HO_9 := n1_; have HO_13 := n2_; have HO_15 := n3_; have HB := n4_; have BK236 := n5_; have GW236 := n6_; have GE236 := n7_; clear n0_ n1_ n2_ n3_ n4_ n5_ n6_ n7_; clear hb hbox hg; have hcz37_0 : w36.cell? ⟨gb236, 0, none⟩ = some (.int .i64 0) := (blk_cell BK236.out 0).trans rfl; have hcz37_1 : w36.cell? ⟨gb236, 1, none⟩ = some (.int .i64 0) := (blk_cell BK236.out 1).trans rfl; have hcz37_2 : w36.cell? ⟨gb236, 2, none⟩ = some (.string (⟨#[]⟩ : ByteArray)) := (blk_cell BK236.out 2).trans rfl; have hfz37_0 := blk_frozen BK236.out 0; have hfz37_1 := blk_frozen BK236.out 1; have hfz37_2 := blk_frozen BK236.out 2))
                have n0_ : Aside0 (Kd.R (Kd.int .u8) 5 (((w36.setCell ⟨gb236, 0, none⟩ (.int .i64 ((rd_T32 l0 x57_1).f0))).setCell ⟨gb236, 1, none⟩ (.int .i64 ((rd_T32 l0 x57_1).f1))).setCell ⟨gb236, 2, none⟩ (.string ((rd_T32 l0 x57_1).f2))) w.heap.size (fun k_ => some k_ ≠ (v219 : Value).ownBlock ∧ some k_ ≠ (v227 : Value).ownBlock ∧ some k_ ≠ (v231 : Value).ownBlock) v215 t213) := ⟨by (with_reducible repeat (first | apply Kd.R_alloc | apply Kd.R_drewN | apply Kd.R_drew)); exact Kd.R_mono (Kd.R_far (p := ⟨gb236, 2, none⟩) (Kd.R_far (p := ⟨gb236, 1, none⟩) (Kd.R_far (p := ⟨gb236, 0, none⟩) (Kd.R_types HO_7.out BK236.out (by decide)) (fun _ hk => hk.2) (.int .i64 ((rd_T32 l0 x57_1).f0))) (fun _ hk => hk.2) (.int .i64 ((rd_T32 l0 x57_1).f1))) (fun _ hk => hk.2) (.string ((rd_T32 l0 x57_1).f2))) (fun _ hk => ⟨hk.1.1, ⟨hk.1.2.1, hk.1.2.2⟩⟩)⟩
                have n1_ : Aside0 (Kd.R (Kd.int .u8) 5 (((w36.setCell ⟨gb236, 0, none⟩ (.int .i64 ((rd_T32 l0 x57_1).f0))).setCell ⟨gb236, 1, none⟩ (.int .i64 ((rd_T32 l0 x57_1).f1))).setCell ⟨gb236, 2, none⟩ (.string ((rd_T32 l0 x57_1).f2))) w.heap.size (fun k_ => some k_ ≠ (v215 : Value).ownBlock ∧ some k_ ≠ (v227 : Value).ownBlock ∧ some k_ ≠ (v231 : Value).ownBlock) v219 t217) := ⟨by (with_reducible repeat (first | apply Kd.R_alloc | apply Kd.R_drewN | apply Kd.R_drew)); exact Kd.R_mono (Kd.R_far (p := ⟨gb236, 2, none⟩) (Kd.R_far (p := ⟨gb236, 1, none⟩) (Kd.R_far (p := ⟨gb236, 0, none⟩) (Kd.R_types HO_9.out BK236.out (by decide)) (fun _ hk => hk.2) (.int .i64 ((rd_T32 l0 x57_1).f0))) (fun _ hk => hk.2) (.int .i64 ((rd_T32 l0 x57_1).f1))) (fun _ hk => hk.2) (.string ((rd_T32 l0 x57_1).f2))) (fun _ hk => ⟨hk.1.1, ⟨hk.1.2.1, hk.1.2.2⟩⟩)⟩
                have n2_ : Aside0 (Kd.R (Kd.int .u8) 5 (((w36.setCell ⟨gb236, 0, none⟩ (.int .i64 ((rd_T32 l0 x57_1).f0))).setCell ⟨gb236, 1, none⟩ (.int .i64 ((rd_T32 l0 x57_1).f1))).setCell ⟨gb236, 2, none⟩ (.string ((rd_T32 l0 x57_1).f2))) w.heap.size (fun k_ => some k_ ≠ (v215 : Value).ownBlock ∧ some k_ ≠ (v219 : Value).ownBlock ∧ some k_ ≠ (v231 : Value).ownBlock) v227 t225) := ⟨by (with_reducible repeat (first | apply Kd.R_alloc | apply Kd.R_drewN | apply Kd.R_drew)); exact Kd.R_mono (Kd.R_far (p := ⟨gb236, 2, none⟩) (Kd.R_far (p := ⟨gb236, 1, none⟩) (Kd.R_far (p := ⟨gb236, 0, none⟩) (Kd.R_types HO_13.out BK236.out (by decide)) (fun _ hk => hk.2) (.int .i64 ((rd_T32 l0 x57_1).f0))) (fun _ hk => hk.2) (.int .i64 ((rd_T32 l0 x57_1).f1))) (fun _ hk => hk.2) (.string ((rd_T32 l0 x57_1).f2))) (fun _ hk => ⟨hk.1.1, ⟨hk.1.2.1, hk.1.2.2⟩⟩)⟩
                have n3_ : Aside0 (Kd.R (Kd.int .u8) 5 (((w36.setCell ⟨gb236, 0, none⟩ (.int .i64 ((rd_T32 l0 x57_1).f0))).setCell ⟨gb236, 1, none⟩ (.int .i64 ((rd_T32 l0 x57_1).f1))).setCell ⟨gb236, 2, none⟩ (.string ((rd_T32 l0 x57_1).f2))) w.heap.size (fun k_ => some k_ ≠ (v215 : Value).ownBlock ∧ some k_ ≠ (v219 : Value).ownBlock ∧ some k_ ≠ (v227 : Value).ownBlock) v231 t229) := ⟨by (with_reducible repeat (first | apply Kd.R_alloc | apply Kd.R_drewN | apply Kd.R_drew)); exact Kd.R_mono (Kd.R_far (p := ⟨gb236, 2, none⟩) (Kd.R_far (p := ⟨gb236, 1, none⟩) (Kd.R_far (p := ⟨gb236, 0, none⟩) (Kd.R_types HO_15.out BK236.out (by decide)) (fun _ hk => hk.2) (.int .i64 ((rd_T32 l0 x57_1).f0))) (fun _ hk => hk.2) (.int .i64 ((rd_T32 l0 x57_1).f1))) (fun _ hk => hk.2) (.string ((rd_T32 l0 x57_1).f2))) (fun _ hk => ⟨hk.1.1, ⟨hk.1.2.1, hk.1.2.2⟩⟩)⟩
                have n4_ : Aside0 ((((w36.setCell ⟨gb236, 0, none⟩ (.int .i64 ((rd_T32 l0 x57_1).f0))).setCell ⟨gb236, 1, none⟩ (.int .i64 ((rd_T32 l0 x57_1).f1))).setCell ⟨gb236, 2, none⟩ (.string ((rd_T32 l0 x57_1).f2))).heap[gb236]? = some (.cells #[.int .i64 ((rd_T32 l0 x57_1).f0), .int .i64 ((rd_T32 l0 x57_1).f1), .string ((rd_T32 l0 x57_1).f2)] 32 (0, 0))) := ⟨by (with_reducible repeat (first | refine blk_drewN ?_ _ | refine blk_drew ?_ | refine blk_alloc ?_ _)); refine blk_put (cs := #[.int .i64 ((rd_T32 l0 x57_1).f0), .int .i64 ((rd_T32 l0 x57_1).f1), .string (⟨#[]⟩ : ByteArray)]) ?_ 2 _ rfl; (with_reducible repeat (first | refine blk_drewN ?_ _ | refine blk_drew ?_ | refine blk_alloc ?_ _)); refine blk_put (cs := #[.int .i64 ((rd_T32 l0 x57_1).f0), .int .i64 0, .string (⟨#[]⟩ : ByteArray)]) ?_ 1 _ rfl; (with_reducible repeat (first | refine blk_drewN ?_ _ | refine blk_drew ?_ | refine blk_alloc ?_ _)); refine blk_put (cs := #[.int .i64 0, .int .i64 0, .string (⟨#[]⟩ : ByteArray)]) ?_ 0 _ rfl; (with_reducible repeat (first | refine blk_drewN ?_ _ | refine blk_drew ?_ | refine blk_alloc ?_ _)); exact BK236.out⟩
                have n5_ : Aside0 (Below w.heap.size w (((w36.setCell ⟨gb236, 0, none⟩ (.int .i64 ((rd_T32 l0 x57_1).f0))).setCell ⟨gb236, 1, none⟩ (.int .i64 ((rd_T32 l0 x57_1).f1))).setCell ⟨gb236, 2, none⟩ (.string ((rd_T32 l0 x57_1).f2)))) := ⟨by repeat (first | (with_reducible first | exact HB.out | apply below_alloc | apply pw_below_drewN | apply below_drew1 | refine below_set ?_ GE236.out) | exact HB.out)⟩
                (try clear HO_7)
                (try clear HO_9)
                (try clear HO_13)
                (try clear HO_15)
                (try clear BK236)
                (try clear HB)
                generalize (((w36.setCell ⟨gb236, 0, none⟩ (.int .i64 ((rd_T32 l0 x57_1).f0))).setCell ⟨gb236, 1, none⟩ (.int .i64 ((rd_T32 l0 x57_1).f1))).setCell ⟨gb236, 2, none⟩ (.string ((rd_T32 l0 x57_1).f2))) = w38 at n0_ n1_ n2_ n3_ n4_ n5_ ⊢
                have HO_7 := n0_
                have HO_9 := n1_
                have HO_13 := n2_
                have HO_15 := n3_
                have BK236 := n4_
                have HB := n5_
                clear n0_ n1_ n2_ n3_ n4_ n5_
                have n0_ := Aside0.mk (Kd.R_drew HO_7.out)
                have n1_ := Aside0.mk (Kd.R_drew HO_9.out)
                have n2_ := Aside0.mk (Kd.R_drew HO_13.out)
                have n3_ := Aside0.mk (Kd.R_drew HO_15.out)
                have n4_ := Aside0.mk (blk_drew BK236.out)
                have n5_ := Aside0.mk (below_drew1 HB.out)
                clear HO_7
                clear HO_9
                clear HO_13
                clear HO_15
                clear BK236
                clear HB
                have HO_7 := n0_
                have HO_9 := n1_
                have HO_13 := n2_
                have HO_15 := n3_
                have BK236 := n4_
                have HB := n5_
                clear n0_ n1_ n2_ n3_ n4_ n5_
                refine start_ (n := 5) (S := fun w' => w'.cell? ⟨gb236, 0, none⟩ = some (.int .i64 ((rd_T32 l0 x57_1).f0)) ∧ w'.cell? ⟨gb236, 1, none⟩ = some (.int .i64 ((rd_T32 l0 x57_1).f1)) ∧ w'.cell? ⟨gb236, 2, none⟩ = some (.string ((rd_T32 l0 x57_1).f2))) (ds := []) #[false, false, false, false, false] (by kernel_rfl) rfl rfl ⟨(blk_cell BK236.out 0).trans rfl, (blk_cell BK236.out 1).trans rfl, (blk_cell BK236.out 2).trans rfl⟩ (fun hHeld => ?_)
                generalize w38.drew = w39 at HO_7 HO_9 HO_13 HO_15 BK236 HB hHeld ⊢
                refine take_ (i := 0) (N := some 61) (v := ?_) (a' := ?_) #[true, false, false, false, false] rfl rfl (by kernel_rfl) (fun _ _ _ h => h) (Or.inl ⟨by rfl, ?_⟩) hHeld ?_ ?_
                rotate_left
                · rintro w' ⟨s0, s1, s2⟩
                  go_simp
                  with_reducible rfl
                rotate_left
                · simp only [Act.put, List.setIfInBounds_toArray, List.set_cons_zero, List.set_cons_succ, i64_w, i32_w]
                  rfl
                refine take_ (i := 2) (N := some 63) (v := ?_) (a' := ?_) #[true, false, true, false, false] rfl rfl (by kernel_rfl) (fun _ _ _ h => h) (Or.inl ⟨by rfl, ?_⟩) hHeld ?_ ?_
                rotate_left
                · rintro w' ⟨s0, s1, s2⟩
                  go_simp
                  with_reducible rfl
                rotate_left
                · simp only [Act.put, List.setIfInBounds_toArray, List.set_cons_zero, List.set_cons_succ, i64_w, i32_w]
                  rfl
                refine one_ (i := 1) (N := some 62) #[true, true, true, false, false] rfl rfl (by kernel_rfl) (by decide) (fun K hK => ?_)
                refine goes_ Try.func15 (by kernel_rfl) rfl #[.agg #[.int .i64 ((rd_T32 l0 x57_1).f0), .int .i64 ((rd_T32 l0 x57_1).f1), .string ((rd_T32 l0 x57_1).f2)]] (by rfl) rfl rfl (by (try simp only [List.map_toArray, List.map_cons, List.map_nil]); first | done | rfl | (simp only [List.length_drop, List.length_take]; rfl)) ?_
                with_reducible refine (record_May.calls ((rd_T32 l0 x57_1).f0) ((rd_T32 l0 x57_1).f1) ((rd_T32 l0 x57_1).f2) t237 _ A27.out).mono ?_
                rintro e w40 ⟨rfl, hb⟩
                refine ⟨_, rfl, ?_⟩
                have n0_ := Aside0.mk (Kd.R_below (by (with_reducible repeat (first | apply Kd.R_alloc | apply Kd.R_drewN | apply Kd.R_drew)); exact HO_7.out) hb)
                have n1_ := Aside0.mk (Kd.R_below (by (with_reducible repeat (first | apply Kd.R_alloc | apply Kd.R_drewN | apply Kd.R_drew)); exact HO_9.out) hb)
                have n2_ := Aside0.mk (Kd.R_below (by (with_reducible repeat (first | apply Kd.R_alloc | apply Kd.R_drewN | apply Kd.R_drew)); exact HO_13.out) hb)
                have n3_ := Aside0.mk (Kd.R_below (by (with_reducible repeat (first | apply Kd.R_alloc | apply Kd.R_drewN | apply Kd.R_drew)); exact HO_15.out) hb)
                have n4_ := Aside0.mk (blk_below (g := gb236) (o := .cells #[.int .i64 ((rd_T32 l0 x57_1).f0), .int .i64 ((rd_T32 l0 x57_1).f1), .string ((rd_T32 l0 x57_1).f2)] 32 (0, 0)) (by (with_reducible repeat (first | refine blk_drewN ?_ _ | refine blk_drew ?_ | refine blk_alloc ?_ _)); exact BK236.out) hb)
                have n5_ := Aside0.mk (below_step (by repeat (first | (with_reducible first | exact HB.out | apply below_alloc | apply pw_below_drewN | apply below_drew1 | refine below_set ?_ GE236.out) | exact HB.out)) hb)
                clear HO_7
                clear HO_9
                clear HO_13
                clear HO_15
                clear BK236
                clear HB
                have HO_7 := n0_
                have HO_9 := n1_
                have HO_13 := n2_
                have HO_15 := n3_
                have BK236 := n4_
                have HB := n5_
                clear n0_ n1_ n2_ n3_ n4_ n5_
                (try clear hb)
                (try clear hb2)
                (try clear hk)
                (try clear hi)
                refine hK.out _ _ ⟨(blk_cell BK236.out 0).trans rfl, (blk_cell BK236.out 1).trans rfl, (blk_cell BK236.out 2).trans rfl⟩ (fun hHeld => ?_)
                clear hK K
                refine norm_ (a' := ?_) ?_ ?_
                rotate_left
                · show Act.put _ (some 62) _ = _
                  simp only [Act.put, List.setIfInBounds_toArray, List.set_cons_zero, List.set_cons_succ, i64_w, i32_w]
                  rfl
                refine one_ (i := 3) (N := some 64) #[true, true, true, true, false] rfl rfl (by kernel_rfl) (by decide) (fun K hK => ?_)
                refine goes_ Try.func16 (by kernel_rfl) rfl #[.agg #[.int .i64 ((rd_T32 l0 x57_1).f0), .int .i64 ((rd_T32 l0 x57_1).f1), .string ((rd_T32 l0 x57_1).f2)]] (by rfl) rfl rfl (by (try simp only [List.map_toArray, List.map_cons, List.map_nil]); first | done | rfl | (simp only [List.length_drop, List.length_take]; rfl)) ?_
                with_reducible refine (trommelref16_May.calls ((rd_T32 l0 x57_1).f0) ((rd_T32 l0 x57_1).f1) ((rd_T32 l0 x57_1).f2) t238 _ A28.out).mono ?_
                rintro e w41 ⟨rfl, hb⟩
                refine ⟨_, rfl, ?_⟩
                have n0_ := Aside0.mk (Kd.R_below (by (with_reducible repeat (first | apply Kd.R_alloc | apply Kd.R_drewN | apply Kd.R_drew)); exact HO_7.out) hb)
                have n1_ := Aside0.mk (Kd.R_below (by (with_reducible repeat (first | apply Kd.R_alloc | apply Kd.R_drewN | apply Kd.R_drew)); exact HO_9.out) hb)
                have n2_ := Aside0.mk (Kd.R_below (by (with_reducible repeat (first | apply Kd.R_alloc | apply Kd.R_drewN | apply Kd.R_drew)); exact HO_13.out) hb)
                have n3_ := Aside0.mk (Kd.R_below (by (with_reducible repeat (first | apply Kd.R_alloc | apply Kd.R_drewN | apply Kd.R_drew)); exact HO_15.out) hb)
                have n4_ := Aside0.mk (blk_below (g := gb236) (o := .cells #[.int .i64 ((rd_T32 l0 x57_1).f0), .int .i64 ((rd_T32 l0 x57_1).f1), .string ((rd_T32 l0 x57_1).f2)] 32 (0, 0)) (by (with_reducible repeat (first | refine blk_drewN ?_ _ | refine blk_drew ?_ | refine blk_alloc ?_ _)); exact BK236.out) hb)
                have n5_ := Aside0.mk (below_step (by repeat (first | (with_reducible first | exact HB.out | apply below_alloc | apply pw_below_drewN | apply below_drew1 | refine below_set ?_ GE236.out) | exact HB.out)) hb)
                clear HO_7
                clear HO_9
                clear HO_13
                clear HO_15
                clear BK236
                clear HB
                have HO_7 := n0_
                have HO_9 := n1_
                have HO_13 := n2_
                have HO_15 := n3_
                have BK236 := n4_
                have HB := n5_
                clear n0_ n1_ n2_ n3_ n4_ n5_
                (try clear hb)
                (try clear hb2)
                (try clear hk)
                (try clear hi)
                refine hK.out _ _ ⟨(blk_cell BK236.out 0).trans rfl, (blk_cell BK236.out 1).trans rfl, (blk_cell BK236.out 2).trans rfl⟩ (fun hHeld => ?_)
                clear hK K
                refine norm_ (a' := ?_) ?_ ?_
                rotate_left
                · show Act.put _ (some 64) _ = _
                  simp only [Act.put, List.setIfInBounds_toArray, List.set_cons_zero, List.set_cons_succ, i64_w, i32_w]
                  rfl
                refine pure_ (i := 4) (N := some 65) (v := ?_) (a' := ?_) #[true, true, true, true, true] rfl rfl (by kernel_rfl) (fun _ _ _ h => h) (Or.inl ⟨by rfl, ?_⟩) ?_ ?_
                rotate_left
                · intro w'
                  go_simp
                  with_reducible rfl
                rotate_left
                · simp only [Act.put, List.setIfInBounds_toArray, List.set_cons_zero, List.set_cons_succ, i64_w, i32_w]
                  rfl
                refine done_ (by kernel_rfl) ?_
                try go_wp2
                go_roundg k1
                case measure => have := HK1.out; omega
                case rel => exact ⟨(wrap64 (x57_1 + 1)), (by first | rfl | (simp; done) | (simp [*]; done)), H', ⟨by have := HK1.out; omega⟩, ⟨by (with_reducible repeat (first | apply Kd.R_alloc | apply Kd.R_drewN | apply Kd.R_drew)); exact HO_7.out⟩, ⟨by (with_reducible repeat (first | apply Kd.R_alloc | apply Kd.R_drewN | apply Kd.R_drew)); exact HO_9.out⟩, ⟨by (with_reducible repeat (first | apply Kd.R_alloc | apply Kd.R_drewN | apply Kd.R_drew)); exact HO_13.out⟩, ⟨by (with_reducible repeat (first | apply Kd.R_alloc | apply Kd.R_drewN | apply Kd.R_drew)); exact HO_15.out⟩, ⟨by repeat (first | (with_reducible first | exact HB.out | apply below_alloc | apply pw_below_drewN | apply below_drew1 | refine below_set ?_ GE236.out) | exact HB.out)⟩⟩
            · rw [if_neg c26] at H
              exact absurd H (by simp)
          · rw [if_neg c25] at H
            exact absurd H (by simp)
        · rw [if_neg c24] at H
          have c24b0 : decide (x57_1 < (l0.length : Int)) = false := decide_eq_false c24
          clear c24
          by_cases c42 : t210 = t218
          · rw [if_pos c42] at H
            have c42b0 : (t210 == t218) = true := beq_iff_eq.mpr c42
            have c42b1 : (t210 != t218) = false := bne_eq_false_iff_eq.mpr c42
            clear c42
            by_cases c43 : t222 = t230
            · rw [if_pos c43] at H
              have c43b0 : (t222 == t230) = true := beq_iff_eq.mpr c43
              have c43b1 : (t222 != t230) = false := bne_eq_false_iff_eq.mpr c43
              clear c43
              replace H := Option.bind_eq_some_iff.mp H
              obtain ⟨t233, A440, H⟩ := H
              replace H : (if t233 = true then ((trommellaw17_sameBytes.f t225 t229).bind fun t234 => (some t234)) else (some false)) = some r := H
              have A44 := Aside0.mk A440
              clear A440
              by_cases c45 : t233 = true
              · subst c45
                have H1 : ((trommellaw17_sameBytes.f t225 t229).bind fun t234 => (some t234)) = some r := by rw [if_pos rfl] at H; exact H
                clear H
                have H := H1
                clear H1
                replace H := Option.bind_eq_some_iff.mp H
                obtain ⟨t234, A460, H⟩ := H
                replace H : (some t234) = some r := H
                have A46 := Aside0.mk A460
                clear A460
                obtain rfl := Option.some.inj H
                obtain ⟨Ao47, co47, eo47⟩ := Kd.R_slice HO_7.out
                subst eo47
                obtain ⟨Ao48, co48, eo48⟩ := Kd.R_slice HO_9.out
                subst eo48
                go_wp2_with (first | (go_at_call 17; (with_reducible refine (trommellaw17_sameBytes.calls _ _ t213 _ _ t217 true _ ?side1 ?side2 ?side3 ?side4 A44.out).mono ?_); (case side1 => repeat (first | exact (Kd.R_reads' HO_7.out).2.2 | (with_reducible refine Kd.C_alloc ?_ _) | (with_reducible refine Kd.C_drewN ?_ _) | (with_reducible refine Kd.C_drew ?_))); (case side2 => exact (Kd.R_reads' HO_7.out).2.1); (case side3 => repeat (first | exact (Kd.R_reads' HO_9.out).2.2 | (with_reducible refine Kd.C_alloc ?_ _) | (with_reducible refine Kd.C_drewN ?_ _) | (with_reducible refine Kd.C_drew ?_))); (case side4 => exact (Kd.R_reads' HO_9.out).2.1); rintro e w' ⟨rfl, ⟨nd, rfl⟩⟩; obtain ⟨Ao49, co49, eo49⟩ := Kd.R_slice HO_13.out; subst eo49; obtain ⟨Ao50, co50, eo50⟩ := Kd.R_slice HO_15.out; subst eo50) | (go_at_call 17; (with_reducible refine (trommellaw17_sameBytes.calls _ _ t225 _ _ t229 t234 _ ?side1 ?side2 ?side3 ?side4 A46.out).mono ?_); (case side1 => repeat (first | exact (Kd.R_reads' HO_13.out).2.2 | (with_reducible refine Kd.C_alloc ?_ _) | (with_reducible refine Kd.C_drewN ?_ _) | (with_reducible refine Kd.C_drew ?_))); (case side2 => exact (Kd.R_reads' HO_13.out).2.1); (case side3 => repeat (first | exact (Kd.R_reads' HO_15.out).2.2 | (with_reducible refine Kd.C_alloc ?_ _) | (with_reducible refine Kd.C_drewN ?_ _) | (with_reducible refine Kd.C_drew ?_))); (case side4 => exact (Kd.R_reads' HO_15.out).2.1); rintro e w' ⟨rfl, ⟨nd, rfl⟩⟩))
                go_ret
                exact ⟨by first | rfl | (simp [errW_none, errW_some] <;> rfl) | (simp [*, errW_none, errW_some] <;> rfl), by repeat (first | (with_reducible first | exact HB.out | apply below_alloc | apply pw_below_drewN | apply below_drew1) | exact HB.out)⟩
              · replace c45 := Bool.eq_false_iff.mpr c45
                subst c45
                have H1 : (some false) = some r := by rw [if_neg (show ¬ (false = true) by decide)] at H; exact H
                clear H
                have H := H1
                clear H1
                obtain rfl := Option.some.inj H
                obtain ⟨Ao51, co51, eo51⟩ := Kd.R_slice HO_7.out
                subst eo51
                obtain ⟨Ao52, co52, eo52⟩ := Kd.R_slice HO_9.out
                subst eo52
                go_wp2_with (first | (go_at_call 17; (with_reducible refine (trommellaw17_sameBytes.calls _ _ t213 _ _ t217 false _ ?side1 ?side2 ?side3 ?side4 A44.out).mono ?_); (case side1 => repeat (first | exact (Kd.R_reads' HO_7.out).2.2 | (with_reducible refine Kd.C_alloc ?_ _) | (with_reducible refine Kd.C_drewN ?_ _) | (with_reducible refine Kd.C_drew ?_))); (case side2 => exact (Kd.R_reads' HO_7.out).2.1); (case side3 => repeat (first | exact (Kd.R_reads' HO_9.out).2.2 | (with_reducible refine Kd.C_alloc ?_ _) | (with_reducible refine Kd.C_drewN ?_ _) | (with_reducible refine Kd.C_drew ?_))); (case side4 => exact (Kd.R_reads' HO_9.out).2.1); rintro e w' ⟨rfl, ⟨nd, rfl⟩⟩))
                go_ret
                exact ⟨by first | rfl | (simp [errW_none, errW_some] <;> rfl) | (simp [*, errW_none, errW_some] <;> rfl), by repeat (first | (with_reducible first | exact HB.out | apply below_alloc | apply pw_below_drewN | apply below_drew1) | exact HB.out)⟩
            · rw [if_neg c43] at H
              have c43b0 : (t222 == t230) = false := beq_eq_false_iff_ne.mpr c43
              have c43b1 : (t222 != t230) = true := bne_iff_ne.mpr c43
              obtain rfl := Option.some.inj H
              go_wp2
              go_ret
              exact ⟨by first | rfl | (simp [errW_none, errW_some] <;> rfl) | (simp [*, errW_none, errW_some] <;> rfl), by repeat (first | (with_reducible first | exact HB.out | apply below_alloc | apply pw_below_drewN | apply below_drew1) | exact HB.out)⟩
          · rw [if_neg c42] at H
            have c42b0 : (t210 == t218) = false := beq_eq_false_iff_ne.mpr c42
            have c42b1 : (t210 != t218) = true := bne_iff_ne.mpr c42
            obtain rfl := Option.some.inj H
            go_wp2
            go_ret
            exact ⟨by first | rfl | (simp [errW_none, errW_some] <;> rfl) | (simp [*, errW_none, errW_some] <;> rfl), by repeat (first | (with_reducible first | exact HB.out | apply below_alloc | apply pw_below_drewN | apply below_drew1) | exact HB.out)⟩
  · replace c4 := Bool.eq_false_iff.mpr c4
    subst c4
    have H1 : (some false) = some r := by rw [if_neg (show ¬ (false = true) by decide)] at H; exact H
    clear H
    have H := H1
    clear H1
    obtain rfl := Option.some.inj H
    go_enter Try.func3, Try.ntmps3
    go_wp2_with (first | ((with_reducible refine gate_callee (f := 9) rfl ?_); refine goesL_ (some 19) rfl rfl Try.func9 (by kernel_rfl) rfl #[] rfl (by (try simp only [List.map_toArray, List.map_cons, List.map_nil]); first | done | rfl | (simp only [List.length_drop, List.length_take]; rfl)) ?_; (with_reducible refine (trommellaw17_fixed.calls k  false _ A3.out).mono ?_); rintro e w53 ⟨rfl, hb⟩; refine ⟨_, rfl, ?_⟩; have n0_ := Aside0.mk (below_step (by repeat (first | (with_reducible first | exact HB.out | apply below_alloc | apply pw_below_drewN | apply below_drew1) | exact HB.out)) hb); clear HB; have HB := n0_; clear n0_; (try clear hb); (try clear hb2); (try clear hk); (try clear hi)))
    go_ret
    exact ⟨by first | rfl | (simp [errW_none, errW_some] <;> rfl) | (simp [*, errW_none, errW_some] <;> rfl), by repeat (first | (with_reducible first | exact HB.out | apply below_alloc | apply pw_below_drewN | apply below_drew1) | exact HB.out)⟩

-- NOT PRINTED: function 18 (trommellaw17_room)

-- NOT PRINTED: function 21 (trommellaw17_kept)

-- NOT PRINTED: function 4 (trommellaw17_RecordSums)

/-! ### trommelref17_read: function 38 -/
mutual
def trommelref17_read.l0 : Nat → List Int → Int → Int → Int → Int → Int → Option (Int × Int × Bool)
  | 0, _, _, _, _, _, _ => none
  | k + 1, x0, x1, x2, x9, x10, x11 => if x11 < 8 then (trommelref17_read.j1 k x0 x1 x2 x9 x10 x11 (decide ((wrap64 (x1 + x11)) < (x0.length : Int)))) else (trommelref17_read.j1 k x0 x1 x2 x9 x10 x11 false)
def trommelref17_read.j1 : Nat → List Int → Int → Int → Int → Int → Int → Bool → Option (Int × Int × Bool)
  | 0, _, _, _, _, _, _, _ => none
  | k + 1, x0, x1, x2, x9, x10, x11, x22 => if x22 = true then (if 0 ≤ (wrap64 (x1 + x11)) then (if (wrap64 (x1 + x11)) < (x0.length : Int) then (if (wrap64 (rd x0 (wrap64 (x1 + x11)))) < 128 then (if (wrap64 (x9 + (wrap64 ((Int.tmod (wrap64 (rd x0 (wrap64 (x1 + x11)))) 128) * x10)))) ≤ x2 then (if (wrap64 (rd x0 (wrap64 (x1 + x11)))) > 0 then (some (wrap64 (x9 + (wrap64 ((Int.tmod (wrap64 (rd x0 (wrap64 (x1 + x11)))) 128) * x10))), wrap64 ((wrap64 (x1 + x11)) + 1), true)) else (some (wrap64 (x9 + (wrap64 ((Int.tmod (wrap64 (rd x0 (wrap64 (x1 + x11)))) 128) * x10))), wrap64 ((wrap64 (x1 + x11)) + 1), (x11 == 0)))) else (some (wrap64 (x9 + (wrap64 ((Int.tmod (wrap64 (rd x0 (wrap64 (x1 + x11)))) 128) * x10))), wrap64 ((wrap64 (x1 + x11)) + 1), false))) else (trommelref17_read.l0 k x0 x1 x2 (wrap64 (x9 + (wrap64 ((Int.tmod (wrap64 (rd x0 (wrap64 (x1 + x11)))) 128) * x10)))) (wrap64 (x10 * 128)) (wrap64 (x11 + 1)))) else (none)) else (none)) else (some (0, 0, false))
end
def trommelref17_read.f (k : Nat) (l0 : List Int) (a1 : Int) (a2 : Int) : Option (Int × Int × Bool) := trommelref17_read.l0 k l0 a1 a2 0 1 0
theorem trommelref17_read.mono_l : ∀ k, (∀ y0 y1 y2 y3 y4 y5, LeO (trommelref17_read.l0 k y0 y1 y2 y3 y4 y5) (trommelref17_read.l0 (k + 1) y0 y1 y2 y3 y4 y5)) ∧ (∀ y0 y1 y2 y3 y4 y5 y6, LeO (trommelref17_read.j1 k y0 y1 y2 y3 y4 y5 y6) (trommelref17_read.j1 (k + 1) y0 y1 y2 y3 y4 y5 y6))
  | 0 => ⟨fun _ _ _ _ _ _ r h => by simp [trommelref17_read.l0] at h, fun _ _ _ _ _ _ _ r h => by simp [trommelref17_read.j1] at h⟩
  | k + 1 => by
    obtain ⟨ih0, ih1⟩ := trommelref17_read.mono_l k
    refine ⟨?_, ?_⟩
    · intro y0 y1 y2 y3 y4 y5
      unfold trommelref17_read.l0
      repeat' first
      | (with_reducible exact ih0 _ _ _ _ _ _)
      | (with_reducible exact ih1 _ _ _ _ _ _ _)
      | (with_reducible exact LeO.refl _)
      | (with_reducible exact LeO.none _)
      | (with_reducible refine LeO.ite ?_ ?_)
      | (with_reducible refine LeO.bind ?_ (fun _ => ?_))
      | exact ih0 _ _ _ _ _ _
      | exact ih1 _ _ _ _ _ _ _
      | exact LeO.none _
      | refine LeO.ite ?_ ?_
      | refine LeO.bind ?_ (fun _ => ?_)
    · intro y0 y1 y2 y3 y4 y5 y6
      unfold trommelref17_read.j1
      repeat' first
      | (with_reducible exact ih0 _ _ _ _ _ _)
      | (with_reducible exact ih1 _ _ _ _ _ _ _)
      | (with_reducible exact LeO.refl _)
      | (with_reducible exact LeO.none _)
      | (with_reducible refine LeO.ite ?_ ?_)
      | (with_reducible refine LeO.bind ?_ (fun _ => ?_))
      | exact ih0 _ _ _ _ _ _
      | exact ih1 _ _ _ _ _ _ _
      | exact LeO.none _
      | refine LeO.ite ?_ ?_
      | refine LeO.bind ?_ (fun _ => ?_)
theorem trommelref17_read.mono : ∀ a0 a1 a2 k, LeO (trommelref17_read.f k a0 a1 a2) (trommelref17_read.f (k + 1) a0 a1 a2) := by
  intro a0 a1 a2 k
  obtain ⟨ih0, ih1⟩ := trommelref17_read.mono_l k
  unfold trommelref17_read.f
  repeat' first
      | (with_reducible exact ih0 _ _ _ _ _ _)
      | (with_reducible exact ih1 _ _ _ _ _ _ _)
      | (with_reducible exact LeO.refl _)
      | (with_reducible exact LeO.none _)
      | (with_reducible refine LeO.ite ?_ ?_)
      | (with_reducible refine LeO.bind ?_ (fun _ => ?_))
      | exact ih0 _ _ _ _ _ _
      | exact ih1 _ _ _ _ _ _ _
      | exact LeO.none _
      | refine LeO.ite ?_ ?_
      | refine LeO.bind ?_ (fun _ => ?_)
set_option maxHeartbeats 8000000 in
set_option maxRecDepth 100000 in
theorem trommelref17_read.calls (k : Nat) (A0 : Option Addr) (c0 : Nat) (l0 : List Int) (a1 : Int) (a2 : Int) (r1 : Int) (r2 : Int) (r3 : Bool) (w : World) (hr0 : Kd.C (Kd.int .u8) w A0 l0.length l0) (hc0 : l0.length ≤ c0) (h : trommelref17_read.f k l0 a1 a2 = some (r1, r2, r3)) :
    Calls Try.prog 38 #[.slice A0 l0.length c0, .int .i64 a1, .int .i64 a2] w fun e w' => e = .returned (.tuple #[.int .i64 r1, .int .i64 r2, .bool r3]) ∧ Drawn0 w w' := by
  have HR0 := Aside0.mk hr0
  have HC0 := Aside0.mk hc0
  clear hr0 hc0
  have H : (trommelref17_read.l0 k l0 a1 a2 0 1 0) = some (r1, r2, r3) := h
  clear h
  have H' := Aside0.mk H
  clear H
  go_enter Try.func38, Try.ntmps38
  go_wp2
  go_loopg [9, 10, 11] k (fun kq v9 v10 v11 w' => ∃ (x9_1 : Int) (x10_1 : Int) (x11_1 : Int), v9 = .int .i64 x9_1 ∧ v10 = .int .i64 x10_1 ∧ v11 = .int .i64 x11_1 ∧ Aside0 (trommelref17_read.l0 kq l0 a1 a2 x9_1 x10_1 x11_1 = some (r1, r2, r3)) ∧ Aside0 (kq ≤ k) ∧ Drawn0 w w')
  case atStart => exact ⟨(0), (1), (0), (by first | rfl | (simp; done) | (simp [*]; done)), (by first | rfl | (simp; done) | (simp [*]; done)), (by first | rfl | (simp; done) | (simp [*]; done)), H', ⟨Nat.le_refl _⟩, by repeat (first | exact Drawn0.refl _ | apply Drawn0.step)⟩
  case round =>
    clear H'
    try clear p2
    try clear c3
    obtain ⟨x9_1, x10_1, x11_1, rfl, rfl, rfl, HA, HK1, ⟨m1, rfl⟩⟩ := hrel
    cases gk with
    | zero => exact absurd HA.out (by simp [trommelref17_read.l0])
    | succ k1 =>
      have H := HA.out
      clear HA
      simp only [trommelref17_read.l0] at H
      have HC4 := Aside0.mk H
      clear H
      go_upto_region 3 with (fail)
      go_cut [22] (fun v22 wc => ∃ (kq : Nat) (x22_3 : Bool), v22 = .bool x22_3 ∧ Aside0 (trommelref17_read.j1 kq l0 a1 a2 x9_1 x10_1 x11_1 x22_3 = some (r1, r2, r3)) ∧ Aside0 (kq ≤ k1) ∧ Drawn0 w wc)
      case first =>
        have H := HC4.out
        clear HC4
        by_cases c5 : x11_1 < 8
        · rw [if_pos c5] at H
          have c5b0 : decide (x11_1 < 8) = true := decide_eq_true c5
          clear c5
          (first | rw [c5b0] | (simp only [i64_w, i32_w]; rw [c5b0]) | skip)
          have H' := Aside0.mk H
          clear H
          go_wp2
          go_meet
          case rel => exact ⟨_, (decide ((wrap64 (a1 + x11_1)) < (l0.length : Int))), (by first | rfl | (simp; done) | (simp [*]; done)), H', ⟨by have := HK1.out; first | omega | exact Nat.le_refl _⟩, by repeat (first | exact Drawn0.refl _ | apply Drawn0.step)⟩
        · rw [if_neg c5] at H
          have c5b0 : decide (x11_1 < 8) = false := decide_eq_false c5
          clear c5
          (first | rw [c5b0] | (simp only [i64_w, i32_w]; rw [c5b0]) | skip)
          have H' := Aside0.mk H
          clear H
          go_wp2
          go_meet
          case rel => exact ⟨_, (false), (by first | rfl | (simp; done) | (simp [*]; done)), H', ⟨by have := HK1.out; first | omega | exact Nat.le_refl _⟩, by repeat (first | exact Drawn0.refl _ | apply Drawn0.step)⟩
      case rest =>
        clear HC4
        try clear p2
        try clear c3
        try clear c5
        try clear c5b0
        try clear p2
        obtain ⟨kq, x22_3, rfl, HA, HJ3, ⟨mc3, rfl⟩⟩ := hcut
        cases kq with
        | zero => exact absurd HA.out (by simp [trommelref17_read.j1])
        | succ kj3 =>
          have H := HA.out
          clear HA
          simp only [trommelref17_read.j1] at H
          by_cases c6 : x22_3 = true
          · subst c6
            have H1 : (if 0 ≤ (wrap64 (a1 + x11_1)) then (if (wrap64 (a1 + x11_1)) < (l0.length : Int) then (if (wrap64 (rd l0 (wrap64 (a1 + x11_1)))) < 128 then (if (wrap64 (x9_1 + (wrap64 ((Int.tmod (wrap64 (rd l0 (wrap64 (a1 + x11_1)))) 128) * x10_1)))) ≤ a2 then (if (wrap64 (rd l0 (wrap64 (a1 + x11_1)))) > 0 then (some (wrap64 (x9_1 + (wrap64 ((Int.tmod (wrap64 (rd l0 (wrap64 (a1 + x11_1)))) 128) * x10_1))), wrap64 ((wrap64 (a1 + x11_1)) + 1), true)) else (some (wrap64 (x9_1 + (wrap64 ((Int.tmod (wrap64 (rd l0 (wrap64 (a1 + x11_1)))) 128) * x10_1))), wrap64 ((wrap64 (a1 + x11_1)) + 1), (x11_1 == 0)))) else (some (wrap64 (x9_1 + (wrap64 ((Int.tmod (wrap64 (rd l0 (wrap64 (a1 + x11_1)))) 128) * x10_1))), wrap64 ((wrap64 (a1 + x11_1)) + 1), false))) else (trommelref17_read.l0 kj3 l0 a1 a2 (wrap64 (x9_1 + (wrap64 ((Int.tmod (wrap64 (rd l0 (wrap64 (a1 + x11_1)))) 128) * x10_1)))) (wrap64 (x10_1 * 128)) (wrap64 (x11_1 + 1)))) else (none)) else (none)) = some (r1, r2, r3) := by rw [if_pos rfl] at H; exact H
            clear H
            have H := H1
            clear H1
            obtain ⟨ji7, hji7⟩ : ∃ j_ : Int, (wrap64 (a1 + x11_1)) = j_ := ⟨_, rfl⟩
            replace H : (if 0 ≤ (ji7) then (if (ji7) < (l0.length : Int) then (if (wrap64 (rd l0 (ji7))) < 128 then (if (wrap64 (x9_1 + (wrap64 ((Int.tmod (wrap64 (rd l0 (ji7))) 128) * x10_1)))) ≤ a2 then (if (wrap64 (rd l0 (ji7))) > 0 then (some (wrap64 (x9_1 + (wrap64 ((Int.tmod (wrap64 (rd l0 (ji7))) 128) * x10_1))), wrap64 ((ji7) + 1), true)) else (some (wrap64 (x9_1 + (wrap64 ((Int.tmod (wrap64 (rd l0 (ji7))) 128) * x10_1))), wrap64 ((ji7) + 1), (x11_1 == 0)))) else (some (wrap64 (x9_1 + (wrap64 ((Int.tmod (wrap64 (rd l0 (ji7))) 128) * x10_1))), wrap64 ((ji7) + 1), false))) else (trommelref17_read.l0 kj3 l0 a1 a2 (wrap64 (x9_1 + (wrap64 ((Int.tmod (wrap64 (rd l0 (ji7))) 128) * x10_1)))) (wrap64 (x10_1 * 128)) (wrap64 (x11_1 + 1)))) else (none)) else (none)) = some (r1, r2, r3) := by first | (rw [hji7] at H; exact H) | (simp only [hji7] at H ⊢; exact H)
            have hji7w : (IntKind.i64.wrap (a1 + x11_1)) = ji7 := (i64_w _).trans hji7
            by_cases c8 : 0 ≤ (ji7)
            · rw [if_pos c8] at H
              have c8b0 : decide (0 ≤ (ji7)) = true := decide_eq_true c8
              clear c8
              by_cases c9 : (ji7) < (l0.length : Int)
              · rw [if_pos c9] at H
                have c9b0 : decide ((ji7) < (l0.length : Int)) = true := decide_eq_true c9
                clear c9
                by_cases c10 : (wrap64 (rd l0 (ji7))) < 128
                · rw [if_pos c10] at H
                  have c10b0 : decide ((wrap64 (rd l0 (ji7))) < 128) = true := decide_eq_true c10
                  clear c10
                  by_cases c11 : (wrap64 (x9_1 + (wrap64 ((Int.tmod (wrap64 (rd l0 (ji7))) 128) * x10_1)))) ≤ a2
                  · rw [if_pos c11] at H
                    have c11b0 : decide ((wrap64 (x9_1 + (wrap64 ((Int.tmod (wrap64 (rd l0 (ji7))) 128) * x10_1)))) ≤ a2) = true := decide_eq_true c11
                    clear c11
                    by_cases c12 : (wrap64 (rd l0 (ji7))) > 0
                    · rw [if_pos c12] at H
                      have c12b0 : decide (0 < (wrap64 (rd l0 (ji7)))) = true := decide_eq_true c12
                      clear c12
                      simp only [Option.some.injEq, Prod.mk.injEq] at H
                      obtain ⟨rfl, rfl, rfl⟩ := H
                      have p239 : 0 ≤ ((ji7) : Int) := of_decide_eq_true (by first | (with_reducible assumption) | assumption)
                      have q239 : (ji7) < (l0.length : Int) := of_decide_eq_true (by first | (with_reducible assumption) | assumption)
                      obtain ⟨ad239, e239, hx239_0⟩ := Kd.at_int HR0.out (ji7) p239 q239
                      cases e239
                      replace p239 := eq_true p239
                      replace q239 := eq_true q239
                      go_wp2
                      go_ret3
                      exact ⟨by first | rfl | (simp; done) | (simp only [← hji7] <;> (first | rfl | simp)) | (simp [*]; done), by repeat (first | exact Drawn0.refl _ | apply Drawn0.step)⟩
                    · rw [if_neg c12] at H
                      have c12b0 : decide (0 < (wrap64 (rd l0 (ji7)))) = false := decide_eq_false c12
                      clear c12
                      simp only [Option.some.injEq, Prod.mk.injEq] at H
                      obtain ⟨rfl, rfl, rfl⟩ := H
                      have p239 : 0 ≤ ((ji7) : Int) := of_decide_eq_true (by first | (with_reducible assumption) | assumption)
                      have q239 : (ji7) < (l0.length : Int) := of_decide_eq_true (by first | (with_reducible assumption) | assumption)
                      obtain ⟨ad239, e239, hx239_0⟩ := Kd.at_int HR0.out (ji7) p239 q239
                      cases e239
                      replace p239 := eq_true p239
                      replace q239 := eq_true q239
                      go_wp2
                      go_ret3
                      exact ⟨by first | rfl | (simp; done) | (simp only [← hji7] <;> (first | rfl | simp)) | (simp [*]; done), by repeat (first | exact Drawn0.refl _ | apply Drawn0.step)⟩
                  · rw [if_neg c11] at H
                    have c11b0 : decide ((wrap64 (x9_1 + (wrap64 ((Int.tmod (wrap64 (rd l0 (ji7))) 128) * x10_1)))) ≤ a2) = false := decide_eq_false c11
                    clear c11
                    simp only [Option.some.injEq, Prod.mk.injEq] at H
                    obtain ⟨rfl, rfl, rfl⟩ := H
                    have p239 : 0 ≤ ((ji7) : Int) := of_decide_eq_true (by first | (with_reducible assumption) | assumption)
                    have q239 : (ji7) < (l0.length : Int) := of_decide_eq_true (by first | (with_reducible assumption) | assumption)
                    obtain ⟨ad239, e239, hx239_0⟩ := Kd.at_int HR0.out (ji7) p239 q239
                    cases e239
                    replace p239 := eq_true p239
                    replace q239 := eq_true q239
                    go_wp2
                    go_ret3
                    exact ⟨by first | rfl | (simp; done) | (simp only [← hji7] <;> (first | rfl | simp)) | (simp [*]; done), by repeat (first | exact Drawn0.refl _ | apply Drawn0.step)⟩
                · rw [if_neg c10] at H
                  have c10b0 : decide ((wrap64 (rd l0 (ji7))) < 128) = false := decide_eq_false c10
                  clear c10
                  have H' := Aside0.mk H
                  clear H
                  have p239 : 0 ≤ ((ji7) : Int) := of_decide_eq_true (by first | (with_reducible assumption) | assumption)
                  have q239 : (ji7) < (l0.length : Int) := of_decide_eq_true (by first | (with_reducible assumption) | assumption)
                  obtain ⟨ad239, e239, hx239_0⟩ := Kd.at_int HR0.out (ji7) p239 q239
                  cases e239
                  replace p239 := eq_true p239
                  replace q239 := eq_true q239
                  go_wp2
                  go_roundg kj3
                  case measure => have := HK1.out; have := HJ3.out; omega
                  case rel => exact ⟨(wrap64 (x9_1 + (wrap64 ((Int.tmod (wrap64 (rd l0 (ji7))) 128) * x10_1)))), (wrap64 (x10_1 * 128)), (wrap64 (x11_1 + 1)), (by first | rfl | (simp; done) | (simp only [← hji7] <;> (first | rfl | simp)) | (simp [*]; done)), (by first | rfl | (simp; done) | (simp [*]; done)), (by first | rfl | (simp; done) | (simp [*]; done)), H', ⟨by have := HK1.out; have := HJ3.out; omega⟩, by repeat (first | exact Drawn0.refl _ | apply Drawn0.step)⟩
              · rw [if_neg c9] at H
                exact absurd H (by simp)
            · rw [if_neg c8] at H
              exact absurd H (by simp)
          · replace c6 := Bool.eq_false_iff.mpr c6
            subst c6
            have H1 : (some (0, 0, false)) = some (r1, r2, r3) := by rw [if_neg (show ¬ (false = true) by decide)] at H; exact H
            clear H
            have H := H1
            clear H1
            simp only [Option.some.injEq, Prod.mk.injEq] at H
            obtain ⟨rfl, rfl, rfl⟩ := H
            go_wp2
            go_ret3
            exact ⟨by first | rfl | (simp; done) | (simp [*]; done), by repeat (first | exact Drawn0.refl _ | apply Drawn0.step)⟩

end Go.Proofs.Ytgnhadbadhgdgaa.Prt
