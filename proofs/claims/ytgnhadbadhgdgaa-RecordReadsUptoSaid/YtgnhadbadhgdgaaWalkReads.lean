/- The walk of RecordReads: at any bytes the law's function returns true. Conditions: the bytes are bytes, the list is one of memory. -/
import Derived.Test.YtgnhadbadhgdgaaMem
import Derived.Test.YtgnhadbadhgdgaaMathH
namespace Go.Proofs.Ytgnhadbadhgdgaa.Prt
open Go.RowKit Go.Proofs.YtgnhadbadhgdgaaW.PrintWords Go.Proofs.YtgnhadbadhgdgaaW.PrintLast Go.Proofs.YtgnhadbadhgdgaaW.PrintMore
attribute [local go_sem high] eqA32
set_option linter.unusedVariables false
set_option linter.unusedSimpArgs false

/-- The row that room made, read without its mark. -/
theorem mine_C {w : World} {base c : Nat} {A : Option Addr} {ok : Nat → Prop} {l : List Int} (h : Kd.R (Kd.int .u8) 5 w base ok (.slice A (l ++ [199]).length c) (l ++ [199])) : Kd.C (Kd.int .u8) w A l.length l := by
  have h1 := Kd.C_take (m := l.length) (Kd.R_reads' h).2.2 (by simp)
  simpa using h1
theorem mine_blk {w : World} {base c : Nat} {A : Option Addr} {ok : Nat → Prop} {l : List Int} (h : Kd.R (Kd.int .u8) 5 w base ok (.slice A (l ++ [199]).length c) (l ++ [199])) : ∀ k, A = some ⟨k, 0, none⟩ → k < w.heap.size := by
  obtain ⟨g, cap, e, _, hlt, _⟩ := Kd.R_form h (by simp)
  injection e with e1
  intro k hk
  rw [e1] at hk
  injection hk with hk
  injection hk with hk
  omega
theorem mine_own {w : World} {base c : Nat} {A : Option Addr} {ok : Nat → Prop} {l : List Int} (h : Kd.R (Kd.int .u8) 5 w base ok (.slice A (l ++ [199]).length c) (l ++ [199])) : Kd.R (Kd.int .u8) 5 w base (fun k_ => A = some ⟨k_, 0, none⟩) (.slice A l.length c) l := by
  obtain ⟨g, cap, e, _, hlt, _⟩ := Kd.R_form h (by simp)
  injection e with e1
  have h1 := Kd.R_take (m := l.length) h (by simp)
  have e2 : List.take l.length (l ++ [199]) = l := by simp
  rw [e2] at h1
  obtain ⟨_, inner, ho, hr⟩ := h1
  refine ⟨fun k hk => ?_, inner, ho, hr⟩
  rw [e1] at hk ⊢
  simp [Value.ownBlock] at hk
  rw [hk]
set_option maxRecDepth 100000 in
set_option maxHeartbeats 8000000 in
theorem reads_any (A : Option Addr) (c : Nat) (l : List Int) (w : World) (hr : Kd.C (Kd.int .u8) w A l.length l) (hc : l.length ≤ c) (hB : isB l) (hl : l.length ≤ 1048576) :
    Calls Try.prog 5 #[.slice A l.length c] w fun e w' => e = .returned (.bool true) ∧ Below w.heap.size w w' := by
  have HR := Aside0.mk hr
  obtain ⟨⟨d1, d2, d3, d4, d5⟩, hd⟩ : ∃ d, decT l = d := ⟨_, rfl⟩
  have hdec := dec_fn hB (by omega)
  rw [show some ((Ext.decF l).1.1, (Ext.decF l).1.2.1, (Ext.decF l).1.2.2, (Ext.decF l).2.1, (Ext.decF l).2.2) = some (decT l) from rfl, hd] at hdec
  have HD := Aside0.mk hdec
  obtain ⟨kd, hkd⟩ := Ev.rounds (ev_refdec l hB (by omega))
  rw [hd] at hkd
  have HD2 := Aside0.mk hkd
  obtain ⟨⟨r1, r2, r3, r4⟩, hs1, hs2, hs3, _⟩ := ev_scans l hB (by omega)
  obtain ⟨k1, hk1⟩ := Ev.rounds hs1
  obtain ⟨k2, hk2⟩ := Ev.rounds hs2
  have HS1 := Aside0.mk hk1
  have HS2 := Aside0.mk hk2
  have hrl : r2.length ≤ 1048576 := by simp only at hs3; omega
  obtain ⟨k3, hk3⟩ := Ev.rounds (ev_same r2 (by omega))
  have HS3 := Aside0.mk hk3
  obtain ⟨k4, hk4⟩ := Ev.rounds (ev_over l (by omega))
  have HO := Aside0.mk hk4
  clear hr hB hd hdec hkd hs1 hs2 hs3 hk1 hk2 hk3 hk4
  go_enter Try.func5, Try.ntmps5
  go_wp2_with (fail)
  refine (trommellaw17_fixed.calls 200 true _ fixed_200).mono ?_
  rintro e w1 ⟨rfl, hb⟩
  have HBw1 := Aside0.mk hb
  clear hb
  go_wp2_with (fail)
  refine (room_any A c l _ (Kd.C_below HR.out HBw1.out) hc (by omega)).mono ?_
  rintro e w2 ⟨A', c', rfl, hc', hm, hb⟩
  have HMw2 := Aside0.mk hm
  have HG := Aside0.mk (mine_blk hm)
  have HBw2 := Aside0.mk (below_step HBw1.out hb)
  clear hm hb
  go_wp2_with (fail)
  refine (record_Decode.calls A' c' l d1 d2 d3 d4 d5 _ (mine_C HMw2.out) (by omega) HD.out).mono ?_
  rintro e w3 ⟨rfl, hb⟩
  have HMw3 := Aside0.mk (Kd.R_below HMw2.out hb)
  have HBw3 := Aside0.mk (below_step HBw2.out hb)
  have hs23 := hb.size
  clear hb HMw2
  go_wp2_with (first | ((with_reducible refine gate_dst (N := 4) rfl ?_); refine box_event ?hg (N := 4) ?hd (cs := #[.int .i64 0, .int .i64 0, .string .empty]) (t := 32) ?hr ?_; (case hd => rfl); (case hg => rfl); (case hr => first | (go_simp; done) | (go_simp; rfl)); intro g4 hg wb hbox hb; have BKn := Aside0.mk hbox; have HBn := Aside0.mk (And.intro hg hb); have hz0 := (blk_cell BKn.out 0).trans rfl; have hz1 := (blk_cell BKn.out 1).trans rfl; have hz2 := (blk_cell BKn.out 2).trans rfl; have hf0 := blk_frozen BKn.out 0; have hf1 := blk_frozen BKn.out 1; have hf2 := blk_frozen BKn.out 2; clear hbox hb hg))
  have hge := (show w3.heap.size ≤ g4 from by rw [HBn.out.1]; exact Nat.le_refl _)
  have hb := (show Below w3.heap.size w3 (((wb.setCell ⟨g4, 0, none⟩ (.int .i64 d1)).setCell ⟨g4, 1, none⟩ (.int .i64 d2)).setCell ⟨g4, 2, none⟩ (.string d3)) from below_set (below_set (below_set HBn.out.2 hge) hge) hge)
  have hgm4 := (show w2.heap.size ≤ g4 by omega)
  have BK4w4 := Aside0.mk (show (((wb.setCell ⟨g4, 0, none⟩ (.int .i64 d1)).setCell ⟨g4, 1, none⟩ (.int .i64 d2)).setCell ⟨g4, 2, none⟩ (.string d3)).heap[g4]? = some (.cells #[.int .i64 d1, .int .i64 d2, .string d3] 32 (0, 0)) from blk_put (blk_put (blk_put BKn.out 0 _ rfl) 1 _ rfl) 2 _ rfl)
  have HBw4 := Aside0.mk (below_step HBw3.out hb)
  have HMw4 := Aside0.mk (Kd.R_below HMw3.out hb)
  clear hb hge HBw3 HMw3
  clear BKn HBn hz0 hz1 hz2 hf0 hf1 hf2
  generalize (((wb.setCell ⟨g4, 0, none⟩ (.int .i64 d1)).setCell ⟨g4, 1, none⟩ (.int .i64 d2)).setCell ⟨g4, 2, none⟩ (.string d3)) = w4 at *
  refine (trommelref17_Decode.calls kd A c l d1 d2 d3 d4 d5 _ (Kd.C_below HR.out HBw4.out) hc HD2.out).mono ?_
  rintro e w5 ⟨rfl, hb⟩
  have HBw5 := Aside0.mk (below_step HBw4.out hb)
  have HMw5 := Aside0.mk (Kd.R_below HMw4.out hb)
  have BK4w5 := Aside0.mk (blk_below BK4w4.out hb)
  clear hb HBw4 HMw4 BK4w4
  go_wp2_with (first | ((with_reducible refine gate_dst (N := 7) rfl ?_); refine box_event ?hg (N := 7) ?hd (cs := #[.int .i64 0, .int .i64 0, .string .empty]) (t := 32) ?hr ?_; (case hd => rfl); (case hg => rfl); (case hr => first | (go_simp; done) | (go_simp; rfl)); intro g7 hg wb hbox hb; have BKn := Aside0.mk hbox; have HBn := Aside0.mk (And.intro hg hb); have hz0 := (blk_cell BKn.out 0).trans rfl; have hz1 := (blk_cell BKn.out 1).trans rfl; have hz2 := (blk_cell BKn.out 2).trans rfl; have hf0 := blk_frozen BKn.out 0; have hf1 := blk_frozen BKn.out 1; have hf2 := blk_frozen BKn.out 2; clear hbox hb hg))
  have hge := (show w5.heap.size ≤ g7 from by rw [HBn.out.1]; exact Nat.le_refl _)
  have hb := (show Below w5.heap.size w5 (((wb.setCell ⟨g7, 0, none⟩ (.int .i64 d1)).setCell ⟨g7, 1, none⟩ (.int .i64 d2)).setCell ⟨g7, 2, none⟩ (.string d3)) from below_set (below_set (below_set HBn.out.2 hge) hge) hge)
  have BK7w6 := Aside0.mk (show (((wb.setCell ⟨g7, 0, none⟩ (.int .i64 d1)).setCell ⟨g7, 1, none⟩ (.int .i64 d2)).setCell ⟨g7, 2, none⟩ (.string d3)).heap[g7]? = some (.cells #[.int .i64 d1, .int .i64 d2, .string d3] 32 (0, 0)) from blk_put (blk_put (blk_put BKn.out 0 _ rfl) 1 _ rfl) 2 _ rfl)
  have BK4w6 := Aside0.mk (blk_below BK4w5.out hb)
  have hlt47 := (show g4 < g7 from Nat.lt_of_lt_of_le (blk_lt BK4w5.out) hge)
  have HBw6 := Aside0.mk (below_step HBw5.out hb)
  have hs6 := (show g7 < _ from blk_lt BK7w6.out)
  have HMw6 := Aside0.mk (Kd.R_below HMw5.out hb)
  clear hb hge HBw5 HMw5 BK4w5
  clear BKn HBn hz0 hz1 hz2 hf0 hf1 hf2
  generalize (((wb.setCell ⟨g7, 0, none⟩ (.int .i64 d1)).setCell ⟨g7, 1, none⟩ (.int .i64 d2)).setCell ⟨g7, 2, none⟩ (.string d3)) = w6 at *
  refine (record_Scan.calls k1 A' c' l r1 r2 r3 r4 _ (mine_C HMw6.out) (by omega) HS1.out).mono ?_
  rintro e w7 ⟨vl, rfl, hlr, hb⟩
  have hs67 := hb.size
  have HBw7 := Aside0.mk (below_step HBw6.out hb)
  have HMw7 := Aside0.mk (Kd.R_below HMw6.out hb)
  have BK4w7 := Aside0.mk (blk_below BK4w6.out hb)
  have BK7w7 := Aside0.mk (blk_below BK7w6.out hb)
  clear hb HBw6 HMw6 BK4w6 BK7w6
  have HLw7 := Aside0.mk (Kd.R_bound hlr)
  clear hlr
  go_wp2_with (fail)
  refine (trommelref17_Scan.calls k2 A c l r1 r2 r3 r4 _ (Kd.C_below HR.out HBw7.out) hc HS2.out).mono ?_
  rintro e w8 ⟨vk, rfl, hlr, hb⟩
  have HBw8 := Aside0.mk (below_step HBw7.out hb)
  have HMw8 := Aside0.mk (Kd.R_below HMw7.out hb)
  have BK4w8 := Aside0.mk (blk_below BK4w7.out hb)
  have BK7w8 := Aside0.mk (blk_below BK7w7.out hb)
  have HLw8 := Aside0.mk (Kd.R_below HLw7.out hb)
  clear hb HBw7 HMw7 BK4w7 BK7w7 HLw7
  have HKw8 := Aside0.mk (Kd.R_bound hlr)
  clear hlr
  obtain ⟨Al, cl, rfl⟩ := Kd.R_slice HLw8.out
  obtain ⟨Ak, ck, rfl⟩ := Kd.R_slice HKw8.out
  obtain ⟨x0, x1, x2⟩ := (show w8.cell? ⟨g4, 0, none⟩ = some (.int .i64 d1) ∧ w8.cell? ⟨g4, 1, none⟩ = some (.int .i64 d2) ∧ w8.cell? ⟨g4, 2, none⟩ = some (.string d3) from ⟨(blk_cell BK4w8.out 0).trans rfl, (blk_cell BK4w8.out 1).trans rfl, (blk_cell BK4w8.out 2).trans rfl⟩)
  obtain ⟨y0, y1, y2⟩ := (show w8.cell? ⟨g7, 0, none⟩ = some (.int .i64 d1) ∧ w8.cell? ⟨g7, 1, none⟩ = some (.int .i64 d2) ∧ w8.cell? ⟨g7, 2, none⟩ = some (.string d3) from ⟨(blk_cell BK7w8.out 0).trans rfl, (blk_cell BK7w8.out 1).trans rfl, (blk_cell BK7w8.out 2).trans rfl⟩)
  go_wp2_with (fail)
  refine (trommellaw17_sameChanges.calls k3 Al cl r2 Ak ck r2 true _ (Kd.R_reads' HLw8.out).2.2 (Kd.R_reads' HLw8.out).2.1 (Kd.R_reads' HKw8.out).2.2 (Kd.R_reads' HKw8.out).2.1 HS3.out).mono ?_
  rintro e w9 ⟨rfl, hd⟩
  have hb := hd.below
  clear hd x0 x1 x2 y0 y1 y2
  have HBw9 := Aside0.mk (below_step HBw8.out hb)
  have HMw9 := Aside0.mk (Kd.R_below HMw8.out hb)
  have BK4w9 := Aside0.mk (blk_below BK4w8.out hb)
  have BK7w9 := Aside0.mk (blk_below BK7w8.out hb)
  have HLw9 := Aside0.mk (Kd.R_below HLw8.out hb)
  have HKw9 := Aside0.mk (Kd.R_below HKw8.out hb)
  clear hb HBw8 HMw8 BK4w8 BK7w8 HLw8 HKw8
  go_wp2_with (fail)
  refine (kept_any A A' c c' l _ (Kd.C_below HR.out HBw9.out) hc (Kd.R_reads' HMw9.out).2.2 hc' (by omega)).mono ?_
  rintro e w10 ⟨rfl, hd⟩
  have hb := hd.below
  clear hd
  have HBw10 := Aside0.mk (below_step HBw9.out hb)
  have HMw10 := Aside0.mk (Kd.R_below HMw9.out hb)
  have BK4w10 := Aside0.mk (blk_below BK4w9.out hb)
  have BK7w10 := Aside0.mk (blk_below BK7w9.out hb)
  have HLw10 := Aside0.mk (Kd.R_below HLw9.out hb)
  have HKw10 := Aside0.mk (Kd.R_below HKw9.out hb)
  clear hb HBw9 HMw9 BK4w9 BK7w9 HLw9 HKw9
  go_wp2_with (fail)
  refine (trommellaw17_over.calls k4 (fun k_ => A' = some ⟨k_, 0, none⟩) _ l w _ HBw10.out (mine_own (Kd.R_lower HMw10.out HBw1.out.size)) HO.out).mono ?_
  rintro e w11 ⟨rfl, hbo, hk⟩
  have HBw11 := Aside0.mk hbo
  have BK4w11 := Aside0.mk (blk_kept BK4w10.out hk (fun h_ => by have := HG.out _ h_; omega))
  have BK7w11 := Aside0.mk (blk_kept BK7w10.out hk (fun h_ => by have := HG.out _ h_; omega))
  have HLw11 := Aside0.mk (Kd.R_kept HLw10.out hk (fun k hk_ e_ => by have := HG.out _ e_; have := hk_.2.1; omega))
  have HKw11 := Aside0.mk (Kd.R_kept HKw10.out hk (fun k hk_ e_ => by have := HG.out _ e_; have := hk_.2.1; omega))
  clear hbo hk HBw10 HMw10 BK4w10 BK7w10 HLw10 HKw10
  go_wp2_with (fail)
  refine (trommellaw17_sameChanges.calls k3 Al cl r2 Ak ck r2 true _ (Kd.R_reads' HLw11.out).2.2 (Kd.R_reads' HLw11.out).2.1 (Kd.R_reads' HKw11.out).2.2 (Kd.R_reads' HKw11.out).2.1 HS3.out).mono ?_
  rintro e w12 ⟨rfl, hd⟩
  have hb := hd.below
  clear hd
  have HBw12 := Aside0.mk (below_step HBw11.out hb)
  have BK4w12 := Aside0.mk (blk_below BK4w11.out hb)
  have BK7w12 := Aside0.mk (blk_below BK7w11.out hb)
  clear hb
  obtain ⟨x0, x1, x2⟩ := (show w12.cell? ⟨g4, 0, none⟩ = some (.int .i64 d1) ∧ w12.cell? ⟨g4, 1, none⟩ = some (.int .i64 d2) ∧ w12.cell? ⟨g4, 2, none⟩ = some (.string d3) from ⟨(blk_cell BK4w12.out 0).trans rfl, (blk_cell BK4w12.out 1).trans rfl, (blk_cell BK4w12.out 2).trans rfl⟩)
  obtain ⟨y0, y1, y2⟩ := (show w12.cell? ⟨g7, 0, none⟩ = some (.int .i64 d1) ∧ w12.cell? ⟨g7, 1, none⟩ = some (.int .i64 d2) ∧ w12.cell? ⟨g7, 2, none⟩ = some (.string d3) from ⟨(blk_cell BK7w12.out 0).trans rfl, (blk_cell BK7w12.out 1).trans rfl, (blk_cell BK7w12.out 2).trans rfl⟩)
  go_wp2
  go_ret
  exact ⟨by simp, HBw12.out⟩
end Go.Proofs.Ytgnhadbadhgdgaa.Prt
