/- The contract of record.one: what it returns is a new row of bytes. Conditions: the kind is a byte, the number and the text are in their ranges. -/
import Derived.Test.YtgnhadbadhgdgaaExtC
namespace Go.Proofs.Ytgnhadbadhgdgaa.Ext
open Go.RowKit Go.Proofs.YtgnhadbadhgdgaaW.PrintWords Go.Proofs.YtgnhadbadhgdgaaW.PrintLast Go.Proofs.YtgnhadbadhgdgaaW.PrintMore
set_option linter.unusedVariables false
set_option linter.unusedSimpArgs false

/-- A string appended to a list of bytes. -/
theorem text_app (l : List Int) (s : ByteArray) : bytesV (l ++ textL s) = bytesV l ++ Lib.strCells s := by
  rw [bytesV_app]
  simp [bytesV, textL, Lib.strCells]

set_option maxRecDepth 100000 in
set_option maxHeartbeats 1000000 in
theorem one_any (k id : Nat) (s : ByteArray) (w : World) (hk : k < 256) (hid : id ≤ 1099511627777) (hs : s.size ≤ 1000000) :
    Calls Try.prog 27 #[.agg #[.int .i64 k, .int .i64 id, .string s]] w fun e w' => ∃ v', e = .returned v' ∧ w'.ownsRow w.heap.size 5 1 v' (oneB k id s).length (bytesV (oneB k id s)) ∧ Below w.heap.size w w' := by
  obtain ⟨i0, hi, hz0, hz1, hz2⟩ := info_parts info5
  go_enter Try.func27, Try.ntmps27
  go_wp2_with (first
    | ((with_reducible refine gate_dst (N := 1) rfl ?_); refine box_event ?hg (N := 1) ?hd (cs := #[.int .i64 k, .int .i64 id, .string s]) (t := 32) ?hr ?_; (case hd => rfl); (case hg => rfl); (case hr => first | (go_simp; done) | (go_simp; rfl)); intro g0 hg w0 hbox hb; have BK0 := Sd.mk hbox; have HB0 := Sd.mk (And.intro hg hb); clear hbox hb hg)
    | ((with_reducible refine gate_dst (N := 3) rfl ?_); refine box_event ?hg (N := 3) ?hd (cs := #[.slice none 0 0]) (t := 67) ?hr ?_; (case hd => rfl); (case hg => rfl); (case hr => first | (go_simp; done) | (go_simp; rfl)); intro g hg w1 hbox hb; have BK := Sd.mk hbox; have HB := Sd.mk (And.intro hg hb); clear hbox hb hg)
    | ((with_reducible refine gate_dst (N := 4) rfl ?_); refine box_event ?hg (N := 4) ?hd (cs := #[.slice none 0 0]) (t := 67) ?hr ?_; (case hd => rfl); (case hg => rfl); (case hr => first | (go_simp; done) | (go_simp; rfl)); intro g2 hg w2 hbox hb; have BK2 := Sd.mk hbox; have HB2 := Sd.mk (And.intro hg hb); have hb0 := blk_below (blk_below BK0.out HB.out.2) hb; have hz0' := (blk_cell hb0 0).trans rfl; clear hbox hb hg))
  have hl0 : g0 < w0.heap.size := blk_lt BK0.out
  have hl1 : g < w1.heap.size := blk_lt BK.out
  have hl2 : g2 < w2.heap.size := blk_lt BK2.out
  have hs0 := HB.out.2.size
  have hs1 := HB2.out.2.size
  have ho0 : w.heap.size ≤ g0 := by rw [HB0.out.1]; exact Nat.le_refl _
  have ho1 : g0 < g := by rw [HB.out.1]; exact hl0
  have ho2 : g < g2 := by rw [HB2.out.1]; exact hl1
  have hB2 := Sd.mk (below_step (below_step HB0.out.2 (show Below w0.heap.size w0 w1 from HB.out.2)) (show Below w1.heap.size w1 w2 from HB2.out.2))
  have BK1 := Sd.mk (blk_below BK.out HB2.out.2)
  have BKA := Sd.mk hb0
  clear hb0 hz0' HB HB2 HB0 BK BK0
  refine (byte_any 67 g w2.heap.size [] k w2 (wr_new BK1.out _) (by omega) (Nat.le_refl _) (by simp)).mono ?_
  rintro e w3 ⟨rfl, hw, hf⟩
  have HW := Sd.mk hw
  have HF := Sd.mk hf
  have hb0 := (hf.block g0 (by omega) (by omega)).trans BKA.out
  have hz1' := (blk_cell hb0 1).trans rfl
  clear hw hf
  go_wp2_with (fail)
  refine (number_any 67 g w2.heap.size _ id w3 HW.out (by omega) HF.out.size (by simp) (by omega)).mono ?_
  rintro e w4 ⟨rfl, hw, hf⟩
  have HF4 := Sd.mk (HF.out.trans hf)
  have HBk4 := Sd.mk ((hf.block g0 (by omega) (by omega)).trans hb0)
  have HG4 := Sd.mk ((HF4.out.block g2 (by omega) (by omega)).trans BK2.out)
  have hz2' := (blk_cell HBk4.out 2).trans rfl
  have hvl := varL_len id
  have HI := Sd.mk (varL_isB id (by omega))
  have HBod := Sd.mk (show bodyB k id s = ((k : Int) :: varL id) ++ textL s from rfl)
  have HOne := Sd.mk (show oneB k id s = sealB (67 :: varL (bodyB k id s).length ++ bodyB k id s) from rfl)
  have e1 : ([] ++ [(k : Int)] ++ varL id : List Int) = (k : Int) :: varL id := rfl
  rw [e1] at hw
  clear e1
  obtain ⟨L1, hL1⟩ : ∃ L1, (k : Int) :: varL id = L1 := ⟨_, rfl⟩
  have hlen0 : 0 < L1.length := by rw [← hL1]; simp
  have hlen1 : L1.length ≤ 11 := by rw [← hL1]; simp; omega
  have hIB1 := Sd.mk (show isB L1 by
    rw [← hL1]; intro x hx
    rcases List.mem_cons.1 hx with rfl | hx
    · omega
    · exact HI.out x hx)
  rw [hL1] at hw
  have HBod1 := Sd.mk (show bodyB k id s = L1 ++ textL s by rw [HBod.out, hL1])
  clear hL1 HBod HI hvl
  obtain ⟨v, hh, hown⟩ := hw
  obtain ⟨ao, cp, n1, rfl, hn1⟩ := own_form2 hown
  have HH := Sd.mk hh
  have HOWN := Sd.mk hown
  obtain ⟨hc, hfz⟩ := wr_cell hh
  clear hf hb0 hz1' HW HF hh hown
  go_wp2_with (first
    | (at_builtin; refine Lib.wpList_append_own_string _ rfl _ _ 24 9 rfl w2.heap.size 5 i0 Try.underlying24 Try.underlying9 hi hz0 hz1 hz2 _ _ _ rfl HOWN.out s rfl ?c3 ?c4 ?c5 ?_))
  case c3 => unfold maxLen; omega
  case c4 => omega
  case c5 => exact HF4.out.size
  intro v' w5 hown' hgrow _
  have hown2 : w5.ownsRow w2.heap.size 5 1 v' (L1 ++ textL s).length (bytesV (L1 ++ textL s)) := by
    rw [text_app, List.length_append, textL_len]; exact hown'
  rw [← HBod1.out] at hown2
  have hbl : (bodyB k id s).length = L1.length + s.size := by rw [HBod1.out, List.length_append, textL_len]
  have HIB := Sd.mk (show isB (bodyB k id s) by rw [HBod1.out]; exact isB_app hIB1.out (textL_isB s))
  clear HBod1 hown'
  generalize bodyB k id s = Bd at *
  have hbb : Bd.length ≤ 1000011 := by omega
  have hpos : 0 < Bd.length := by omega
  clear hbl
  obtain ⟨R1, R2, hc1, hf1⟩ := wr_store HH.out (by omega) HF4.out.size HOWN.out (Below.refl _ _) hown2 hgrow
  have HW5 := Sd.mk R1
  have HF5 := Sd.mk (HF4.out.trans R2)
  have HG5 := Sd.mk ((R2.block g2 (by omega) (by omega)).trans HG4.out)
  obtain ⟨ao', cp', n2, rfl, hn2⟩ := own_form2 hown2
  clear R1 R2 hown2 hgrow HOWN HH hc hfz hz2' HG4 HBk4 HF4
  go_wp2_with (fail)
  generalize w5.setCell ⟨g, 0, none⟩ (.slice ao' n2 cp') = w6 at *
  obtain ⟨vb, hhb, hob⟩ := HW5.out
  obtain ⟨ab, cb, n3, rfl, hn3⟩ := own_form2 hob
  have HHB := Sd.mk hhb
  have HOB := Sd.mk hob
  have hg6 : g2 < w6.heap.size := by have := HF5.out.size; omega
  clear hhb hob HW5 hc1 hf1
  refine (byte_any 67 g2 w6.heap.size [] 67 w6 (wr_new HG5.out _) hg6 (Nat.le_refl _) (by simp)).mono ?_
  rintro e w7 ⟨rfl, hw, hf⟩
  have HW7 := Sd.mk hw
  have HF7 := Sd.mk hf
  obtain ⟨hc7, hf7⟩ := wr_cell ((hf.block g (by omega) (by omega)).trans HHB.out)
  clear hw hf
  go_wp2_with (fail)
  rw [hn3.out]
  refine (number_any 67 g2 w6.heap.size _ Bd.length w7 HW7.out hg6 HF7.out.size (by simp) (by omega)).mono ?_
  rintro e w8 ⟨rfl, hw, hf⟩
  have HF8 := Sd.mk (HF7.out.trans hf)
  have HH8 := Sd.mk ((HF8.out.block g (by omega) (by omega)).trans HHB.out)
  have HO8 := Sd.mk (own_block_move HOB.out (fun j hj => HF8.out.block j (own_lt HOB.out j hj) (by have := own_ge HOB.out j hj; omega)))
  have e1 : ([] ++ [67] ++ varL Bd.length : List Int) = 67 :: varL Bd.length := rfl
  rw [e1] at hw
  clear e1
  have hvl2 := varL_len Bd.length
  have HI2 := Sd.mk (varL_isB Bd.length (by omega))
  generalize varL Bd.length = V at *
  obtain ⟨vr, hhr, hor⟩ := hw
  obtain ⟨ar, cr, n4, rfl, hn4⟩ := own_form2 hor
  have HHR := Sd.mk hhr
  have HOR := Sd.mk hor
  obtain ⟨hcr, hfr⟩ := wr_cell hhr
  obtain ⟨hcb, hfb⟩ := wr_cell HH8.out
  clear hf hhr hor HW7 HF7 hc7 hf7
  obtain ⟨gb, capb, eb, _⟩ := HO8.out.form hpos
  injection eb with e1 e2 e3
  subst e1
  subst e3
  clear e2
  have e3 := hn3.out
  subst e3
  go_wp2_with (first
    | (at_builtin; go_loud (refine wpList_append_own _ rfl _ _ 24 rfl w6.heap.size 5 i0 (.int .u8 0) 1 1 Try.underlying24 hi hz0 hz1 hz2 rfl (by decide) (.slice ar n4 cr) (67 :: V).length (bytesV (67 :: V)) rfl HOR.out ⟨gb, 0, none⟩ Bd.length cb (bytesV Bd) rfl ?c0 (HO8.out.cells rfl) ?c2 ?c3 ?c4 ?c5 ?_)))
  case c0 => simp [bytesV]
  case c2 => intro u hu; obtain ⟨x, _, rfl⟩ := List.mem_map.1 hu; rfl
  case c3 => simp only [List.length_cons]; unfold maxLen; omega
  case c4 => simp only [List.length_cons]; omega
  case c5 => exact HF8.out.size
  intro v' w9 hown' hgrow _
  have hown2 : w9.ownsRow w6.heap.size 5 1 v' (67 :: V ++ Bd).length (bytesV (67 :: V ++ Bd)) := by
    rw [bytesV_app, List.length_append]; exact hown'
  obtain ⟨R1, R2, hc1, hf1⟩ := wr_store HHR.out hg6 HF8.out.size HOR.out (Below.refl _ _) hown2 hgrow
  have HW9 := Sd.mk R1
  have HF9 := Sd.mk (HF8.out.trans R2)
  obtain ⟨ao', cp', n5, rfl, hn5⟩ := own_form2 hown2
  have HIR := Sd.mk (show isB (67 :: V ++ Bd) from isB_app (fun x hx => by
    rcases List.mem_cons.1 hx with rfl | hx
    · omega
    · exact HI2.out x hx) HIB.out)
  have hrl : (67 :: V ++ Bd).length ≤ 2000000 := by simp; omega
  clear R1 R2 hown' hown2 hgrow HOR HHR HH8 HO8 HHB HOB hcr hfr hcb hfb HI2 HIB
  generalize 67 :: V ++ Bd = RR at *
  go_wp2_with (fail)
  generalize w9.setCell ⟨g2, 0, none⟩ (.slice ao' n5 cp') = w10 at *
  refine (sealed_any 67 g2 w6.heap.size RR w10 HW9.out hg6 HF9.out.size (by omega) HIR.out).mono ?_
  rintro e w11 ⟨vs, rfl, ho, hf⟩
  have HO := Sd.mk ho
  have HF11 := Sd.mk (HF9.out.trans hf)
  obtain ⟨as_, cs_, n6, rfl, hn6⟩ := own_form2 ho
  clear ho hf HW9 HF9 hc1 hf1
  go_wp2
  go_ret
  refine ⟨.slice as_ n6 cs_, rfl, ?_, ?_⟩
  · rw [HOne.out]
    exact own_less HO.out (by have := HF5.out.size; have := hB2.out.size; omega)
  · exact hB2.out.trans ((HF5.out.below (by have := hB2.out.size; omega) (by omega)).trans (HF11.out.below (by have := HF5.out.size; have := hB2.out.size; omega) (by omega)))
end Go.Proofs.Ytgnhadbadhgdgaa.Ext
