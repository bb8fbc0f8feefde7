/- The walk of RecordTorn: at any row of changes, any number and any cut the law's function returns true. Conditions: the row is one of memory. -/
import Derived.Test.YtgnhadbadhgdgaaPureTorn
import Derived.Test.YtgnhadbadhgdgaaWalkSums
namespace Go.Proofs.Ytgnhadbadhgdgaa.Prt
open Go.RowKit Go.Proofs.YtgnhadbadhgdgaaW.PrintWords Go.Proofs.YtgnhadbadhgdgaaW.PrintLast Go.Proofs.YtgnhadbadhgdgaaW.PrintMore
open Ext
attribute [local go_sem high] eqA32
set_option linter.unusedVariables false
set_option linter.unusedSimpArgs false

set_option maxRecDepth 100000 in
set_option maxHeartbeats 8000000 in
theorem torn_any (A : Option Addr) (c : Nat) (l : List S32) (n cut : Int) (w : World) (hr : Kd.C k32 w A l.length l) (hc : l.length ≤ c) (hl : l.length ≤ 1048576) :
    Calls Try.prog 7 #[.slice A l.length c, .int .i64 n, .int .i64 cut] w fun e w' => e = .returned (.bool true) ∧ Below w.heap.size w w' := by
  have HR := Aside0.mk hr
  clear hr
  have hhead := head_eq n
  obtain ⟨ke, hke⟩ := Ev.rounds (ev_enc l (by omega))
  have HE := Aside0.mk hke
  clear hke
  by_cases hn : 1 ≤ n ∧ n ≤ 1099511627777
  · by_cases ha : l.all mayS = true
    · obtain ⟨m, rfl⟩ := Int.eq_ofNat_of_zero_le (show 0 ≤ n by omega)
      have hm1 : 1 ≤ m := by omega
      have hm2 : m ≤ 1099511627777 := by omega
      rw [headF_nat hm1 hm2] at hhead
      have hen : encF l = (l.flatMap oneS, 0) := by rw [encF, if_pos ha]
      rw [hen] at HE
      have HA := Aside0.mk ha
      have HF := Aside0.mk hhead
      have hlenH := headF_len (m : Int)
      rw [headF_nat hm1 hm2] at hlenH
      simp only at hlenH
      have hfl := flat_len ha
      have HS := Aside0.mk (torn_pack m hm1 hm2 l ha hl)
      have HS0 := Aside0.mk (head_short m hm1 hm2 (l.flatMap oneS))
      obtain ⟨H, hH⟩ : ∃ H, sealB (headB m) = H := ⟨_, rfl⟩
      obtain ⟨B, hBq⟩ : ∃ B, l.flatMap oneS = B := ⟨_, rfl⟩
      rw [hH] at HF HS HS0 hlenH
      rw [hBq] at HE HS HS0 hfl
      clear hhead hen ha hH hBq hn
      go_enter Try.func7, Try.ntmps7
      go_wp2_with (fail)
      refine (trommellaw17_fixed.calls 200 true _ fixed_200).mono ?_
      rintro e w1 ⟨rfl, hb⟩
      have HBw1 := Aside0.mk hb
      clear hb
      go_wp2_with (fail)
      refine (record_Head.calls _ _ _ _ HF.out).mono ?_
      rintro e w2 ⟨vh, rfl, hh, hb⟩
      have HBw2 := Aside0.mk (below_step HBw1.out hb)
      obtain ⟨Ah, ch, rfl⟩ := Kd.R_slice hh
      have HHw2 := Aside0.mk (Kd.R_reads' hh)
      clear hb hh
      go_wp2_with (fail)
      refine (record_Encode.calls ke A c l _ _ _ (Kd.C_below HR.out HBw2.out) hc HE.out).mono ?_
      rintro e w3 ⟨vb, rfl, hh, hb⟩
      have HBw3 := Aside0.mk (below_step HBw2.out hb)
      have HHw3 := Aside0.mk (Kd.C_below HHw2.out.2.2 hb)
      have hlH := HHw2.out.2.1
      obtain ⟨Ab, cb, rfl⟩ := Kd.R_slice hh
      have HEw3 := Aside0.mk (Kd.R_reads' hh)
      have hlB := HEw3.out.2.1
      clear hb hh HHw2 HBw1 HBw2
      have hA1 := (show ((([] : List Int).length + H.length) * 1 ≤ 140737488355328) by simp; omega)
      have hA2 := (show ((([] ++ H : List Int).length + B.length) * 1 ≤ 140737488355328) by simp; omega)
      obtain ⟨K, hK, hKl⟩ := cut_nat cut (H.length + B.length) (by omega)
      have hK := (show wrap64 ((IntKind.u64.wrap cut).tmod ((H.length : Int) + (B.length : Int) + 1)) = (K : Int) from hK)
      have HK := Aside0.mk hK
      clear hK
      go_upto_region 9 with (first
        | ((with_reducible refine gate_dst (N := 41) rfl ?_); refine Kd.R_lit (Kd.int .u8) (w0 := w3) w3.heap.size 5 ?hg (N := 41) ?hd (xs := ([] : List Int)) (inner := []) (ok := fun _ => True) (okp := fun _ => True) ?hr ?hp (fun _ hk => hk) trivial (Below.refl _ _) (Nat.le_refl _) (by simp) ?_; (case hd => rfl); (case hg => rfl); (case hr => first | (go_simp; done) | (go_simp; rfl)); (case hp => exact (Reps.none _ _)); intro v4 w4 ho4 hb4 hg_ hnew_; have HO4 := Aside0.mk ho4; have HB4 := Aside0.mk hb4; clear hg_ hnew_ ho4 hb4)
        | ((with_reducible refine gate_builtin (b := .append) (xs := #[.tmp 41, .tmp 42]) rfl ?_); at_builtin; refine Kd.R_append_rows (Kd.int .u8) (w0 := w3) w3.heap.size rfl (.tmp 41) (.tmp 42) 24 5 (.int .u8 0) 1 rfl Try.underlying24 info5 rfl (by decide) (by omega) v4 [] H _ _ _ (fun _ => True) (fun _ => False) rfl rfl HO4.out (Kd.C_below HHw3.out HB4.out) (fun _ _ h => h) (fun _ h => h.elim) (fun _ _ => trivial) HB4.out (below_size HB4.out) hA1 ?_; intro v5 w5 ho5 hb5 hg_ hat_; have HO5 := Aside0.mk ho5; have HB5 := Aside0.mk hb5; clear hg_ hat_ ho5 hb5)
        | ((with_reducible refine gate_builtin (b := .append) (xs := #[.tmp 43, .tmp 44]) rfl ?_); at_builtin; refine Kd.R_append_rows (Kd.int .u8) (w0 := w3) w3.heap.size rfl (.tmp 43) (.tmp 44) 24 5 (.int .u8 0) 1 rfl Try.underlying24 info5 rfl (by decide) (by omega) v5 ([] ++ H) B _ _ _ (fun _ => True) (fun _ => False) rfl rfl HO5.out (Kd.C_below HEw3.out.2.2 HB5.out) (fun _ _ h => h) (fun _ h => h.elim) (fun _ _ => trivial) HB5.out (below_size HB5.out) hA2 ?_; intro v6 w6 ho6 hb6 hg_ hat_; obtain ⟨A6, c6, rfl⟩ := Kd.R_slice ho6; have HC6 := Aside0.mk (Kd.R_reads' ho6); have hlA := HC6.out.2.1; have HBw6 := Aside0.mk (below_step HBw3.out hb6); clear hg_ hat_ ho6 hb6)
        | fail)
      rw [HK.out]
      have hK0 := (show (0 : Int) ≤ (K : Int) by omega)
      have hK1 := (show (K : Int) ≤ (c6 : Int) by simp at hlA; omega)
      have hK2 := (show (K : Int) ≤ ((H.length + B.length : Nat) : Int) by omega)
      have HC7 := Aside0.mk (show Kd.C (Kd.int .u8) w6 A6 ((H ++ B).take K).length ((H ++ B).take K) from Kd.C_take (m := K) HC6.out.2.2 (by simp; omega))
      have hTl := (show ((H ++ B).take K).length = K by rw [List.length_take, List.length_append]; omega)
      go_wp2_with (fail)
      clear hA1 hA2 HO4 HB4 HO5 HB5 HC6 HHw3 HEw3 hlA
      by_cases hk : K < H.length
      · obtain ⟨k1, hk1⟩ := Ev.rounds (HS0.out K hk)
        have h := record_Scan.calls k1 A6 c6 _ _ _ _ _ w6 HC7.out (by rw [hTl]; omega) hk1
        rw [hTl] at h
        have hkI := (show (K : Int) < (H.length : Int) by omega)
        refine h.mono ?_
        rintro e w7 ⟨v7, rfl, hl7, hb⟩
        obtain ⟨A7, c7, rfl⟩ := Kd.R_slice hl7
        have HBw7 := Aside0.mk (below_step HBw6.out hb)
        clear hl7 hb h hk1
        go_wp2
        go_ret
        exact ⟨rfl, HBw7.out⟩
      · obtain ⟨j, F, hj, hF0, hsc, hF1, hF2, hF3, hF4⟩ := HS.out K (by omega) hk
        obtain ⟨k1, hk1⟩ := Ev.rounds hsc
        have h := record_Scan.calls k1 A6 c6 _ _ _ _ _ w6 HC7.out (by rw [hTl]; omega) hk1
        rw [hTl] at h
        have hkI := (show ¬ (K : Int) < (H.length : Int) by omega)
        have HF0 := Aside0.mk hF0
        have HF1 := Aside0.mk hF1
        have HF2 := Aside0.mk hF2
        have HF3 := Aside0.mk hF3
        have HF4 := Aside0.mk hF4
        clear hF0 hF1 hF2 hF3 hF4 hsc HS HS0
        obtain ⟨LJ, hLJ⟩ : ∃ LJ, l.take j = LJ := ⟨_, rfl⟩
        have hLl := (show LJ.length = j by rw [← hLJ, List.length_take]; omega)
        have HLJ := Aside0.mk hLJ
        rw [hLJ] at h
        clear hLJ
        refine h.mono ?_
        rintro e w7 ⟨v7, rfl, hl7, hb⟩
        obtain ⟨A7, c7, e7⟩ := Kd.R_slice hl7
        subst e7
        have HBw7 := Aside0.mk (below_step HBw6.out hb)
        have HL7 := Aside0.mk (Kd.R_reads' hl7)
        rw [hLl]
        have HLl := Aside0.mk hLl
        clear hLl
        clear hl7 hb h hk1
        go_wp2
        go_loopg [17, 18, 86] (l.length + 1) (fun gg v17 v18 v86 wr => ∃ i : Nat, v17 = .int .i64 (F i : Int) ∧ v18 = .int .i64 (i : Int) ∧ v86 = .int .i64 (i : Int) ∧ Aside0 (gg + i = l.length + 1) ∧ Aside0 (i ≤ j) ∧ Aside0 (Below w7.heap.size w7 wr))
        case atStart => exact ⟨0, by rw [HF0.out], rfl, rfl, ⟨rfl⟩, ⟨Nat.zero_le _⟩, ⟨Below.refl _ _⟩⟩
        case round =>
          obtain ⟨i, rfl, rfl, rfl, HG, HI, HBr⟩ := hrel
          have hi := HI.out
          by_cases hil : i < l.length
          · obtain ⟨kx, hkx⟩ := Ev.rounds (ev_enc_one l[i] (List.all_eq_true.1 HA.out _ (List.getElem_mem hil)))
            have HX := Aside0.mk hkx
            have hone := one_len (List.all_eq_true.1 HA.out _ (List.getElem_mem hil))
            obtain ⟨g1, hg1⟩ : ∃ g1, gk = g1 + 1 := ⟨gk - 1, by have := HG.out; omega⟩
            subst hg1
            have p0 := (show (0 : Int) ≤ (i : Int) by omega)
            have p1 := (show (i : Int) < (l.length : Int) by omega)
            obtain ⟨ad, ead, hx0, hx1, hx2⟩ := at_T32 (Kd.C_below HR.out (below_step HBw7.out HBr.out)) (i : Int) p0 p1
            rw [rd_at l i hil, Int.toNat_natCast] at hx0 hx1 hx2
            cases ead
            have HF1i := Aside0.mk (HF1.out i hil)
            have HF2i := Aside0.mk (HF2.out i hil)
            have HF3i := Aside0.mk (show i = j → K < F i + (oneS l[i]).length from fun e => by subst e; exact HF3.out hil)
            have HF4i := HF4.out i hi
            obtain ⟨q, hq⟩ : ∃ q, l[i] = q := ⟨_, rfl⟩
            obtain ⟨X, hXq⟩ : ∃ X, oneS q = X := ⟨_, rfl⟩
            rw [hq] at hx0 hx1 hx2 HF1i HF2i HF3i HX hone
            rw [hXq] at HF1i HF2i HF3i HX hone
            clear hq hXq hkx
            go_upto_region 16 with (first | ((with_reducible refine gate_dst (N := 20) rfl ?_); refine box_event ?hg (N := 20) ?hd (cs := #[.int .i64 0, .int .i64 0, .string .empty]) (t := 32) ?hr ?_; (case hd => rfl); (case hg => rfl); (case hr => first | (go_simp; done) | (go_simp; rfl)); intro g4 hg wb hbox hb; have BKn := Aside0.mk hbox; have HBn := Aside0.mk (And.intro hg hb); have hz0 := (blk_cell BKn.out 0).trans rfl; have hz1 := (blk_cell BKn.out 1).trans rfl; have hz2 := (blk_cell BKn.out 2).trans rfl; have hf0 := blk_frozen BKn.out 0; have hf1 := blk_frozen BKn.out 1; have hf2 := blk_frozen BKn.out 2; clear hbox hb hg))
            have hge := (show wr.heap.size ≤ g4 from by rw [HBn.out.1]; exact Nat.le_refl _)
            have hb := (show Below wr.heap.size wr (((wb.setCell ⟨g4, 0, none⟩ (.int .i64 q.f0)).setCell ⟨g4, 1, none⟩ (.int .i64 q.f1)).setCell ⟨g4, 2, none⟩ (.string q.f2)) from below_set (below_set (below_set HBn.out.2 hge) hge) hge)
            have BK8 := Aside0.mk (show (((wb.setCell ⟨g4, 0, none⟩ (.int .i64 q.f0)).setCell ⟨g4, 1, none⟩ (.int .i64 q.f1)).setCell ⟨g4, 2, none⟩ (.string q.f2)).heap[g4]? = some (.cells #[.int .i64 q.f0, .int .i64 q.f1, .string q.f2] 32 (0, 0)) from blk_put (blk_put (blk_put BKn.out 0 _ rfl) 1 _ rfl) 2 _ rfl)
            have HB8 := Aside0.mk (below_step HBr.out hb)
            clear hb hge BKn HBn hz0 hz1 hz2 hf0 hf1 hf2 hx0 hx1 hx2
            generalize (((wb.setCell ⟨g4, 0, none⟩ (.int .i64 q.f0)).setCell ⟨g4, 1, none⟩ (.int .i64 q.f1)).setCell ⟨g4, 2, none⟩ (.string q.f2)) = w8 at *
            obtain ⟨x0, x1, x2⟩ := (show w8.cell? ⟨g4, 0, none⟩ = some (.int .i64 q.f0) ∧ w8.cell? ⟨g4, 1, none⟩ = some (.int .i64 q.f1) ∧ w8.cell? ⟨g4, 2, none⟩ = some (.string q.f2) from ⟨(blk_cell BK8.out 0).trans rfl, (blk_cell BK8.out 1).trans rfl, (blk_cell BK8.out 2).trans rfl⟩)
            have hx92 := (show (1 : Nat) ≤ 1 from Nat.le_refl 1)
            go_wp2_with (first
              | ((with_reducible refine gate_dst (N := 92) rfl ?_); refine Kd.R_lit k32 (w0 := w8) w8.heap.size 32 ?hg (N := 92) ?hd (xs := [q]) (inner := [.int .i64 q.f0, .int .i64 q.f1, .string q.f2]) (ok := fun _ => True) (okp := fun _ => True) ?hr ?hp (fun _ hk => hk) trivial (Below.refl _ _) (Nat.le_refl _) (by simp) ?_; (case hd => rfl); (case hg => rfl); (case hr => first | (go_simp; done) | (go_simp; rfl)); (case hp => exact (Reps.c3 (show Kd.M k32 _ _ _ q [.int .i64 q.f0, .int .i64 q.f1, .string q.f2] from (k32_mkM _ _ _ q)) (Reps.none _ _))); intro v9 w9 ho9 hb9 hg_ hnew_; obtain ⟨A9, c9, e9⟩ := Kd.R_slice ho9; subst e9; have HO9 := Aside0.mk (Kd.R_reads' ho9); have HB9 := Aside0.mk (below_step HB8.out hb9); clear hg_ hnew_ ho9 hb9)
              | fail)
            clear x0 x1 x2 BK8
            refine (record_Encode.calls kx A9 c9 [q] X 0 w9 HO9.out.2.2 HO9.out.2.1 HX.out).mono ?_
            rintro e w10 ⟨v10, rfl, ho10, hb10⟩
            obtain ⟨A10, c10, e10⟩ := Kd.R_slice ho10
            subst e10
            have HB10 := Aside0.mk (below_step HB9.out hb10)
            clear ho10 hb10
            have HW17 := Aside0.mk (show wrap64 ((F i : Int) + (X.length : Int)) = ((F i + X.length : Nat) : Int) from wrap_nat (n := F i + X.length) (by omega))
            by_cases hgt : K < F i + X.length
            · have hij : i = j := by
                rcases Nat.lt_or_ge i j with h | h
                · have := HF2i.out h; omega
                · omega
              have hgI := (show (K : Int) < (F i : Int) + (X.length : Int) by omega)
              clear HF1i HF2i HF3i HX
              subst hij
              go_upto_region 21 with fail
              have HLW := Aside0.mk (Kd.C_below HL7.out.2.2 HB10.out)
              have HRW := Aside0.mk (Kd.C_take (m := i) (Kd.C_below HR.out (below_step HBw7.out HB10.out)) (by omega))
              have HBW := Aside0.mk (below_step HBw7.out HB10.out)
              have q0 := (show (0 : Int) ≤ (i : Int) by omega)
              have q1 := (show (i : Int) ≤ (l.length : Int) by omega)
              have q2 := (show (i : Int) ≤ (c : Int) by omega)
              go_wp2_with (fail)
              obtain ⟨ks, hks⟩ := Ev.rounds (ev_same LJ (by rw [HLl.out]; omega))
              have hsm := trommellaw17_sameChanges.calls ks A7 c7 LJ (some ad) c LJ true w10 HLW.out HL7.out.2.1 (by have := HRW.out; rw [HLJ.out] at this; exact this) (by rw [HLl.out]; omega) hks
              rw [HLl.out] at hsm
              refine hsm.mono ?_
              rintro e w12 ⟨rfl, hd⟩
              have HB12 := Aside0.mk (below_step HBW.out hd.below)
              clear hd hsm hks
              go_wp2
              go_ret
              exact ⟨rfl, HB12.out⟩
            · have hij : i < j := by
                rcases Nat.lt_or_ge i j with h | h
                · exact h
                · have := HF3i.out (by omega); omega
              have hgI := (show (F i : Int) + (X.length : Int) ≤ (K : Int) by omega)
              have HI1 := Aside0.mk (show wrap64 ((i : Int) + 1) = ((i + 1 : Nat) : Int) from wrap_nat (n := i + 1) (by omega))
              have HN := Aside0.mk (show i + 1 ≤ j by omega)
              have HFN := Aside0.mk (show ((F i : Int) + (X.length : Int)) = ((F (i + 1) : Nat) : Int) by have := HF1i.out; omega)
              clear HF1i HF2i HF3i HX hij
              go_wp2
              go_roundg g1
              case measure => exact Nat.lt_succ_self g1
              case rel => exact ⟨i + 1, by rw [HFN.out], rfl, rfl, ⟨by have := HG.out; omega⟩, ⟨HN.out⟩, ⟨HB10.out⟩⟩
          · have hij := (show i = j by omega)
            subst hij
            have hlI := (show ¬ (i : Int) < (l.length : Int) by omega)
            go_upto_region 21 with fail
            have HLW := Aside0.mk (Kd.C_below HL7.out.2.2 HBr.out)
            have HRW := Aside0.mk (Kd.C_take (m := i) (Kd.C_below HR.out (below_step HBw7.out HBr.out)) (by omega))
            have HBW := Aside0.mk (below_step HBw7.out HBr.out)
            have q0 := (show (0 : Int) ≤ (i : Int) by omega)
            have q1 := (show (i : Int) ≤ (l.length : Int) by omega)
            have q2 := (show (i : Int) ≤ (c : Int) by omega)
            go_wp2_with (fail)
            obtain ⟨ks, hks⟩ := Ev.rounds (ev_same LJ (by rw [HLl.out]; omega))
            have hsm := trommellaw17_sameChanges.calls ks A7 c7 LJ A c LJ true wr HLW.out HL7.out.2.1 (by have := HRW.out; rw [HLJ.out] at this; exact this) (by rw [HLl.out]; omega) hks
            rw [HLl.out] at hsm
            refine hsm.mono ?_
            rintro e w12 ⟨rfl, hd⟩
            have HB12 := Aside0.mk (below_step HBW.out hd.below)
            clear hd hsm hks
            go_wp2
            go_ret
            exact ⟨rfl, HB12.out⟩
    · have hen : encF l = ([], 1) := by rw [encF, if_neg ha]
      rw [hen] at HE
      obtain ⟨r1, hr1⟩ : ∃ r1, (headF n).1 = r1 := ⟨_, rfl⟩
      have hF0 : record_Head.f n = some (r1, 0) := by rw [hhead, ← hr1, headF, if_pos hn]
      have HF := Aside0.mk hF0
      clear hhead hen ha hr1 hF0
      go_enter Try.func7, Try.ntmps7
      go_wp2_with (fail)
      refine (trommellaw17_fixed.calls 200 true _ fixed_200).mono ?_
      rintro e w1 ⟨rfl, hb⟩
      have HBw1 := Aside0.mk hb
      clear hb
      go_wp2_with (fail)
      refine (record_Head.calls n _ _ _ HF.out).mono ?_
      rintro e w2 ⟨vh, rfl, hh, hb⟩
      have HBw2 := Aside0.mk (below_step HBw1.out hb)
      clear hb hh
      go_wp2_with (fail)
      refine (record_Encode.calls ke A c l _ _ _ (Kd.C_below HR.out HBw2.out) hc HE.out).mono ?_
      rintro e w3 ⟨vb, rfl, hh, hb⟩
      have HBw3 := Aside0.mk (below_step HBw2.out hb)
      clear hb hh
      go_wp2
      go_ret
      exact ⟨rfl, HBw3.out⟩
  · have hF0 : record_Head.f n = some ([], 2) := by rw [hhead, headF, if_neg hn]
    have HF := Aside0.mk hF0
    obtain ⟨⟨r1, r2⟩, hr1⟩ : ∃ r, encF l = r := ⟨_, rfl⟩
    rw [hr1] at HE
    clear hhead hF0 hr1 hn
    go_enter Try.func7, Try.ntmps7
    go_wp2_with (fail)
    refine (trommellaw17_fixed.calls 200 true _ fixed_200).mono ?_
    rintro e w1 ⟨rfl, hb⟩
    have HBw1 := Aside0.mk hb
    clear hb
    go_wp2_with (fail)
    refine (record_Head.calls n _ _ _ HF.out).mono ?_
    rintro e w2 ⟨vh, rfl, hh, hb⟩
    have HBw2 := Aside0.mk (below_step HBw1.out hb)
    clear hb hh
    go_wp2_with (fail)
    refine (record_Encode.calls ke A c l _ _ _ (Kd.C_below HR.out HBw2.out) hc HE.out).mono ?_
    rintro e w3 ⟨vb, rfl, hh, hb⟩
    have HBw3 := Aside0.mk (below_step HBw2.out hb)
    clear hb hh
    go_wp2
    go_ret
    exact ⟨rfl, HBw3.out⟩
end Go.Proofs.Ytgnhadbadhgdgaa.Prt
