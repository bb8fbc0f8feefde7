/- The contract of the reference's Decode: it computes a plain Lean function. Conditions: what it reads are the bytes of a slice. -/
import Derived.Test.YtgnhadbadhgdgaaPrt5
import Derived.Test.YtgnhadbadhgdgaaPrt6
namespace Go.Proofs.Ytgnhadbadhgdgaa.Prt
open Go.RowKit Go.Proofs.YtgnhadbadhgdgaaW.PrintWords Go.Proofs.YtgnhadbadhgdgaaW.PrintLast Go.Proofs.YtgnhadbadhgdgaaW.PrintMore
attribute [local go_sem] max2_int min2_int max_two min_two max_three min_three max_four min_four   -- for this text's walks alone
set_option linter.unusedVariables false
set_option linter.unusedSimpArgs false

def trommelref17_Decode.f (k : Nat) (l0 : List Int) : Option (Int × Int × ByteArray × Int × Int) :=
  (trommelref17_read.f k l0 1 8192).bind fun a => if a.2.2 = true ∧ a.1 ≤ (l0.length : Int) - a.2.1 ∧ 2 ≤ a.1 ∧ 0 ≤ a.2.1 ∧ a.2.1 ≤ (l0.length : Int) ∧ l0.length ≤ 140737488355328 then
    ((trommelref17_read.f k ((l0.drop a.2.1.toNat).take a.1.toNat) 1 1099511627776).bind fun b => if b.2.2 = true then
      (if 0 ≤ b.2.1 ∧ b.2.1 ≤ a.1 ∧ (∀ x ∈ l0, 0 ≤ x ∧ x < 256) then
        ((trommelref16_May.f (rd ((l0.drop a.2.1.toNat).take a.1.toNat) 0) b.1 (strOfNums (((l0.drop a.2.1.toNat).take a.1.toNat).drop b.2.1.toNat))).bind fun m => if m = true then
          ((trommelref17_one.f k (rd ((l0.drop a.2.1.toNat).take a.1.toNat) 0) b.1 (strOfNums (((l0.drop a.2.1.toNat).take a.1.toNat).drop b.2.1.toNat))).bind fun o => (trommelref17_begins.f k l0 o).bind fun g => if g = true then some (rd ((l0.drop a.2.1.toNat).take a.1.toNat) 0, b.1, strOfNums (((l0.drop a.2.1.toNat).take a.1.toNat).drop b.2.1.toNat), (o.length : Int), 0) else some (0, 0, (⟨#[]⟩ : ByteArray), 0, 30))
        else some (0, 0, (⟨#[]⟩ : ByteArray), 0, 30)) else none) else some (0, 0, (⟨#[]⟩ : ByteArray), 0, 30))
  else if a.2.2 = true ∧ ¬ (0 ≤ a.2.1 ∧ a.2.1 ≤ (l0.length : Int) ∧ l0.length ≤ 140737488355328 ∧ -1000000 ≤ a.1) then none else some (0, 0, (⟨#[]⟩ : ByteArray), 0, 30)
theorem trommelref17_Decode.mono : ∀ a0 k, LeO (trommelref17_Decode.f k a0) (trommelref17_Decode.f (k + 1) a0) := by
  intro a0 k
  unfold trommelref17_Decode.f
  exact LeO.bind (trommelref17_read.mono _ _ _ _) (fun _ => LeO.ite (LeO.bind (trommelref17_read.mono _ _ _ _) (fun _ => LeO.ite (LeO.ite (LeO.bind (LeO.refl _) (fun _ => LeO.ite (LeO.bind (trommelref17_one.mono _ _ _ _) (fun _ => LeO.bind (trommelref17_begins.mono _ _ _) (fun _ => LeO.refl _))) (LeO.refl _))) (LeO.none _)) (LeO.refl _))) (LeO.refl _))
def DecPost17 (w : World) (R : Int × Int × ByteArray × Int × Int) (e : Ending) (w' : World) : Prop := e = .returned (.tuple #[.agg #[.int .i64 R.1, .int .i64 R.2.1, .string R.2.2.1], .int .i64 R.2.2.2.1, .int .i64 R.2.2.2.2]) ∧ Below w.heap.size w w'
set_option maxHeartbeats 8000000 in
set_option maxRecDepth 100000 in
theorem trommelref17_Decode.any (k : Nat) (A0 : Option Addr) (c0 : Nat) (l0 : List Int) (R : Int × Int × ByteArray × Int × Int) (w : World) (hr0 : Kd.C (Kd.int .u8) w A0 l0.length l0) (hc0 : l0.length ≤ c0) (h : trommelref17_Decode.f k l0 = some R) :
    Calls Try.prog 23 #[.slice A0 l0.length c0] w (DecPost17 w R) := by
  have HR := Aside0.mk hr0
  have HC := Aside0.mk hc0
  unfold trommelref17_Decode.f at h
  obtain ⟨⟨n, at_, ok⟩, hx, h⟩ := Option.bind_eq_some_iff.mp h
  have AX := Aside0.mk hx
  have AH := Aside0.mk h
  clear hx h hr0 hc0
  go_enter Try.func23, Try.ntmps23
  go_wp2_with (first
    | ((with_reducible refine gate_dst (N := 2) rfl ?_); refine box_event ?hg (N := 2) ?hd (cs := #[.int .i64 0, .int .i64 0, .string .empty]) (t := 32) ?hr ?_; (case hd => rfl); (case hg => rfl); (case hr => first | (go_simp; done) | (go_simp; rfl)); intro g0 hg w0 hbox hb; have BK0 := Aside0.mk hbox; have HB0 := Aside0.mk (And.intro hg hb); clear hbox hb hg))
  have hgl0 : g0 < w0.heap.size := blk_lt BK0.out
  have ho0 : w.heap.size ≤ g0 := by rw [HB0.out.1]; exact Nat.le_refl _
  have HBw := Aside0.mk HB0.out.2
  have HR0 := Aside0.mk (Kd.C_below HR.out HBw.out)
  refine (trommelref17_read.calls k A0 c0 l0 1 8192 n at_ ok _ HR0.out HC.out AX.out).mono ?_
  rintro e w1 ⟨rfl, ⟨nd, rfl⟩⟩
  have HB1 := Aside0.mk (pw_below_drewN HBw.out nd)
  have BK1 := Aside0.mk (show (w0.drewN nd).heap[g0]? = _ from BK0.out)
  have HR1 := Aside0.mk (show Kd.C (Kd.int .u8) (w0.drewN nd) A0 l0.length l0 from Kd.C_drewN HR0.out nd)
  have hs1 : g0 < (w0.drewN nd).heap.size := hgl0
  generalize w0.drewN nd = w1 at *
  clear HB0 BK0 HR0 HBw hgl0
  have HZ := Aside0.mk (show w1.cell? ⟨g0, 0, none⟩ = some (.int .i64 0) ∧ w1.cell? ⟨g0, 1, none⟩ = some (.int .i64 0) ∧ w1.cell? ⟨g0, 2, none⟩ = some (.string .empty) ∧ w1.frozen? ⟨g0, 0, none⟩ = false ∧ w1.frozen? ⟨g0, 1, none⟩ = false ∧ w1.frozen? ⟨g0, 2, none⟩ = false from ⟨(blk_cell BK1.out 0).trans rfl, (blk_cell BK1.out 1).trans rfl, (blk_cell BK1.out 2).trans rfl, blk_frozen BK1.out 0, blk_frozen BK1.out 1, blk_frozen BK1.out 2⟩)
  cases ok with
  | false =>
    have h := AH.out
    rw [if_neg (fun h => by cases h.1), if_neg (fun h => by cases h.1)] at h
    obtain rfl := Option.some.inj h
    clear h
    obtain ⟨q0, q1, q2, q3, q4, q5⟩ := HZ.out
    go_wp2_with (fail)
    exact bodyPost_ret (v := .tuple #[.agg #[.int .i64 0, .int .i64 0, .string { data := #[] }], .int .i64 0, .int .i64 30]) (by simp [results, Try.results23, go_sem, q0, q1, q2, q3, q4, q5]) rfl ⟨rfl, below_set (below_set (below_set HB1.out ho0) ho0) ho0⟩
  | true =>
    have h := AH.out
    clear AH
    by_cases hin : 0 ≤ at_ ∧ at_ ≤ (l0.length : Int) ∧ l0.length ≤ 140737488355328 ∧ -1000000 ≤ n
    case neg =>
      rw [if_neg (fun h => hin ⟨h.2.2.2.1, h.2.2.2.2.1, h.2.2.2.2.2, by have := h.2.2.1; omega⟩), if_pos ⟨rfl, hin⟩] at h
      cases h
    obtain ⟨hi0, hi1, hi2, hi3⟩ := hin
    have hw : IntKind.i64.wrap ((l0.length : Int) - at_) = (l0.length : Int) - at_ := Ext.wrap_i64m (by omega)
    by_cases hlt : n ≤ (l0.length : Int) - at_ ∧ 2 ≤ n
    case neg =>
      rw [if_neg (fun h => hlt ⟨h.2.1, h.2.2.1⟩), if_neg (fun h => h.2 ⟨hi0, hi1, hi2, hi3⟩)] at h
      obtain rfl := Option.some.inj h
      clear h
      obtain ⟨q0, q1, q2, q3, q4, q5⟩ := HZ.out
      by_cases ha : (l0.length : Int) - at_ < n
      · have ha1 : decide ((l0.length : Int) - at_ < n) = true := decide_eq_true ha
        go_wp2_with (fail)
        exact bodyPost_ret (v := .tuple #[.agg #[.int .i64 0, .int .i64 0, .string { data := #[] }], .int .i64 0, .int .i64 30]) (by simp [results, Try.results23, go_sem, q0, q1, q2, q3, q4, q5]) rfl ⟨rfl, below_set (below_set (below_set HB1.out ho0) ho0) ho0⟩
      · have ha1 : decide ((l0.length : Int) - at_ < n) = false := decide_eq_false ha
        have ha2 : decide (n < 2) = true := decide_eq_true (by omega)
        go_wp2_with (fail)
        exact bodyPost_ret (v := .tuple #[.agg #[.int .i64 0, .int .i64 0, .string { data := #[] }], .int .i64 0, .int .i64 30]) (by simp [results, Try.results23, go_sem, q0, q1, q2, q3, q4, q5]) rfl ⟨rfl, below_set (below_set (below_set HB1.out ho0) ho0) ho0⟩
    obtain ⟨hl1, hl2⟩ := hlt
    rw [if_pos ⟨rfl, hl1, hl2, hi0, hi1, hi2⟩] at h
    obtain ⟨⟨id, from_, ok2⟩, hx2, h⟩ := Option.bind_eq_some_iff.mp h
    obtain ⟨N, rfl⟩ := Int.eq_ofNat_of_zero_le (show 0 ≤ n by omega)
    obtain ⟨M, rfl⟩ := Int.eq_ofNat_of_zero_le hi0
    simp only [Int.toNat_natCast] at hx2 h
    have hC := Aside0.mk (Ext.take_c (at_ := M) (m := N) HR1.out (by omega) HC.out)
    have hlen : ((l0.drop M).take N).length = N := by rw [List.length_take, List.length_drop]; omega
    have HBy := Aside0.mk (show (∀ x ∈ l0, 0 ≤ x ∧ x < 256) → ∀ x ∈ (l0.drop M).take N, 0 ≤ x ∧ x < 256 from fun h x hx => h x (List.mem_of_mem_drop (List.mem_of_mem_take hx)))
    generalize (l0.drop M).take N = body at *
    rw [hlen] at hC
    have AX2 := Aside0.mk hx2
    have AH := Aside0.mk h
    have hc2 : N ≤ c0 - M := by have := HC.out; omega
    have hw2 : IntKind.i64.wrap ((M : Int) + (N : Int)) = ((M + N : Nat) : Int) := by rw [Ext.wrap_i64m (by omega)]; omega
    have HLB := Aside0.mk hlen
    clear h hx2 hlen
    have ha1 : decide ((l0.length : Int) - (M : Int) < (N : Int)) = false := decide_eq_false (by omega)
    have ha2 : decide ((N : Int) < 2) = false := decide_eq_false (by omega)
    obtain ⟨A1, hA1⟩ : ∃ A1, (if c0 = M then A0 else A0.map (·.add M)) = A1 := ⟨_, rfl⟩
    rw [hA1] at hC
    have hcM : (M : Int) ≤ (c0 : Int) := by have := HC.out; omega
    go_wp2_with (fail)
    simp only [Nat.add_sub_cancel_left]
    have e := HLB.out
    subst e
    refine (trommelref17_read.calls k A1 (c0 - M) body 1 1099511627776 id from_ ok2 _ hC.out hc2 AX2.out).mono ?_
    rintro e w2 ⟨rfl, ⟨nd2, rfl⟩⟩
    have HB2 := Aside0.mk (pw_below_drewN HB1.out nd2)
    have BK2 := Aside0.mk (show (w1.drewN nd2).heap[g0]? = _ from BK1.out)
    have HRa := Aside0.mk (show Kd.C (Kd.int .u8) (w1.drewN nd2) A0 l0.length l0 from Kd.C_drewN HR1.out nd2)
    have HCb := Aside0.mk (show Kd.C (Kd.int .u8) (w1.drewN nd2) A1 body.length body from Kd.C_drewN hC.out nd2)
    have HZ2 := Aside0.mk (show (w1.drewN nd2).cell? ⟨g0, 0, none⟩ = some (.int .i64 0) ∧ (w1.drewN nd2).cell? ⟨g0, 1, none⟩ = some (.int .i64 0) ∧ (w1.drewN nd2).cell? ⟨g0, 2, none⟩ = some (.string .empty) ∧ (w1.drewN nd2).frozen? ⟨g0, 0, none⟩ = false ∧ (w1.drewN nd2).frozen? ⟨g0, 1, none⟩ = false ∧ (w1.drewN nd2).frozen? ⟨g0, 2, none⟩ = false from HZ.out)
    have hs2 : g0 < (w1.drewN nd2).heap.size := hs1
    generalize w1.drewN nd2 = w2 at *
    clear HB1 BK1 HR1 hC HZ hs1 AX AX2 HR HLB
    cases ok2 with
    | false =>
      have h := AH.out
      rw [if_neg (by decide)] at h
      obtain rfl := Option.some.inj h
      clear h AH
      obtain ⟨q0, q1, q2, q3, q4, q5⟩ := HZ2.out
      go_wp2_with (fail)
      exact bodyPost_ret (v := .tuple #[.agg #[.int .i64 0, .int .i64 0, .string { data := #[] }], .int .i64 0, .int .i64 30]) (by simp [results, Try.results23, go_sem, q0, q1, q2, q3, q4, q5]) rfl ⟨rfl, below_set (below_set (below_set HB2.out ho0) ho0) ho0⟩
    | true =>
    have h := AH.out
    rw [if_pos rfl] at h
    by_cases hfr : 0 ≤ from_ ∧ from_ ≤ (body.length : Int) ∧ (∀ x ∈ l0, 0 ≤ x ∧ x < 256)
    case neg => rw [if_neg hfr] at h; cases h
    rw [if_pos hfr] at h
    obtain ⟨hf0, hf1, hall⟩ := hfr
    obtain ⟨F, rfl⟩ := Int.eq_ofNat_of_zero_le hf0
    simp only [Int.toNat_natCast] at h
    have hbody := Aside0.mk (HBy.out hall)
    obtain ⟨ad1, rfl, hcell0⟩ := Ext.byte_cell HCb.out 0 (by omega)
    have hx0 : w2.cell? ad1 = some (.int .u8 (rd body 0)) := by
      rw [Addr.add_zero'] at hcell0
      exact hcell0
    have hkd := hbody.out (rd body 0) (by
      show body.getD 0 0 ∈ body
      rw [List.getD_eq_getElem?_getD, List.getElem?_eq_getElem (show 0 < body.length by omega)]
      exact List.getElem_mem _)
    obtain ⟨kd, hkde⟩ : ∃ kd, rd body 0 = kd := ⟨_, rfl⟩
    rw [hkde] at hx0 hkd h
    obtain ⟨hkd0, hkd1⟩ := hkd
    obtain ⟨A2, hA2⟩ : ∃ A2, (if c0 - M = F then some ad1 else some (ad1.add F)) = A2 := ⟨_, rfl⟩
    have HD := Aside0.mk (show Kd.C (Kd.int .u8) w2 A2 (body.length - F) (body.drop F) by
      have h1 := Ext.take_c (at_ := F) (m := body.length - F) HCb.out (by omega) hc2
      rw [show (body.drop F).take (body.length - F) = body.drop F from List.take_of_length_le (by rw [List.length_drop]; omega)] at h1
      rw [List.length_drop] at h1
      rw [← hA2]
      exact h1)
    have hcvA := Kd.C_string (P := Try.prog) (A := A2) (c := c0 - M - F) Try.underlying24 Try.underlying5 Try.underlying9 HD.out
    have hcvB := Kd.C_string (P := Try.prog) (A := A2) (c := c0 - M - F) Try.underlying24 Try.underlying5 Try.underlying9 (Kd.C_drew HD.out)
    have hcvC := Kd.C_string (P := Try.prog) (A := A2) (c := c0 - M - F) Try.underlying24 Try.underlying5 Try.underlying9 (Kd.C_drew (Kd.C_alloc HD.out (.cells #[.int .i64 0, .int .i64 0, .string { data := #[] }] 32)))
    obtain ⟨st, hst⟩ : ∃ st, strOfNums (body.drop F) = st := ⟨_, rfl⟩
    rw [hst] at hcvA hcvB hcvC h
    have AH2 := Aside0.mk h
    have HHD := Aside0.mk hcell0
    have hF1 : (F : Int) ≤ (body.length : Int) := hf1
    have hF2 : (body.length : Int) ≤ ((c0 - M : Nat) : Int) := by omega
    have hF3 : (0 : Int) ≤ (F : Int) := by omega
    have hF4 : (F : Int) ≤ ((c0 - M : Nat) : Int) := by omega
    have hposN : 0 < body.length := by omega
    have hkw : IntKind.i64.wrap kd = kd := Ext.wrap_i64m (by omega)
    have hcvD := Kd.C_string (P := Try.prog) (A := A2) (c := c0 - M - F) Try.underlying24 Try.underlying5 Try.underlying9 (Kd.C_drew (Kd.C_alloc HD.out (.cells #[.int .i64 kd, .int .i64 id, .string st] 32)))
    rw [hst] at hcvD
    clear h AH hcell0
    go_wp2_with (fail)
    go_region_held3 (fun w' => w'.cell? ad1 = some (.int .u8 kd) ∧ (convert 24 9 (.slice A2 (body.length - F) (c0 - M - F))).run Try.prog w' = .ok (.string st) w')
      (first | exact ⟨hx0, hcvA⟩ | exact ⟨hx0, hcvB⟩ | (go_split_ands; (refine ⟨?_, ?_⟩ <;> first | exact hcvA | exact hcvB | exact hcvC | exact hcvD | go_keep)) | (refine ⟨?_, ?_⟩ <;> first | exact hcvA | exact hcvB | exact hcvC | exact hcvD | go_keep)) (fail)
    obtain ⟨m, hm, h⟩ := Option.bind_eq_some_iff.mp AH2.out
    have AM := Aside0.mk hm
    have AH3 := Aside0.mk h
    have BK3 := Aside0.mk (show (w2.alloc (.cells #[.int .i64 kd, .int .i64 id, .string st] 32)).drew.heap[w2.heap.size]? = some (.cells #[.int .i64 kd, .int .i64 id, .string st] 32 (0, 0)) from heap_alloc_new w2 _)
    have BKz := Aside0.mk (show (w2.alloc (.cells #[.int .i64 kd, .int .i64 id, .string st] 32)).drew.heap[g0]? = _ from (Below.heap_alloc _ _ _ hs2).trans BK2.out)
    have HR3 := Aside0.mk (Kd.C_drew (Kd.C_alloc HRa.out (.cells #[.int .i64 kd, .int .i64 id, .string st] 32)))
    have HB3 := Aside0.mk (below_drew (below_alloc HB2.out (.cells #[.int .i64 kd, .int .i64 id, .string st] 32)))
    have hne3 : g0 ≠ w2.heap.size := by omega
    clear h hm AH2 hcvA hcvB hcvC hcvD HZ2 HB2 BK2 HRa HD HCb hx0 HHD hst hkde hs2
    generalize (w2.alloc (.cells #[.int .i64 kd, .int .i64 id, .string st] 32)).drew = w3 at *
    generalize w2.heap.size = g3 at *
    obtain ⟨hc0, hc1, hc2'⟩ := (show w3.cell? ⟨g3, 0, none⟩ = some (.int .i64 kd) ∧ w3.cell? ⟨g3, 1, none⟩ = some (.int .i64 id) ∧ w3.cell? ⟨g3, 2, none⟩ = some (.string st) from ⟨(blk_cell BK3.out 0).trans rfl, (blk_cell BK3.out 1).trans rfl, (blk_cell BK3.out 2).trans rfl⟩)
    go_wp2_with (fail)
    refine (trommelref16_May.calls kd id st m _ AM.out).mono ?_
    rintro e w4 ⟨rfl, hb⟩
    have BK3a := Aside0.mk (blk_below BK3.out hb)
    have BKza := Aside0.mk (blk_below BKz.out hb)
    have HR4 := Aside0.mk (Kd.C_below HR3.out hb)
    have HB4 := Aside0.mk (below_step HB3.out hb)
    clear hb hc0 hc1 hc2' BK3 BKz HR3 HB3
    cases m with
    | false =>
      have h := AH3.out
      rw [if_neg (by decide)] at h
      obtain rfl := Option.some.inj h
      clear h AH3
      obtain ⟨q0, q1, q2, q3, q4, q5⟩ := (show w4.cell? ⟨g0, 0, none⟩ = some (.int .i64 0) ∧ w4.cell? ⟨g0, 1, none⟩ = some (.int .i64 0) ∧ w4.cell? ⟨g0, 2, none⟩ = some (.string .empty) ∧ w4.frozen? ⟨g0, 0, none⟩ = false ∧ w4.frozen? ⟨g0, 1, none⟩ = false ∧ w4.frozen? ⟨g0, 2, none⟩ = false from ⟨(blk_cell BKza.out 0).trans rfl, (blk_cell BKza.out 1).trans rfl, (blk_cell BKza.out 2).trans rfl, blk_frozen BKza.out 0, blk_frozen BKza.out 1, blk_frozen BKza.out 2⟩)
      go_wp2_with (fail)
      exact bodyPost_ret (v := .tuple #[.agg #[.int .i64 0, .int .i64 0, .string { data := #[] }], .int .i64 0, .int .i64 30]) (by simp [results, Try.results23, go_sem, q0, q1, q2, q3, q4, q5]) rfl ⟨rfl, below_set (below_set (below_set HB4.out ho0) ho0) ho0⟩
    | true =>
    have h := AH3.out
    rw [if_pos rfl] at h
    obtain ⟨o, hone, h⟩ := Option.bind_eq_some_iff.mp h
    obtain ⟨g, hg, h⟩ := Option.bind_eq_some_iff.mp h
    have AO := Aside0.mk hone
    have AG := Aside0.mk hg
    have AH4 := Aside0.mk h
    clear h hone hg AH3
    obtain ⟨hc0, hc1, hc2'⟩ := (show w4.cell? ⟨g3, 0, none⟩ = some (.int .i64 kd) ∧ w4.cell? ⟨g3, 1, none⟩ = some (.int .i64 id) ∧ w4.cell? ⟨g3, 2, none⟩ = some (.string st) from ⟨(blk_cell BK3a.out 0).trans rfl, (blk_cell BK3a.out 1).trans rfl, (blk_cell BK3a.out 2).trans rfl⟩)
    go_wp2_with (fail)
    refine (trommelref17_one.calls k kd id st o _ AO.out).mono ?_
    rintro e w5 ⟨v5, rfl, ho5, hb⟩
    obtain ⟨A5, c5, rfl, hl5, hC5⟩ := Kd.R_reads ho5
    have HC5 := Aside0.mk hC5
    have BK3b := Aside0.mk (blk_below BK3a.out hb)
    have BKzb := Aside0.mk (blk_below BKza.out hb)
    have HR5 := Aside0.mk (Kd.C_below HR4.out hb)
    have HB5 := Aside0.mk (below_step HB4.out hb)
    clear hb hc0 hc1 hc2' BK3a BKza HR4 HB4 ho5 hC5
    go_wp2_with (fail)
    refine (trommelref17_begins.calls k A0 c0 l0 A5 c5 o g _ HR5.out HC.out HC5.out hl5 AG.out).mono ?_
    rintro e w6 ⟨rfl, ⟨nd6, rfl⟩⟩
    have BK3c := Aside0.mk (show (w5.drewN nd6).heap[g3]? = _ from BK3b.out)
    have BKzc := Aside0.mk (show (w5.drewN nd6).heap[g0]? = _ from BKzb.out)
    have HB6 := Aside0.mk (pw_below_drewN HB5.out nd6)
    clear BK3b BKzb HR5 HB5 HC5
    generalize w5.drewN nd6 = w6 at *
    cases g with
    | false =>
      have h := AH4.out
      rw [if_neg (by decide)] at h
      obtain rfl := Option.some.inj h
      clear h AH4
      obtain ⟨q0, q1, q2, q3, q4, q5⟩ := (show w6.cell? ⟨g0, 0, none⟩ = some (.int .i64 0) ∧ w6.cell? ⟨g0, 1, none⟩ = some (.int .i64 0) ∧ w6.cell? ⟨g0, 2, none⟩ = some (.string .empty) ∧ w6.frozen? ⟨g0, 0, none⟩ = false ∧ w6.frozen? ⟨g0, 1, none⟩ = false ∧ w6.frozen? ⟨g0, 2, none⟩ = false from ⟨(blk_cell BKzc.out 0).trans rfl, (blk_cell BKzc.out 1).trans rfl, (blk_cell BKzc.out 2).trans rfl, blk_frozen BKzc.out 0, blk_frozen BKzc.out 1, blk_frozen BKzc.out 2⟩)
      go_wp2_with (fail)
      exact bodyPost_ret (v := .tuple #[.agg #[.int .i64 0, .int .i64 0, .string { data := #[] }], .int .i64 0, .int .i64 30]) (by simp [results, Try.results23, go_sem, q0, q1, q2, q3, q4, q5]) rfl ⟨rfl, below_set (below_set (below_set HB6.out ho0) ho0) ho0⟩
    | true =>
      have h := AH4.out
      rw [if_pos rfl] at h
      obtain rfl := Option.some.inj h
      clear h AH4
      obtain ⟨hc0, hc1, hc2'⟩ := (show w6.cell? ⟨g3, 0, none⟩ = some (.int .i64 kd) ∧ w6.cell? ⟨g3, 1, none⟩ = some (.int .i64 id) ∧ w6.cell? ⟨g3, 2, none⟩ = some (.string st) from ⟨(blk_cell BK3c.out 0).trans rfl, (blk_cell BK3c.out 1).trans rfl, (blk_cell BK3c.out 2).trans rfl⟩)
      have HX6 := Aside0.mk (show w6.cell? ⟨g3, 0, none⟩ = some (.int .i64 kd) ∧ w6.cell? ⟨g3, 1, none⟩ = some (.int .i64 id) ∧ w6.cell? ⟨g3, 2, none⟩ = some (.string st) from ⟨(blk_cell BK3c.out 0).trans rfl, (blk_cell BK3c.out 1).trans rfl, (blk_cell BK3c.out 2).trans rfl⟩)
      go_wp2_with (fail)
      go_region_held3 (fun w' => w'.cell? ⟨g3, 0, none⟩ = some (.int .i64 kd) ∧ w'.cell? ⟨g3, 1, none⟩ = some (.int .i64 id) ∧ w'.cell? ⟨g3, 2, none⟩ = some (.string st)) (go_keep)
        (first
          | (go_at_call 28; refine (trommelref17_one.calls k kd id st o _ AO.out).mono ?_; rintro e w7 ⟨v7, rfl, ho7, hb⟩; have BKzd := Aside0.mk (blk_below BKzc.out (show Below w6.heap.size w6 w7 from ⟨hb.os, hb.tape, hb.output, hb.size, hb.block⟩)); have hb6 := (show Below w6.heap.size w6 w7 from ⟨hb.os, hb.tape, hb.output, hb.size, hb.block⟩); have HB7 := Aside0.mk (below_step HB6.out hb6); have hd0 := cell_later hb6 HX6.out.1; have hd1 := cell_later hb6 HX6.out.2.1; have hd2 := cell_later hb6 HX6.out.2.2; obtain ⟨q0, q1, q2, q3, q4, q5⟩ := (show w7.cell? ⟨g0, 0, none⟩ = some (.int .i64 0) ∧ w7.cell? ⟨g0, 1, none⟩ = some (.int .i64 0) ∧ w7.cell? ⟨g0, 2, none⟩ = some (.string .empty) ∧ w7.frozen? ⟨g0, 0, none⟩ = false ∧ w7.frozen? ⟨g0, 1, none⟩ = false ∧ w7.frozen? ⟨g0, 2, none⟩ = false from ⟨(blk_cell BKzd.out 0).trans rfl, (blk_cell BKzd.out 1).trans rfl, (blk_cell BKzd.out 2).trans rfl, blk_frozen BKzd.out 0, blk_frozen BKzd.out 1, blk_frozen BKzd.out 2⟩); obtain ⟨A7, c7, rfl⟩ := Kd.R_slice ho7; clear ho7 hb hb6)
          | fail)
      go_wp2_with (fail)
      exact bodyPost_ret (v := .tuple #[.agg #[.int .i64 kd, .int .i64 id, .string st], .int .i64 (o.length : Int), .int .i64 0]) (by simp [results, Try.results23, go_sem, q0, q1, q2, q3, q4, q5]) rfl ⟨rfl, below_set (below_set (below_set HB7.out ho0) ho0) ho0⟩
theorem trommelref17_Decode.calls (k : Nat) (A0 : Option Addr) (c0 : Nat) (l0 : List Int) (r1 : Int) (r2 : Int) (r3 : ByteArray) (r4 : Int) (r5 : Int) (w : World) (hr0 : Kd.C (Kd.int .u8) w A0 l0.length l0) (hc0 : l0.length ≤ c0) (h : trommelref17_Decode.f k l0 = some (r1, r2, r3, r4, r5)) :
    Calls Try.prog 23 #[.slice A0 l0.length c0] w fun e w' => e = .returned (.tuple #[.agg #[.int .i64 r1, .int .i64 r2, .string r3], .int .i64 r4, .int .i64 r5]) ∧ Below w.heap.size w w' :=
  (trommelref17_Decode.any k A0 c0 l0 (r1, r2, r3, r4, r5) w hr0 hc0 h).mono fun e w' h => h

end Go.Proofs.Ytgnhadbadhgdgaa.Prt
