/- The contract of record.Decode. Conditions: what is read are bytes, short enough for a slice. -/
import Derived.Test.YtgnhadbadhgdgaaExtG
import Derived.Test.YtgnhadbadhgdgaaPrB1
import Derived.StillTailTactics
namespace Go.Proofs.Ytgnhadbadhgdgaa.Ext
open Go.RowKit Go.Proofs.YtgnhadbadhgdgaaW.PrintWords Go.Proofs.YtgnhadbadhgdgaaW.PrintLast Go.Proofs.YtgnhadbadhgdgaaW.PrintMore
set_option linter.unusedVariables false
set_option linter.unusedSimpArgs false

theorem bits_in_i64 (op : BinOp) (a b : Int) : -9223372036854775808 ≤ bits op .i64 a b ∧ bits op .i64 a b ≤ 9223372036854775807 := by
  unfold bits
  split <;> (rw [IntKind.wrap_i64]; omega)
theorem numF_at {b : List Int} : ∀ (r : Nat) (n sh : Int) (at_ : Nat) (ok : Bool), at_ ≤ b.length → (numF b r n sh at_ ok).2.1 ≤ b.length
  | 0, _, _, _, _, h => h
  | r + 1, n, sh, at_, ok, h => by
    have h1 := rdB_at (ok := ok) h
    simp only [numF]
    split
    · exact h1
    · exact numF_at r _ _ _ _ h1
theorem numF_range {b : List Int} : ∀ (r : Nat) (n sh : Int) (at_ : Nat) (ok : Bool), -9223372036854775808 ≤ (numF b r n sh at_ ok).1 ∧ (numF b r n sh at_ ok).1 ≤ 9223372036854775807 := by
  intro r
  induction r with
  | zero => intro n sh at_ ok; simp [numF]
  | succ r ih =>
    intro n sh at_ ok
    rw [numF]
    generalize rdB b at_ ok = X
    have h := bits_in_i64 .or n (wrap64 (wrap64 (bits .and .u8 X.1 127) * 2 ^ sh.toNat))
    generalize bits .or .i64 n (wrap64 (wrap64 (bits .and .u8 X.1 127) * 2 ^ sh.toNat)) = Y at *
    split
    · exact h
    · exact ih Y (sh + 7) X.2.1 X.2.2
theorem rdT_at {b : List Int} {at_ : Nat} {ok : Bool} {n : Int} (h : at_ ≤ b.length) : (rdT b at_ ok n).2.1 ≤ b.length := by
  unfold rdT
  split
  · rename_i h2; simp only; omega
  · exact h
theorem rdT_isB {b : List Int} (hb : isB b) (at_ : Nat) (ok : Bool) (n : Int) : isB (rdT b at_ ok n).1 := by
  unfold rdT
  split
  · exact fun x hx => hb x (List.mem_of_mem_drop (List.mem_of_mem_take hx))
  · exact fun x hx => by simp at hx
theorem rdT_len {b : List Int} (at_ : Nat) (ok : Bool) (n : Int) : (rdT b at_ ok n).1.length ≤ b.length := by
  unfold rdT
  split
  · simp only [List.length_take, List.length_drop]; omega
  · simp
theorem sumF_at {b : List Int} {s : Int} : ∀ (r at_ : Nat) (ok : Bool), at_ ≤ b.length → (sumF b s r at_ ok).1 ≤ b.length
  | 0, _, _, h => h
  | r + 1, at_, ok, h => by
    simp only [sumF]
    exact sumF_at r _ _ (rdB_at h)

/-- The place that a reader's cell holds. -/
def rdPos (w : World) (g : Nat) : Int := match w.cell? ⟨g, 1, none⟩ with
  | some (.int _ x) => x
  | _ => 0
def RdS (g : Nat) (A : Option Addr) (n c : Nat) (w : World) : Prop := w.cell? ⟨g, 0, none⟩ = some (.slice A n c) ∧ w.cell? ⟨g, 1, none⟩ = some (.int .i64 (rdPos w g))
theorem RdAt.pos {g n c at_ : Nat} {A : Option Addr} {ok : Bool} {w : World} (h : RdAt g A n c at_ ok w) : rdPos w g = at_ := by
  unfold rdPos
  rw [(blk_cell h 1).trans rfl]
  rfl
theorem RdAt.s {g n c at_ : Nat} {A : Option Addr} {ok : Bool} {w : World} (h : RdAt g A n c at_ ok w) : RdS g A n c w := by
  refine ⟨(blk_cell h 0).trans rfl, ?_⟩
  rw [h.pos]
  exact (blk_cell h 1).trans rfl
theorem RdAt.far {g n c at_ g' j : Nat} {v : Value} {A : Option Addr} {ok : Bool} {w : World} (h : RdAt g A n c at_ ok w) (hn : g ≠ g') : RdAt g A n c at_ ok (w.setCell ⟨g', j, none⟩ v) := (Below.heap_setCell _ _ _ _ hn).trans h
theorem RdS.drew {g n c : Nat} {A : Option Addr} {w : World} (h : RdS g A n c w) : RdS g A n c w.drew := h
/-- Decode: the change, the record's length, the error. -/
def decF (b : List Int) : (Int × Int × ByteArray) × Int × Int :=
  let x := rdB b 0 true
  let y := numF b 7 0 0 x.2.1 x.2.2
  let z := rdT b y.2.1 y.2.2 y.1
  let x2 := rdB z.1 0 true
  let y2 := numF z.1 7 0 0 x2.2.1 x2.2.2
  let t := rdT z.1 y2.2.1 y2.2.2 ((z.1.length : Int) - y2.2.1)
  let u := sumF b (crcN (b.take z.2.1)) 4 z.2.1 z.2.2
  if u.2 = true ∧ t.2.2 = true ∧ x.1 = 67 ∧ PrB.record_May.f x2.1 y2.1 (strOfNums t.1) = some true then ((x2.1, y2.1, strOfNums t.1), (u.1 : Int), 0) else ((0, 0, { data := #[] }), 0, 30)
theorem may_some (k id : Int) (s : ByteArray) : ∃ r, PrB.record_May.f k id s = some r := by
  unfold PrB.record_May.f
  split
  · exact ⟨_, rfl⟩
  split
  · exact ⟨_, rfl⟩
  split
  · exact ⟨_, rfl⟩
  split
  · exact ⟨_, rfl⟩
  split
  · exact ⟨_, rfl⟩
  split <;> exact ⟨_, rfl⟩
def DecPost (w : World) (R : (Int × Int × ByteArray) × Int × Int) (e : Ending) (w' : World) : Prop := e = .returned (.tuple #[.agg #[.int .i64 R.1.1, .int .i64 R.1.2.1, .string R.1.2.2], .int .i64 R.2.1, .int .i64 R.2.2]) ∧ Below w.heap.size w w'
theorem below_frk {B g : Nat} {w w1 w2 : World} (h : Below B w w1) (k : FrK g w1 w2) (hg : B ≤ g) (hB : B ≤ w1.heap.size) : Below B w w2 :=
  h.trans ⟨k.os, k.tape, k.output, k.size, fun i hi => k.block i (by omega) (by omega)⟩
set_option maxRecDepth 100000 in
set_option maxHeartbeats 1000000 in
theorem decode_any (A : Option Addr) (c : Nat) (b : List Int) (w : World) (hr : Kd.C (Kd.int .u8) w A b.length b) (hB : isB b) (hc : b.length ≤ c) (hl : b.length ≤ 1099511627776) :
    Calls Try.prog 22 #[.slice A b.length c] w (DecPost w (decF b)) := by
  obtain ⟨R, hR⟩ : ∃ R, decF b = R := ⟨_, rfl⟩
  rw [hR]
  have HRR := Sd.mk hR
  clear hR
  have HR := Sd.mk hr
  have HB := Sd.mk hB
  have HL := Sd.mk (fun ad (h : A = some ad) (hn : 0 < b.length) => Kd.C_lt (h ▸ hr) hn (by decide))
  clear hr hB
  go_enter Try.func22, Try.ntmps22
  go_wp2_with (first
    | ((with_reducible refine gate_dst (N := 2) rfl ?_); refine box_event ?hg (N := 2) ?hd (cs := #[.int .i64 0, .int .i64 0, .string .empty]) (t := 32) ?hr ?_; (case hd => rfl); (case hg => rfl); (case hr => first | (go_simp; done) | (go_simp; rfl)); intro g0 hg w0 hbox hb; have BK0 := Sd.mk hbox; have HB0 := Sd.mk (And.intro hg hb); clear hbox hb hg)
    | ((with_reducible refine gate_dst (N := 11) rfl ?_); refine box_event ?hg (N := 11) ?hd (cs := #[.slice A b.length c, .int .i64 0, .bool true]) (t := 61) ?hr ?_; (case hd => rfl); (case hg => rfl); (case hr => first | (go_simp; done) | (go_simp; rfl)); intro g1 hg w1 hbox hb; have BK1 := Sd.mk hbox; have HB1 := Sd.mk (And.intro hg hb); clear hbox hb hg))
  have hgl0 : g0 < w0.heap.size := blk_lt BK0.out
  have hgl1 : g1 < w1.heap.size := blk_lt BK1.out
  have ho0 : w.heap.size ≤ g0 := by rw [HB0.out.1]; exact Nat.le_refl _
  have ho1 : g0 < g1 := by rw [HB1.out.1]; exact hgl0
  have HBw := Sd.mk (below_step HB0.out.2 (show Below w0.heap.size w0 w1 from HB1.out.2))
  have BKA := Sd.mk (blk_below BK0.out HB1.out.2)
  have HC1 := Sd.mk (Kd.C_below HR.out HBw.out)
  have HA1 := Sd.mk (show ∀ ad, A = some ad → 0 < b.length → ad.block ≠ g1 from fun ad h hn => by have := HL.out ad h hn; omega)
  have HRD := Sd.mk (show RdAt g1 A b.length c 0 true w1 from BK1.out)
  clear BK0 BK1 HB0 HB1
  refine (rbyte_any g1 A c 0 true b w1 HRD.out HC1.out HA1.out hc (by omega) (Nat.zero_le _)).mono ?_
  rintro e w2 ⟨rfl, hd, hf⟩
  have HAT := Sd.mk (rdB_at (b := b) (ok := true) (Nat.zero_le _))
  obtain ⟨X, hX⟩ : ∃ X, rdB b 0 true = X := ⟨_, rfl⟩
  rw [hX] at hd HAT ⊢
  have HX := Sd.mk hX
  obtain ⟨mark, at1, ok1⟩ := X
  have HD := Sd.mk hd
  have HF := Sd.mk hf
  clear hX hd hf
  go_wp2_with (fail)
  refine (number_read g1 A c at1 ok1 b w2 HD.out (Kd.C_keep (0 : Int) HC1.out HF.out.keep HA1.out) HB.out HA1.out hc (by omega) HAT.out).mono ?_
  rintro e w3 ⟨rfl, hd, hf⟩
  have HAT2 := Sd.mk (numF_at 7 0 0 at1 ok1 HAT.out)
  have HNR := Sd.mk (numF_range (b := b) 7 0 0 at1 ok1)
  obtain ⟨Y, hY⟩ : ∃ Y, numF b 7 0 0 at1 ok1 = Y := ⟨_, rfl⟩
  rw [hY] at hd HAT2 HNR ⊢
  have HY := Sd.mk hY
  obtain ⟨n, at2, ok2⟩ := Y
  have HD2 := Sd.mk hd
  have HF2 := Sd.mk (HF.out.trans hf)
  clear hY hd hf HD HF
  go_wp2_with (fail)
  refine (take_any g1 A c at2 ok2 n b w3 HD2.out (Kd.C_keep (0 : Int) HC1.out HF2.out.keep HA1.out) HA1.out hc (by omega) HAT2.out HNR.out).mono ?_
  rintro e w4 ⟨A2, c2, rfl, hc2, hC2, hA2, hd, hf⟩
  have HAT3 := Sd.mk (rdT_at (ok := ok2) (n := n) HAT2.out)
  have HIB := Sd.mk (rdT_isB HB.out at2 ok2 n)
  have HTL := Sd.mk (rdT_len (b := b) at2 ok2 n)
  obtain ⟨Z, hZ⟩ : ∃ Z, rdT b at2 ok2 n = Z := ⟨_, rfl⟩
  rw [hZ] at hd hc2 hC2 HAT3 HIB HTL ⊢
  have HZ := Sd.mk hZ
  obtain ⟨body, at3, ok3⟩ := Z
  simp only at hc2 hC2 hd HAT3 HIB HTL ⊢
  have HD3 := Sd.mk hd
  have HF3 := Sd.mk (HF2.out.trans hf)
  have HC2 := Sd.mk hC2
  have HA2 := Sd.mk hA2
  clear hZ hd hf HD2 HF2 hC2 hA2
  obtain ⟨nb, hnb⟩ : ∃ nb, body.length = nb := ⟨_, rfl⟩
  rw [hnb] at hc2 ⊢
  have HNB := Sd.mk hnb
  clear hnb
  go_wp2_with (first
    | ((with_reducible refine gate_dst (N := 19) rfl ?_); refine box_event ?hg (N := 19) ?hd (cs := #[.slice A2 nb c2, .int .i64 0, .bool true]) (t := 61) ?hr ?_; (case hd => rfl); (case hg => rfl); (case hr => first | (go_simp; done) | (go_simp; rfl)); intro g2 hg w5 hbox hb; have BK2 := Sd.mk hbox; have HB2 := Sd.mk (And.intro hg hb); clear hbox hb hg))
  have hgl2 : g2 < w5.heap.size := blk_lt BK2.out
  have hs4 := HF3.out.size
  have ho2 : g1 < g2 := by rw [HB2.out.1]; omega
  have HC5 := Sd.mk (Kd.C_below (Kd.C_keep (0 : Int) HC1.out HF3.out.keep HA1.out) HB2.out.2)
  have hnb := HNB.out
  subst hnb
  have HCB := Sd.mk (HC2.out w5 HC5.out)
  have HA5 := Sd.mk (show ∀ ad, A2 = some ad → 0 < body.length → ad.block ≠ g2 from fun ad h hn => by
    obtain ⟨ad0, h0, h1⟩ := HA2.out ad h
    have h2 := HL.out ad0 h0 (by have := HTL.out; omega)
    omega)
  have HR1 := Sd.mk (show RdAt g1 A b.length c at3 ok3 w5 from blk_below HD3.out HB2.out.2)
  have HG0 := Sd.mk (blk_below ((HF3.out.block g0 (by omega) (by omega)).trans BKA.out) HB2.out.2)
  have HW5 := Sd.mk (show Below w.heap.size w w5 from (HBw.out.trans ⟨HF3.out.os, HF3.out.tape, HF3.out.output, HF3.out.size, fun k hk => HF3.out.block k (by omega) (by omega)⟩).trans ⟨HB2.out.2.os, HB2.out.2.tape, HB2.out.2.output, HB2.out.2.size, fun k hk => HB2.out.2.block k (by have := HBw.out.size; omega)⟩)
  have HRD2 := Sd.mk (show RdAt g2 A2 body.length c2 0 true w5 from BK2.out)
  have hbl : body.length ≤ 1099511627776 := by have := HTL.out; omega
  clear HC2 HD3 HF3 HC1 BKA HB2 BK2 HRD
  refine (rbyte_any g2 A2 c2 0 true body w5 HRD2.out HCB.out HA5.out hc2 (by omega) (Nat.zero_le _)).mono ?_
  rintro e w6 ⟨rfl, hd, hf⟩
  have HAT5 := Sd.mk (rdB_at (b := body) (ok := true) (Nat.zero_le _))
  have HKR := Sd.mk (rdB_range HIB.out 0 true)
  obtain ⟨X, hX⟩ : ∃ X, rdB body 0 true = X := ⟨_, rfl⟩
  rw [hX] at hd HAT5 HKR ⊢
  have HX2 := Sd.mk hX
  obtain ⟨kd, at5, ok5⟩ := X
  simp only at HKR
  have hk0 : 0 ≤ kd := HKR.out.1
  have hk1 : kd < 256 := HKR.out.2
  have HD6 := Sd.mk hd
  have HF6 := Sd.mk hf
  clear hX hd hf
  go_wp2_with (fail)
  refine (number_read g2 A2 c2 at5 ok5 body w6 HD6.out (Kd.C_keep (0 : Int) HCB.out HF6.out.keep HA5.out) HIB.out HA5.out hc2 (by omega) HAT5.out).mono ?_
  rintro e w7 ⟨rfl, hd, hf⟩
  have HAT6 := Sd.mk (numF_at 7 0 0 at5 ok5 HAT5.out)
  have HNR2 := Sd.mk (numF_range (b := body) 7 0 0 at5 ok5)
  obtain ⟨Y, hY⟩ : ∃ Y, numF body 7 0 0 at5 ok5 = Y := ⟨_, rfl⟩
  rw [hY] at hd HAT6 HNR2 ⊢
  have HY2 := Sd.mk hY
  obtain ⟨id, at6, ok6⟩ := Y
  have HD7 := Sd.mk hd
  have HF7 := Sd.mk (HF6.out.trans hf)
  clear hY hd hf HD6 HF6
  go_wp2_with (first
    | ((with_reducible refine gate_dst (N := 8) rfl ?_); refine box_event ?hg (N := 8) ?hd (cs := #[.int .i64 0, .int .i64 0, .string .empty]) (t := 32) ?hr ?_; (case hd => rfl); (case hg => rfl); (case hr => first | (go_simp; done) | (go_simp; rfl)); intro g3 hg w8 hbox hb; have BK3 := Sd.mk hbox; have HB3 := Sd.mk (And.intro hg hb); have hz0 := (blk_cell BK3.out 0).trans rfl; have hz1 := (blk_cell BK3.out 1).trans rfl; have hz2 := (blk_cell BK3.out 2).trans rfl; have hf0 := blk_frozen BK3.out 0; have hf1 := blk_frozen BK3.out 1; have hf2 := blk_frozen BK3.out 2; clear hbox hb hg))
  have hgl3 : g3 < w8.heap.size := blk_lt BK3.out
  have hs7 := HF7.out.size
  have ho3 : g2 < g3 := by rw [HB3.out.1]; omega
  have ho3w : w5.heap.size ≤ g3 := by rw [HB3.out.1]; omega
  have HB9 := Sd.mk (show Below w7.heap.size w7 (((w8.setCell ⟨g3, 0, none⟩ (.int .i64 kd)).setCell ⟨g3, 1, none⟩ (.int .i64 id)).setCell ⟨g3, 2, none⟩ (.string { data := #[] })) from below_set (below_set (below_set HB3.out.2 (by rw [HB3.out.1]; exact Nat.le_refl _)) (by rw [HB3.out.1]; exact Nat.le_refl _)) (by rw [HB3.out.1]; exact Nat.le_refl _))
  have HG3 := Sd.mk (show (((w8.setCell ⟨g3, 0, none⟩ (.int .i64 kd)).setCell ⟨g3, 1, none⟩ (.int .i64 id)).setCell ⟨g3, 2, none⟩ (.string { data := #[] })).heap[g3]? = some (.cells #[.int .i64 kd, .int .i64 id, .string { data := #[] }] 32 (0, 0)) from blk_put (blk_put (blk_put BK3.out 0 _ rfl) 1 _ rfl) 2 _ rfl)
  clear hz0 hz1 hz2 hf0 hf1 hf2 BK3
  generalize ((w8.setCell ⟨g3, 0, none⟩ (.int .i64 kd)).setCell ⟨g3, 1, none⟩ (.int .i64 id)).setCell ⟨g3, 2, none⟩ (.string { data := #[] }) = w9 at *
  have HD9 := Sd.mk (show RdAt g2 A2 body.length c2 at6 ok6 w9 from blk_below HD7.out HB9.out)
  have HC9 := Sd.mk (Kd.C_below (Kd.C_keep (0 : Int) HCB.out HF7.out.keep HA5.out) HB9.out)
  have hx0 := (blk_cell HD9.out 0).trans rfl
  have hx1 := (blk_cell HD9.out 1).trans rfl
  have hwr : IntKind.i64.wrap ((body.length : Int) - (at6 : Int)) = (body.length : Int) - (at6 : Int) := wrap_i64m (by have := HAT6.out; omega)
  have hpos := HD9.out.pos
  have hx1' : w9.cell? ⟨g2, 1, none⟩ = some (.int .i64 (rdPos w9 g2)) := HD9.out.s.2
  have hat6 := HAT6.out
  have HPOS := Sd.mk (show rdPos w9.drew g2 = (at6 : Int) from hpos)
  have HWR := Sd.mk hwr
  have HZ3 := Sd.mk HG3.out
  have HGL := Sd.mk (show g3 < w9.heap.size from blk_lt HG3.out)
  clear hx1
  have hx1 : w9.cell? ⟨g2, 1, none⟩ = some (.int .i64 (at6 : Int)) := (blk_cell HD9.out 1).trans rfl
  clear hx1' hpos
  go_still_tail 11, (by kernel_rfl)
  go_wp2_with (fail)
  refine (take_any g2 A2 c2 at6 ok6 ((body.length : Int) - at6) body _ (by exact HD9.out) (by first | exact HC9.out | exact Kd.C_drew HC9.out) HA5.out hc2 (by omega) HAT6.out (by omega)).mono ?_
  rintro e w10 ⟨A3, c3, rfl, hc3, hC3, hA3, hd, hf⟩
  have HC10 := Sd.mk (hC3 w10 (Kd.C_keep (0 : Int) HC9.out (by exact hf.keep) HA5.out))
  clear hC3
  have hcv := Kd.C_string (P := Try.prog) (A := A3) (c := c3) Try.underlying24 Try.underlying5 Try.underlying9 HC10.out
  have hb3 := (hf.block g3 (by exact HGL.out) (by omega)).trans HZ3.out
  have hz3 := (blk_cell hb3 2).trans rfl
  have hfz3 := blk_frozen hb3 2
  have HB3' := Sd.mk hb3
  clear hb3 hx0 hx1
  go_wp2_with (fail)
  obtain ⟨T, hT⟩ : ∃ T, rdT body at6 ok6 ((body.length : Int) - at6) = T := ⟨_, rfl⟩
  have HT := Sd.mk hT
  rw [hT] at hd ⊢
  have hl1 : g1 < w5.heap.size := by omega
  have hl9 : w7.heap.size ≤ w9.heap.size := HB9.out.size
  have HR9 := Sd.mk (show RdAt g1 A b.length c at3 ok3 w9 from (HB9.out.block g1 (by omega)).trans ((HF7.out.block g1 hl1 (by omega)).trans HR1.out))
  have HR10 := Sd.mk (show RdAt g1 A b.length c at3 ok3 w10 from (hf.block g1 (show g1 < w9.heap.size by omega) (by omega)).trans HR9.out)
  have HA9 := Sd.mk (show ∀ ad, A = some ad → 0 < b.length → ad.block ≠ g2 from fun ad h hn => by have := HL.out ad h hn; omega)
  have HA3 := Sd.mk (show ∀ ad, A = some ad → 0 < b.length → ad.block ≠ g3 from fun ad h hn => by have := HL.out ad h hn; have := HW5.out.size; omega)
  have HCb9 := Sd.mk (Kd.C_below (Kd.C_keep (0 : Int) HC5.out HF7.out.keep HA9.out) HB9.out)
  have HCb10 := Sd.mk (Kd.C_keep (0 : Int) HCb9.out (show KeepBut w9 w10 g2 none from hf.keep) HA9.out)
  have HD10 := Sd.mk hd
  have hl5 : g0 < w5.heap.size := blk_lt HG0.out
  have HZ10 := Sd.mk ((hf.block g0 (show g0 < w9.heap.size by omega) (by omega)).trans ((HB9.out.block g0 (by omega)).trans ((HF7.out.block g0 hl5 (by omega)).trans HG0.out)))
  have HW10 := Sd.mk (show Below w.heap.size w w10 from below_frk (w1 := w9) ((below_frk HW5.out HF7.out (by omega) HW5.out.size).trans ⟨HB9.out.os, HB9.out.tape, HB9.out.output, HB9.out.size, fun i hi => HB9.out.block i (by have := HW5.out.size; omega)⟩) ⟨hf.os, hf.tape, hf.output, hf.size, fun k h1 h2 => hf.block k h1 h2⟩ (by omega) (by have := HW5.out.size; omega))
  have HF10 := Sd.mk (show FrK g2 w9 w10 from ⟨hf.os, hf.tape, hf.output, hf.size, fun k h1 h2 => hf.block k h1 h2⟩)
  clear hd hf hcv hz3 hfz3 hwr HR9 HCb9
  generalize hst : strOfNums T.1 = st at *
  have HST := Sd.mk hst
  clear hst hT
  obtain ⟨w11, hw11⟩ : ∃ w11, w10.setCell ⟨g3, 2, none⟩ (.string st) = w11 := ⟨_, rfl⟩
  have HZ11 := Sd.mk (show w11.heap[g0]? = _ from hw11 ▸ (Below.heap_setCell _ _ _ _ (show g0 ≠ g3 by omega)).trans HZ10.out)
  have HW11 := Sd.mk (show Below w.heap.size w w11 from hw11 ▸ below_set HW10.out (by omega))
  have HR11 := Sd.mk (show RdAt g1 A b.length c at3 ok3 w11 from hw11 ▸ RdAt.far HR10.out (by omega))
  have HD11 := Sd.mk (show RdAt g2 A2 body.length c2 T.2.1 T.2.2 w11 from hw11 ▸ RdAt.far HD10.out (by omega))
  have HG11 := Sd.mk (show w11.heap[g3]? = some (.cells #[.int .i64 kd, .int .i64 id, .string st] 32 (0, 0)) from hw11 ▸ blk_put HB3'.out 2 _ rfl)
  have HCb11 := Sd.mk (show Kd.C (Kd.int .u8) w11 A b.length b from hw11 ▸ Kd.C_keep (0 : Int) HCb10.out (KeepBut.set_ (KeepBut.refl w10 g3 none) 2 (.string st)) HA3.out)
  rw [hw11]
  clear hw11
  go_wp2_with (fail)
  refine (sum_read g1 A c at3 ok3 b w11 HR11.out HCb11.out HB.out HA1.out hc hl HAT3.out).mono ?_
  rintro e w12 ⟨rfl, hd, hf⟩
  obtain ⟨U, hU⟩ : ∃ U, sumF b (crcN (b.take at3)) 4 at3 ok3 = U := ⟨_, rfl⟩
  rw [hU] at hd
  have HU := Sd.mk hU
  obtain ⟨at4, ok4⟩ := U
  have hlt3 : g3 < w11.heap.size := blk_lt HG11.out
  have hlt2 : g2 < w11.heap.size := blk_lt HD11.out
  have HG12 := Sd.mk ((hf.block g3 hlt3 (by omega)).trans HG11.out)
  have HD12 := Sd.mk (show RdAt g2 A2 body.length c2 T.2.1 T.2.2 w12 from (hf.block g2 hlt2 (by omega)).trans HD11.out)
  have HR12 := Sd.mk hd
  have HZ12 := Sd.mk ((hf.block g0 (by omega) (by omega)).trans HZ11.out)
  have HW12 := Sd.mk (below_frk HW11.out hf (by omega) HW11.out.size)
  obtain ⟨mb, hmb⟩ := may_some kd id st
  obtain ⟨tx, at7, ok7⟩ := T
  have HFin := Sd.mk (show (if ok4 = true ∧ ok7 = true ∧ mark = 67 ∧ mb = true then ((kd, id, st), (at4 : Int), (0 : Int)) else ((0, 0, { data := #[] }), 0, 30)) = R by
    have h := HRR.out
    have h2 := HST.out
    simp only at h2
    simp only [decF, HX.out, HY.out, HZ.out, HX2.out, HY2.out, HT.out, HU.out, h2, hmb, Option.some.injEq] at h
    exact h)
  have HM := Sd.mk hmb
  clear hU hd hf hmb HRR HX HY HZ HX2 HY2 HT HU HST HG11 HD11 HR11 HCb11 HZ11 HW11 HF10 HD10 HCb10 HR10 HB9 HC9 HD9 HPOS HWR HZ3 HG3
  have hy2 : w12.cell? ⟨g1, 2, none⟩ = some (.bool ok4) := (blk_cell HR12.out 2).trans rfl
  have hz2 : w12.cell? ⟨g2, 2, none⟩ = some (.bool ok7) := (blk_cell HD12.out 2).trans rfl
  have HT2 := Sd.mk (show w12.cell? ⟨g3, 0, none⟩ = some (.int .i64 kd) ∧ w12.cell? ⟨g3, 1, none⟩ = some (.int .i64 id) ∧ w12.cell? ⟨g3, 2, none⟩ = some (.string st) from ⟨(blk_cell HG12.out 0).trans rfl, (blk_cell HG12.out 1).trans rfl, (blk_cell HG12.out 2).trans rfl⟩)
  have HT0 := Sd.mk (show w12.cell? ⟨g0, 0, none⟩ = some (.int .i64 0) ∧ w12.cell? ⟨g0, 1, none⟩ = some (.int .i64 0) ∧ w12.cell? ⟨g0, 2, none⟩ = some (.string .empty) ∧ w12.frozen? ⟨g0, 0, none⟩ = false ∧ w12.frozen? ⟨g0, 1, none⟩ = false ∧ w12.frozen? ⟨g0, 2, none⟩ = false from ⟨(blk_cell HZ12.out 0).trans rfl, (blk_cell HZ12.out 1).trans rfl, (blk_cell HZ12.out 2).trans rfl, blk_frozen HZ12.out 0, blk_frozen HZ12.out 1, blk_frozen HZ12.out 2⟩)
  have HB3' := Sd.mk (show w.heap.size ≤ g0 from ho0)
  by_cases hk4 : ok4 = true
  · subst hk4
    by_cases hk7 : ok7 = true
    · subst hk7
      by_cases hmk : mark = 67
      · subst hmk
        have HF2 := Sd.mk (show (if mb = true then ((kd, id, st), (at4 : Int), (0 : Int)) else ((0, 0, { data := #[] }), 0, 30)) = R by
          have h := HFin.out
          simpa only [true_and, and_true] using h)
        obtain ⟨hc0, hc1, hc2⟩ := HT2.out
        go_wp2_with (fail)
        refine (PrB.record_May.calls kd id st mb _ HM.out).mono ?_
        rintro e w13 ⟨rfl, hb⟩
        have HB13 := Sd.mk hb
        clear hb hc0 hc1 hc2 hy2 hz2
        cases mb with
        | false =>
          have HF3 := HF2.out
          rw [if_neg (by decide)] at HF3
          subst HF3
          obtain ⟨q0, q1, q2, q3, q4, q5⟩ := HT0.out
          have hs12 : g0 < w12.heap.size := blk_lt HZ12.out
          have p0 : w13.cell? ⟨g0, 0, none⟩ = some (.int .i64 0) := (HB13.out.cell (p := ⟨g0, 0, none⟩) hs12).trans q0
          have p1 : w13.cell? ⟨g0, 1, none⟩ = some (.int .i64 0) := (HB13.out.cell (p := ⟨g0, 1, none⟩) hs12).trans q1
          have p2 : w13.cell? ⟨g0, 2, none⟩ = some (.string .empty) := (HB13.out.cell (p := ⟨g0, 2, none⟩) hs12).trans q2
          have p3 : w13.frozen? ⟨g0, 0, none⟩ = false := (HB13.out.frozen (p := ⟨g0, 0, none⟩) hs12).trans q3
          have p4 : w13.frozen? ⟨g0, 1, none⟩ = false := (HB13.out.frozen (p := ⟨g0, 1, none⟩) hs12).trans q4
          have p5 : w13.frozen? ⟨g0, 2, none⟩ = false := (HB13.out.frozen (p := ⟨g0, 2, none⟩) hs12).trans q5
          clear q0 q1 q2 q3 q4 q5
          go_wp2_with (fail)
          exact bodyPost_ret (v := .tuple #[.agg #[.int .i64 0, .int .i64 0, .string { data := #[] }], .int .i64 0, .int .i64 30]) (by simp [results, Try.results22, go_sem, p0, p1, p2, p3, p4, p5]) rfl ⟨rfl, below_set (below_set (below_set (below_step HW12.out HB13.out) ho0) ho0) ho0⟩
        | true =>
          have HF3 := HF2.out
          rw [if_pos rfl] at HF3
          subst HF3
          obtain ⟨q0, q1, q2, q3, q4, q5⟩ := HT0.out
          obtain ⟨hc0, hc1, hc2⟩ := HT2.out
          have hs12 : g0 < w12.heap.size := blk_lt HZ12.out
          have hs13 : g3 < w12.heap.size := blk_lt HG12.out
          have hs14 : g1 < w12.heap.size := blk_lt HR12.out
          have p0 : w13.cell? ⟨g0, 0, none⟩ = some (.int .i64 0) := (HB13.out.cell (p := ⟨g0, 0, none⟩) hs12).trans q0
          have p1 : w13.cell? ⟨g0, 1, none⟩ = some (.int .i64 0) := (HB13.out.cell (p := ⟨g0, 1, none⟩) hs12).trans q1
          have p2 : w13.cell? ⟨g0, 2, none⟩ = some (.string .empty) := (HB13.out.cell (p := ⟨g0, 2, none⟩) hs12).trans q2
          have p3 : w13.frozen? ⟨g0, 0, none⟩ = false := (HB13.out.frozen (p := ⟨g0, 0, none⟩) hs12).trans q3
          have p4 : w13.frozen? ⟨g0, 1, none⟩ = false := (HB13.out.frozen (p := ⟨g0, 1, none⟩) hs12).trans q4
          have p5 : w13.frozen? ⟨g0, 2, none⟩ = false := (HB13.out.frozen (p := ⟨g0, 2, none⟩) hs12).trans q5
          have r0 : w13.cell? ⟨g3, 0, none⟩ = some (.int .i64 kd) := (HB13.out.cell (p := ⟨g3, 0, none⟩) hs13).trans hc0
          have r1 : w13.cell? ⟨g3, 1, none⟩ = some (.int .i64 id) := (HB13.out.cell (p := ⟨g3, 1, none⟩) hs13).trans hc1
          have r2 : w13.cell? ⟨g3, 2, none⟩ = some (.string st) := (HB13.out.cell (p := ⟨g3, 2, none⟩) hs13).trans hc2
          have r3 : w13.cell? ⟨g1, 1, none⟩ = some (.int .i64 (at4 : Int)) := (HB13.out.cell (p := ⟨g1, 1, none⟩) hs14).trans ((blk_cell HR12.out 1).trans rfl)
          have n0 : g0 ≠ g3 := by omega
          have n1 : g0 ≠ g1 := by omega
          clear q0 q1 q2 q3 q4 q5 hc0 hc1 hc2
          go_wp2_with (fail)
          go_region_held3 (fun w' => w'.cell? ⟨g3, 0, none⟩ = some (.int .i64 kd) ∧ w'.cell? ⟨g3, 1, none⟩ = some (.int .i64 id) ∧ w'.cell? ⟨g3, 2, none⟩ = some (.string st) ∧ w'.cell? ⟨g1, 1, none⟩ = some (.int .i64 (at4 : Int))) (go_keep) (fail)
          go_wp2_with (fail)
          exact bodyPost_ret (v := .tuple #[.agg #[.int .i64 kd, .int .i64 id, .string st], .int .i64 (at4 : Int), .int .i64 0]) (by simp [results, Try.results22, go_sem, p0, p1, p2, p3, p4, p5]) rfl ⟨rfl, below_drew (below_set (below_set (below_set (below_step HW12.out HB13.out) ho0) ho0) ho0)⟩
      · have HF2 := HFin.out
        rw [if_neg (fun h => hmk h.2.2.1)] at HF2
        subst HF2
        obtain ⟨q0, q1, q2, q3, q4, q5⟩ := HT0.out
        have hmk1 : (mark != 67) = true := by simp [hmk]
        go_wp2_with (fail)
        exact bodyPost_ret (v := .tuple #[.agg #[.int .i64 0, .int .i64 0, .string { data := #[] }], .int .i64 0, .int .i64 30]) (by simp [results, Try.results22, go_sem, q0, q1, q2, q3, q4, q5]) rfl ⟨rfl, below_set (below_set (below_set HW12.out ho0) ho0) ho0⟩
    · obtain rfl : ok7 = false := by simpa using hk7
      have HF2 := HFin.out
      rw [if_neg (fun h => by cases h.2.1)] at HF2
      subst HF2
      obtain ⟨q0, q1, q2, q3, q4, q5⟩ := HT0.out
      go_wp2_with (fail)
      exact bodyPost_ret (v := .tuple #[.agg #[.int .i64 0, .int .i64 0, .string { data := #[] }], .int .i64 0, .int .i64 30]) (by simp [results, Try.results22, go_sem, q0, q1, q2, q3, q4, q5]) rfl ⟨rfl, below_set (below_set (below_set HW12.out ho0) ho0) ho0⟩
  · obtain rfl : ok4 = false := by simpa using hk4
    have HF2 := HFin.out
    rw [if_neg (fun h => by cases h.1)] at HF2
    subst HF2
    obtain ⟨q0, q1, q2, q3, q4, q5⟩ := HT0.out
    go_wp2_with (fail)
    exact bodyPost_ret (v := .tuple #[.agg #[.int .i64 0, .int .i64 0, .string { data := #[] }], .int .i64 0, .int .i64 30]) (by simp [results, Try.results22, go_sem, q0, q1, q2, q3, q4, q5]) rfl ⟨rfl, below_set (below_set (below_set HW12.out ho0) ho0) ho0⟩
end Go.Proofs.Ytgnhadbadhgdgaa.Ext
