/- The journal's reader: the contract of its method sum. Conditions: what is read is short enough for a slice. -/
import Derived.Test.YtgnhadbadhgdgaaExtF
namespace Go.Proofs.Ytgnhadbadhgdgaa.Ext
open Go.RowKit Go.Proofs.YtgnhadbadhgdgaaW.PrintWords Go.Proofs.YtgnhadbadhgdgaaW.PrintLast Go.Proofs.YtgnhadbadhgdgaaW.PrintMore
set_option linter.unusedVariables false
set_option linter.unusedSimpArgs false

/-- The sum's bytes, by how many are left behind. -/
def shB (s : Int) : Nat → Int
  | 0 => s / 16777216
  | 1 => s / 65536
  | 2 => s / 256
  | _ => s
/-- sum: r of the four bytes are left. -/
def sumF (b : List Int) (s : Int) : Nat → Nat → Bool → Nat × Bool
  | 0, at_, ok => (at_, ok)
  | r + 1, at_, ok => sumF b s r (rdB b at_ ok).2.1 (if (rdB b at_ ok).1 = IntKind.u8.wrap (shB s r) then (rdB b at_ ok).2.2 else false)
/-- All blocks made since are o. -/
def AllO (n : Nat) (o : Obj) (W : World) : Prop := ∀ k, n ≤ k → k < W.heap.size → W.heap[k]? = some o
theorem AllO.drewN {n : Nat} {o : Obj} {W : World} (h : AllO n o W) (m : Nat) : AllO n o (W.drewN m) := h
theorem AllO.drew {n : Nat} {o : Obj} {W : World} (h : AllO n o W) : AllO n o W.drew := h
theorem AllO.alloc {n : Nat} {o : Obj} {W : World} (h : AllO n o W) : AllO n o (W.alloc o).drew := fun k h1 h2 => by
  have h2' : k < (W.alloc o).heap.size := h2
  rw [World.size_alloc] at h2'
  show (W.alloc o).heap[k]? = some o
  rcases Nat.lt_or_ge k W.heap.size with h3 | h3
  · rw [Below.heap_alloc _ _ _ h3]; exact h k h1 h3
  · obtain rfl : k = W.heap.size := by omega
    exact heap_alloc_new W o

set_option maxRecDepth 100000 in
set_option maxHeartbeats 1000000 in
theorem sum_read (g : Nat) (A : Option Addr) (c at_ : Nat) (ok : Bool) (b : List Int) (w : World) (h : RdAt g A b.length c at_ ok w) (hr : Kd.C (Kd.int .u8) w A b.length b) (hB : isB b) (hA : ∀ ad, A = some ad → 0 < b.length → ad.block ≠ g) (hc : b.length ≤ c) (hl : b.length ≤ 1099511627776) (hat : at_ ≤ b.length) :
    Calls Try.prog 37 #[.pointer (some ⟨g, 0, none⟩)] w fun e w' => e = .returned (.tuple #[]) ∧ RdAt g A b.length c (sumF b (crcN (b.take at_)) 4 at_ ok).1 (sumF b (crcN (b.take at_)) 4 at_ ok).2 w' ∧ FrK g w w' := by
  have H := Sd.mk h
  have HR := Sd.mk hr
  have HA := Sd.mk hA
  have HB := Sd.mk hB
  have hx0 := (blk_cell h 0).trans rfl
  have hx1 := (blk_cell h 1).trans rfl
  have hx2 := (blk_cell h 2).trans rfl
  clear h hr hA hB
  obtain ⟨R, hR⟩ : ∃ R, sumF b (crcN (b.take at_)) 4 at_ ok = R := ⟨_, rfl⟩
  rw [hR]
  have HRS0 := Sd.mk hR
  clear hR
  go_enter Try.func37, Try.ntmps37
  have HRa := HR.out
  have hB0 : Below w.heap.size w w := Below.refl _ _
  have hN0 : AllO w.heap.size (.cells #[.slice A at_ c] 24 (0, 0)) w := fun k h1 h2 => by omega
  have HC := Sd.mk (crcN_lt (l := b.take at_) (fun x hx => HB.out x (List.mem_of_mem_take hx)))
  have HF := Sd.mk (show PrA.record_Sum.f (10 * ([b.take at_] : List (List Int)).flatten.length + 2 * ([b.take at_] : List (List Int)).length + 1) [b.take at_] = some (crcN (b.take at_) : Int) by
    have h := sum_f [b.take at_] (fun x hx => by rw [List.mem_singleton.1 hx]; exact ⟨fun x hx => HB.out x (List.mem_of_mem_take hx), by rw [List.length_take]; omega⟩) (by simp)
    simpa using h)
  have HT := Sd.mk (show Kd.C (Kd.slice 5 (Kd.int .u8)) (w.alloc (.cells #[.slice A at_ c] 24)) (some ⟨w.heap.size, 0, none⟩) ([b.take at_] : List (List Int)).length [b.take at_] by
    have hlen : (b.take at_).length = at_ := by rw [List.length_take]; omega
    have h := one_part (Kd.C_take (m := at_) HRa hat) (c := c) (by omega)
    rw [hlen] at h
    exact h)
  have HBel := Sd.mk (show Below w.heap.size w (w.alloc (.cells #[.slice A at_ c] 24)).drew from below_drew1 (below_alloc (Below.refl _ _) _))
  have ha1 : (at_ : Int) ≤ (c : Int) := by omega
  have ha0 : (0 : Int) ≤ (at_ : Int) := by omega
  have HX0 := Sd.mk hx0
  have HX1 := Sd.mk hx1
  have HN := Sd.mk hN0
  have HRR := Sd.mk HRa
  obtain ⟨sm, hsm⟩ : ∃ sm : Int, (crcN (b.take at_) : Int) = sm := ⟨_, rfl⟩
  rw [hsm] at HF HRS0
  have HRS := HRS0
  have hs0 : (0 : Int) ≤ sm := by omega
  have hs1 : sm < 4294967296 := by have := HC.out; omega
  clear hx0 hx1 hx2 HRa hN0
  have hx0 := HX0.out
  have hx1 := HX1.out
  go_wp2_with (fail)
  go_region_held3 (fun w' => w'.cell? ⟨g, 0, none⟩ = some (.slice A b.length c) ∧ w'.cell? ⟨g, 1, none⟩ = some (.int .i64 (at_ : Int)) ∧ Below w.heap.size w w')
    (first | (go_split_ands; (refine ⟨?_, ?_, ?_⟩ <;> first | exact below_drew1 (by assumption) | exact below_drew1 (below_alloc (by assumption) _) | assumption | go_keep)) | (refine ⟨?_, ?_, ?_⟩ <;> first | exact below_drew1 (by assumption) | exact below_drew1 (below_alloc (by assumption) _) | assumption | go_keep))
    (first
      | (go_at_call 20; refine (PrA.record_Sum.calls _ _ _ [b.take at_] _ _ (Kd.C_drew HT.out) (by simp) HF.out).mono ?_; rintro e w' ⟨rfl, hd⟩; have hb := below_step HBel.out hd.below; have hy0 := cell_later hb HX0.out; have hy1 := cell_later hb HX1.out))
  have HD0 := Sd.mk (show RdAt g A b.length c at_ ok w' from blk_below H.out hb)
  have HF0 := Sd.mk (show FrK g w w' from ⟨hb.os, hb.tape, hb.output, hb.size, fun k hk _ => hb.block k hk⟩)
  clear hx0 hx1 hd hb hy0 hy1 HX0 HX1 HN HBel hB0
  have HAT := Sd.mk hat
  clear hat
  go_wp2_with (fail)
  go_loopg [15] 5 (fun gg v15 wr => ∃ (r at2 : Nat) (ok2 : Bool), v15 = .int .i64 (4 - (r : Int)) ∧ Sd (gg = r + 1) ∧ Sd (r ≤ 4) ∧ Sd (sumF b sm r at2 ok2 = R) ∧ Sd (at2 ≤ b.length) ∧ Sd (RdAt g A b.length c at2 ok2 wr) ∧ Sd (FrK g w wr))
  case atStart => exact ⟨4, at_, ok, rfl, ⟨rfl⟩, ⟨Nat.le_refl _⟩, HRS, HAT, HD0, HF0⟩
  case round =>
    obtain ⟨r, at2, ok2, rfl, HG, HL, HN, HAT2, HRd, HFw⟩ := hrel
    have hr4 := HL.out
    have hw24 : IntKind.i64.wrap 24 = 24 := wrap_i64m (by omega)
    have hw16 : IntKind.i64.wrap 16 = 16 := wrap_i64m (by omega)
    have hw8 : IntKind.i64.wrap 8 = 8 := wrap_i64m (by omega)
    have hw0 : IntKind.i64.wrap 0 = 0 := wrap_i64m (by omega)
    rcases (show r = 0 ∨ r = 1 ∨ r = 2 ∨ r = 3 ∨ r = 4 by omega) with rfl | rfl | rfl | rfl | rfl
    · go_wp2
      go_end0
      exact ⟨rfl, by rw [← HN.out]; exact HRd.out, HFw.out⟩
    · go_wp2_with (fail)
      go_region_held3 (fun _ => True) (trivial)
        (first
          | (go_at_call 34; refine (rbyte_any g A c at2 ok2 b _ (by exact HRd.out) (by exact Kd.C_keep (0 : Int) HR.out (by exact HFw.out.keep) HA.out) HA.out hc (by omega) HAT2.out).mono ?_; rintro e w2 ⟨rfl, hd2, hf2⟩))
      all_goals
        have HN2 := Sd.mk (show sumF b sm 0 (rdB b at2 ok2).2.1 (if (rdB b at2 ok2).1 = IntKind.u8.wrap (shB sm 0) then (rdB b at2 ok2).2.2 else false) = R from HN.out)
        have HAT3 := Sd.mk (rdB_at (ok := ok2) HAT2.out)
        have HRd2 := Sd.mk hd2
        have HF2 := Sd.mk (show FrK g w w2 from FrK.trans HFw.out (FrK.trans (FrK.of_drawn ⟨1, rfl⟩) hf2))
        clear hd2 hf2
        generalize rdB b at2 ok2 = X at *
        obtain ⟨x, at3, ok3⟩ := X
        simp only at HN2 HRd2 HAT3
        by_cases hx : x = IntKind.u8.wrap (sm / 16777216)
        · have HN3 := Sd.mk (show sumF b sm 0 at3 ok3 = R by have h := HN2.out; rw [if_pos (show x = IntKind.u8.wrap (shB sm 0) from hx)] at h; exact h)
          have hbx : (x != IntKind.u8.wrap (sm / 16777216)) = false := by simp [hx]
          clear HN2
          simp only [hbx]
          go_wp2
          go_roundg 1
          case measure => have := HG.out; omega
          case rel => exact ⟨0, at3, ok3, by first | rfl | go_num, ⟨rfl⟩, ⟨by omega⟩, HN3, HAT3, HRd2, HF2⟩
        · have HN3 := Sd.mk (show sumF b sm 0 at3 false = R by have h := HN2.out; rw [if_neg (show ¬ x = IntKind.u8.wrap (shB sm 0) from hx)] at h; exact h)
          have hbx : (x != IntKind.u8.wrap (sm / 16777216)) = true := by simp [hx]
          have hz2 := blk_frozen HRd2.out 2
          have hz3 := (blk_cell HRd2.out 2).trans rfl
          clear HN2
          simp only [hbx]
          go_wp2
          go_roundg 1
          case measure => have := HG.out; omega
          case rel => exact ⟨0, at3, false, by first | rfl | go_num, ⟨rfl⟩, ⟨by omega⟩, HN3, HAT3, ⟨blk_put (i := 2) HRd2.out (.bool false) rfl⟩, ⟨FrK.set HF2.out⟩⟩
    · go_wp2_with (fail)
      go_region_held3 (fun _ => True) (trivial)
        (first
          | (go_at_call 34; refine (rbyte_any g A c at2 ok2 b _ (by exact HRd.out) (by exact Kd.C_keep (0 : Int) HR.out (by exact HFw.out.keep) HA.out) HA.out hc (by omega) HAT2.out).mono ?_; rintro e w2 ⟨rfl, hd2, hf2⟩))
      all_goals
        have HN2 := Sd.mk (show sumF b sm 1 (rdB b at2 ok2).2.1 (if (rdB b at2 ok2).1 = IntKind.u8.wrap (shB sm 1) then (rdB b at2 ok2).2.2 else false) = R from HN.out)
        have HAT3 := Sd.mk (rdB_at (ok := ok2) HAT2.out)
        have HRd2 := Sd.mk hd2
        have HF2 := Sd.mk (show FrK g w w2 from FrK.trans HFw.out (FrK.trans (FrK.of_drawn ⟨1, rfl⟩) hf2))
        clear hd2 hf2
        generalize rdB b at2 ok2 = X at *
        obtain ⟨x, at3, ok3⟩ := X
        simp only at HN2 HRd2 HAT3
        by_cases hx : x = IntKind.u8.wrap (sm / 65536)
        · have HN3 := Sd.mk (show sumF b sm 1 at3 ok3 = R by have h := HN2.out; rw [if_pos (show x = IntKind.u8.wrap (shB sm 1) from hx)] at h; exact h)
          have hbx : (x != IntKind.u8.wrap (sm / 65536)) = false := by simp [hx]
          clear HN2
          simp only [hbx]
          go_wp2
          go_roundg 2
          case measure => have := HG.out; omega
          case rel => exact ⟨1, at3, ok3, by first | rfl | go_num, ⟨rfl⟩, ⟨by omega⟩, HN3, HAT3, HRd2, HF2⟩
        · have HN3 := Sd.mk (show sumF b sm 1 at3 false = R by have h := HN2.out; rw [if_neg (show ¬ x = IntKind.u8.wrap (shB sm 1) from hx)] at h; exact h)
          have hbx : (x != IntKind.u8.wrap (sm / 65536)) = true := by simp [hx]
          have hz2 := blk_frozen HRd2.out 2
          have hz3 := (blk_cell HRd2.out 2).trans rfl
          clear HN2
          simp only [hbx]
          go_wp2
          go_roundg 2
          case measure => have := HG.out; omega
          case rel => exact ⟨1, at3, false, by first | rfl | go_num, ⟨rfl⟩, ⟨by omega⟩, HN3, HAT3, ⟨blk_put (i := 2) HRd2.out (.bool false) rfl⟩, ⟨FrK.set HF2.out⟩⟩
    · go_wp2_with (fail)
      go_region_held3 (fun _ => True) (trivial)
        (first
          | (go_at_call 34; refine (rbyte_any g A c at2 ok2 b _ (by exact HRd.out) (by exact Kd.C_keep (0 : Int) HR.out (by exact HFw.out.keep) HA.out) HA.out hc (by omega) HAT2.out).mono ?_; rintro e w2 ⟨rfl, hd2, hf2⟩))
      all_goals
        have HN2 := Sd.mk (show sumF b sm 2 (rdB b at2 ok2).2.1 (if (rdB b at2 ok2).1 = IntKind.u8.wrap (shB sm 2) then (rdB b at2 ok2).2.2 else false) = R from HN.out)
        have HAT3 := Sd.mk (rdB_at (ok := ok2) HAT2.out)
        have HRd2 := Sd.mk hd2
        have HF2 := Sd.mk (show FrK g w w2 from FrK.trans HFw.out (FrK.trans (FrK.of_drawn ⟨1, rfl⟩) hf2))
        clear hd2 hf2
        generalize rdB b at2 ok2 = X at *
        obtain ⟨x, at3, ok3⟩ := X
        simp only at HN2 HRd2 HAT3
        by_cases hx : x = IntKind.u8.wrap (sm / 256)
        · have HN3 := Sd.mk (show sumF b sm 2 at3 ok3 = R by have h := HN2.out; rw [if_pos (show x = IntKind.u8.wrap (shB sm 2) from hx)] at h; exact h)
          have hbx : (x != IntKind.u8.wrap (sm / 256)) = false := by simp [hx]
          clear HN2
          simp only [hbx]
          go_wp2
          go_roundg 3
          case measure => have := HG.out; omega
          case rel => exact ⟨2, at3, ok3, by first | rfl | go_num, ⟨rfl⟩, ⟨by omega⟩, HN3, HAT3, HRd2, HF2⟩
        · have HN3 := Sd.mk (show sumF b sm 2 at3 false = R by have h := HN2.out; rw [if_neg (show ¬ x = IntKind.u8.wrap (shB sm 2) from hx)] at h; exact h)
          have hbx : (x != IntKind.u8.wrap (sm / 256)) = true := by simp [hx]
          have hz2 := blk_frozen HRd2.out 2
          have hz3 := (blk_cell HRd2.out 2).trans rfl
          clear HN2
          simp only [hbx]
          go_wp2
          go_roundg 3
          case measure => have := HG.out; omega
          case rel => exact ⟨2, at3, false, by first | rfl | go_num, ⟨rfl⟩, ⟨by omega⟩, HN3, HAT3, ⟨blk_put (i := 2) HRd2.out (.bool false) rfl⟩, ⟨FrK.set HF2.out⟩⟩
    · go_wp2_with (fail)
      go_region_held3 (fun _ => True) (trivial)
        (first
          | (go_at_call 34; refine (rbyte_any g A c at2 ok2 b _ (by exact HRd.out) (by exact Kd.C_keep (0 : Int) HR.out (by exact HFw.out.keep) HA.out) HA.out hc (by omega) HAT2.out).mono ?_; rintro e w2 ⟨rfl, hd2, hf2⟩))
      all_goals
        have HN2 := Sd.mk (show sumF b sm 3 (rdB b at2 ok2).2.1 (if (rdB b at2 ok2).1 = IntKind.u8.wrap (shB sm 3) then (rdB b at2 ok2).2.2 else false) = R from HN.out)
        have HAT3 := Sd.mk (rdB_at (ok := ok2) HAT2.out)
        have HRd2 := Sd.mk hd2
        have HF2 := Sd.mk (show FrK g w w2 from FrK.trans HFw.out (FrK.trans (FrK.of_drawn ⟨1, rfl⟩) hf2))
        clear hd2 hf2
        generalize rdB b at2 ok2 = X at *
        obtain ⟨x, at3, ok3⟩ := X
        simp only at HN2 HRd2 HAT3
        by_cases hx : x = IntKind.u8.wrap (sm)
        · have HN3 := Sd.mk (show sumF b sm 3 at3 ok3 = R by have h := HN2.out; rw [if_pos (show x = IntKind.u8.wrap (shB sm 3) from hx)] at h; exact h)
          have hbx : (x != IntKind.u8.wrap (sm)) = false := by simp [hx]
          clear HN2
          simp only [hbx]
          go_wp2
          go_roundg 4
          case measure => have := HG.out; omega
          case rel => exact ⟨3, at3, ok3, by first | rfl | go_num, ⟨rfl⟩, ⟨by omega⟩, HN3, HAT3, HRd2, HF2⟩
        · have HN3 := Sd.mk (show sumF b sm 3 at3 false = R by have h := HN2.out; rw [if_neg (show ¬ x = IntKind.u8.wrap (shB sm 3) from hx)] at h; exact h)
          have hbx : (x != IntKind.u8.wrap (sm)) = true := by simp [hx]
          have hz2 := blk_frozen HRd2.out 2
          have hz3 := (blk_cell HRd2.out 2).trans rfl
          clear HN2
          simp only [hbx]
          go_wp2
          go_roundg 4
          case measure => have := HG.out; omega
          case rel => exact ⟨3, at3, false, by first | rfl | go_num, ⟨rfl⟩, ⟨by omega⟩, HN3, HAT3, ⟨blk_put (i := 2) HRd2.out (.bool false) rfl⟩, ⟨FrK.set HF2.out⟩⟩
end Go.Proofs.Ytgnhadbadhgdgaa.Ext
