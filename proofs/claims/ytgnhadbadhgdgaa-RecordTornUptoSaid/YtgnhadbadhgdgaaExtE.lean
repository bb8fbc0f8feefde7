/- The journal's reader: contracts of its methods byte, number, take. Conditions: what is read is short enough for a slice. -/
import Derived.Test.YtgnhadbadhgdgaaExtC
namespace Go.Proofs.Ytgnhadbadhgdgaa.Ext
open Go.RowKit Go.Proofs.YtgnhadbadhgdgaaW.PrintWords Go.Proofs.YtgnhadbadhgdgaaW.PrintLast Go.Proofs.YtgnhadbadhgdgaaW.PrintMore
set_option linter.unusedVariables false
set_option linter.unusedSimpArgs false

/-- But for block g the world is as it was. -/
structure FrK (g : Nat) (w w' : World) : Prop where
  os : w'.os = w.os
  tape : w'.tape = w.tape
  output : w'.output = w.output
  size : w.heap.size ≤ w'.heap.size
  block : ∀ k, k < w.heap.size → k ≠ g → w'.heap[k]? = w.heap[k]?
theorem FrK.refl (g : Nat) (w : World) : FrK g w w := ⟨rfl, rfl, rfl, Nat.le_refl _, fun _ _ _ => rfl⟩
theorem FrK.trans {g : Nat} {a b c : World} (h : FrK g a b) (k : FrK g b c) : FrK g a c :=
  ⟨k.os.trans h.os, k.tape.trans h.tape, k.output.trans h.output, Nat.le_trans h.size k.size, fun i hi hn => (k.block i (Nat.lt_of_lt_of_le hi h.size) hn).trans (h.block i hi hn)⟩
theorem FrK.set {g j : Nat} {v : Value} {w w' : World} (h : FrK g w w') : FrK g w (w'.setCell ⟨g, j, none⟩ v) :=
  ⟨h.os, h.tape, h.output, by simpa [World.setCell] using h.size, fun k hk hn => (Below.heap_setCell _ _ _ _ hn).trans (h.block k hk hn)⟩
theorem FrK.of_drawn {g : Nat} {w w' : World} (h : Drawn0 w w') : FrK g w w' := by
  have hb := h.below
  exact ⟨hb.os, hb.tape, hb.output, hb.size, fun k hk _ => hb.block k hk⟩

/-- A reader lies at block g: its bytes' slice, its place, whether all was there. -/
def RdAt (g : Nat) (A : Option Addr) (n c at_ : Nat) (ok : Bool) (w : World) : Prop := w.heap[g]? = some (.cells #[.slice A n c, .int .i64 (at_ : Int), .bool ok] 61 (0, 0))

theorem FrK.keep {g : Nat} {w w' : World} (h : FrK g w w') : KeepBut w w' g none := ⟨h.size, fun i hi hn _ => h.block i hi hn⟩
theorem byte_cell {A : Option Addr} {b : List Int} {w : World} (hr : Kd.C (Kd.int .u8) w A b.length b) (i : Nat) (hi : i < b.length) :
    ∃ ad, A = some ad ∧ w.cell? (ad.add i) = some (.int .u8 (b.getD i 0)) := by
  obtain ⟨ad, rfl, h2⟩ := hr.2.2 (by omega)
  obtain ⟨cs, _, h3, h4⟩ := h2 i _ (List.getElem?_eq_getElem hi)
  have h5 := h4 0 (.int .u8 b[i]) (by rw [show cs = [.int .u8 b[i]] from h3]; rfl)
  have h6 : w.cell? (ad.add i) = some (.int .u8 b[i]) := by simpa [show (Kd.int IntKind.u8).sz = 1 from rfl] using h5
  exact ⟨ad, rfl, by rw [h6, List.getD_eq_getElem?_getD, List.getElem?_eq_getElem hi]; rfl⟩
def rdB (b : List Int) (at_ : Nat) (ok : Bool) : Int × Nat × Bool := if ok = true ∧ at_ < b.length then (b.getD at_ 0, at_ + 1, ok) else (0, at_, false)

set_option maxRecDepth 100000 in
set_option maxHeartbeats 1000000 in
theorem rbyte_any (g : Nat) (A : Option Addr) (c at_ : Nat) (ok : Bool) (b : List Int) (w : World) (h : RdAt g A b.length c at_ ok w) (hr : Kd.C (Kd.int .u8) w A b.length b) (hA : ∀ ad, A = some ad → 0 < b.length → ad.block ≠ g) (hc : b.length ≤ c) (hl : b.length ≤ 140737488355328) (hat : at_ ≤ b.length) :
    Calls Try.prog 34 #[.pointer (some ⟨g, 0, none⟩)] w fun e w' => e = .returned (.int .u8 (rdB b at_ ok).1) ∧ RdAt g A b.length c (rdB b at_ ok).2.1 (rdB b at_ ok).2.2 w' ∧ FrK g w w' := by
  have H := Sd.mk h
  have HR := Sd.mk hr
  have hx0 := (blk_cell h 0).trans rfl
  have hx1 := (blk_cell h 1).trans rfl
  have hx2 := (blk_cell h 2).trans rfl
  have hf0 := blk_frozen h 0
  have hf1 := blk_frozen h 1
  have hf2 := blk_frozen h 2
  clear h hr
  by_cases hk : ok = true
  · subst hk
    by_cases hlt : at_ < b.length
    · have HV := Sd.mk (show rdB b at_ true = (b.getD at_ 0, at_ + 1, true) by unfold rdB; rw [if_pos ⟨rfl, hlt⟩])
      go_enter Try.func34, Try.ntmps34
      go_wp2_with (fail)
      repeat (go_quiet (fail); try go_wp2)
      obtain ⟨ad, rfl, hcell⟩ := byte_cell HR.out at_ hlt
      have HF := Sd.mk (show FrK g w ((w.drewN nq).setCell ⟨g, 1, none⟩ (.int .i64 ((at_ : Int) + 1))) from FrK.set (FrK.of_drawn ⟨nq, rfl⟩))
      have HD := Sd.mk (show RdAt g (some ad) b.length c (at_ + 1) true ((w.drewN nq).setCell ⟨g, 1, none⟩ (.int .i64 ((at_ : Int) + 1))) from blk_put (i := 1) (show (w.drewN nq).heap[g]? = _ from H.out) (.int .i64 ((at_ : Int) + 1)) rfl)
      have hc2 : ((w.drewN nq).setCell ⟨g, 1, none⟩ (.int .i64 ((at_ : Int) + 1))).cell? (ad.add at_) = some (.int .u8 (b.getD at_ 0)) := keep_cell HF.out.keep hcell (by have h := hA ad rfl (by omega); unfold Addr.add; split <;> exact h)
      obtain ⟨x, hx⟩ : ∃ x, b.getD at_ 0 = x := ⟨_, rfl⟩
      rw [hx] at hc2 HV
      generalize (w.drewN nq).setCell ⟨g, 1, none⟩ (.int .i64 ((at_ : Int) + 1)) = w5 at *
      have hy0 := (blk_cell HD.out 0).trans rfl
      have hy1 := (blk_cell HD.out 1).trans rfl
      clear hx0 hx1 hx2 hf0 hf1 hf2 hcell hx
      repeat (go_quiet (fail); try go_wp2)
      go_ret
      rw [HV.out]
      exact ⟨rfl, HD.out, HF.out.trans (FrK.of_drawn ⟨_, rfl⟩)⟩
    · have HV := Sd.mk (show rdB b at_ true = (0, at_, false) by unfold rdB; rw [if_neg (fun h => hlt h.2)])
      go_enter Try.func34, Try.ntmps34
      go_wp2_with (fail)
      repeat (go_quiet (fail); try go_wp2)
      go_ret
      rw [HV.out]
      exact ⟨rfl, blk_put (i := 2) (show (w.drewN _).heap[g]? = _ from H.out) (.bool false) rfl, FrK.set (FrK.of_drawn ⟨_, rfl⟩)⟩
  · obtain rfl : ok = false := by simpa using hk
    have HV := Sd.mk (show rdB b at_ false = (0, at_, false) by unfold rdB; rw [if_neg (fun h => by cases h.1)])
    go_enter Try.func34, Try.ntmps34
    go_wp2_with (fail)
    repeat (go_quiet (fail); try go_wp2)
    go_ret
    rw [HV.out]
    exact ⟨rfl, blk_put (i := 2) (show (w.drewN _).heap[g]? = _ from H.out) (.bool false) rfl, FrK.set (FrK.of_drawn ⟨_, rfl⟩)⟩

theorem take_c {W : World} {A : Option Addr} {b : List Int} {c at_ m : Nat} (h : Kd.C (Kd.int .u8) W A b.length b) (hm : at_ + m ≤ b.length) (hc : b.length ≤ c) : Kd.C (Kd.int .u8) W (if c = at_ then A else A.map (·.add at_)) ((b.drop at_).take m).length ((b.drop at_).take m) := by
  have h2 := Kd.C_mid (lo := at_) (hi := at_ + m) h (by omega) hm hc
  rw [List.drop_take, show at_ + m - at_ = m by omega, show at_ * (Kd.int IntKind.u8).sz = at_ from Nat.mul_one _] at h2
  exact h2
theorem wrap_i64m {x : Int} (h : -9223372036854775808 ≤ x ∧ x ≤ 9223372036854775807) : IntKind.i64.wrap x = x := by rw [IntKind.wrap_i64]; omega
/-- take. -/
def rdT (b : List Int) (at_ : Nat) (ok : Bool) (n : Int) : List Int × Nat × Bool := if ok = true ∧ 0 ≤ n ∧ n ≤ (b.length : Int) - at_ then ((b.drop at_).take n.toNat, at_ + n.toNat, ok) else ([], at_, false)
set_option maxRecDepth 100000 in
set_option maxHeartbeats 1000000 in
theorem take_any (g : Nat) (A : Option Addr) (c at_ : Nat) (ok : Bool) (n : Int) (b : List Int) (w : World) (h : RdAt g A b.length c at_ ok w) (hr : Kd.C (Kd.int .u8) w A b.length b) (hA : ∀ ad, A = some ad → 0 < b.length → ad.block ≠ g) (hc : b.length ≤ c) (hl : b.length ≤ 140737488355328) (hat : at_ ≤ b.length) (hn : -9223372036854775808 ≤ n ∧ n ≤ 9223372036854775807) :
    Calls Try.prog 35 #[.pointer (some ⟨g, 0, none⟩), .int .i64 n] w fun e w' => ∃ A' c', e = .returned (.slice A' (rdT b at_ ok n).1.length c') ∧ (rdT b at_ ok n).1.length ≤ c' ∧ (∀ W, Kd.C (Kd.int .u8) W A b.length b → Kd.C (Kd.int .u8) W A' (rdT b at_ ok n).1.length (rdT b at_ ok n).1) ∧ (∀ ad, A' = some ad → ∃ ad0, A = some ad0 ∧ ad0.block = ad.block) ∧ RdAt g A b.length c (rdT b at_ ok n).2.1 (rdT b at_ ok n).2.2 w' ∧ FrK g w w' := by
  have H := Sd.mk h
  have HR := Sd.mk hr
  have hx0 := (blk_cell h 0).trans rfl
  have hx1 := (blk_cell h 1).trans rfl
  have hx2 := (blk_cell h 2).trans rfl
  have hf0 := blk_frozen h 0
  have hf1 := blk_frozen h 1
  have hf2 := blk_frozen h 2
  clear h hr
  by_cases hk : ok = true ∧ 0 ≤ n ∧ n ≤ (b.length : Int) - at_
  · obtain ⟨rfl, hn0, hn1⟩ := hk
    obtain ⟨m, rfl⟩ := Int.eq_ofNat_of_zero_le hn0
    have HV := Sd.mk (show rdT b at_ true (m : Int) = ((b.drop at_).take m, at_ + m, true) by unfold rdT; rw [if_pos ⟨rfl, by omega, hn1⟩]; rfl)
    go_enter Try.func35, Try.ntmps35
    go_wp2_with (fail)
    repeat (go_quiet (fail); try go_wp2)
    · exfalso
      rename_i hh
      rw [wrap_i64m (by omega)] at hh
      omega
    · have HF := Sd.mk (show FrK g w ((w.drewN nq).setCell ⟨g, 1, none⟩ (.int .i64 ((at_ : Int) + m))) from FrK.set (FrK.of_drawn ⟨nq, rfl⟩))
      have HD := Sd.mk (show RdAt g A b.length c (at_ + m) true ((w.drewN nq).setCell ⟨g, 1, none⟩ (.int .i64 ((at_ : Int) + m))) from blk_put (i := 1) (show (w.drewN nq).heap[g]? = _ from H.out) (.int .i64 ((at_ : Int) + m)) (by simp))
      rw [wrap_i64m (by omega)]
      generalize (w.drewN nq).setCell ⟨g, 1, none⟩ (.int .i64 ((at_ : Int) + m)) = w5 at *
      have hy0 := (blk_cell HD.out 0).trans rfl
      have hy1 := (blk_cell HD.out 1).trans rfl
      clear hx0 hx1 hx2 hf0 hf1 hf2
      repeat (go_quiet (fail); try go_wp2)
      · have hca := h
        clear h
        go_ret
        rw [HV.out]
        subst hca
        have hm0 : m = 0 := by omega
        subst hm0
        refine ⟨A, 0, by simp, by simp, fun W _ => ⟨rfl, by simp, fun h => absurd h (by simp)⟩, fun ad h => ⟨ad, h, rfl⟩, HD.out, HF.out.trans (FrK.of_drawn ⟨_, rfl⟩)⟩
      · have hca := h
        clear h
        go_ret
        rw [HV.out]
        have hlen : ((b.drop at_).take m).length = m := by rw [List.length_take, List.length_drop]; omega
        refine ⟨A.map (·.add at_), c - at_, by rw [hlen]; rfl, by simp only; rw [hlen]; omega, fun W h => ?_, fun ad h => ?_, HD.out, HF.out.trans (FrK.of_drawn ⟨_, rfl⟩)⟩
        · have h2 := take_c (at_ := at_) (m := m) h (by omega) hc
          rw [if_neg hca] at h2
          exact h2
        · obtain ⟨ad0, rfl, rfl⟩ := Option.map_eq_some_iff.1 h
          refine ⟨ad0, rfl, ?_⟩
          unfold Addr.add
          split <;> rfl
  · have HV := Sd.mk (show rdT b at_ ok n = ([], at_, false) by unfold rdT; rw [if_neg hk])
    by_cases ho : ok = true
    · subst ho
      by_cases hn0 : 0 ≤ n
      · have hn1 : ¬ n ≤ (b.length : Int) - at_ := fun h => hk ⟨rfl, hn0, h⟩
        go_enter Try.func35, Try.ntmps35
        go_wp2_with (fail)
        repeat (go_quiet (fail); try go_wp2)
        · go_ret
          rw [HV.out]
          exact ⟨none, 0, rfl, by simp, fun W _ => Kd.C_nil _ _, fun ad h => by simp at h, blk_put (i := 2) (show (w.drewN _).heap[g]? = _ from H.out) (.bool false) rfl, FrK.set (FrK.of_drawn ⟨_, rfl⟩)⟩
        · exfalso
          have hh : 0 ≤ n ∧ n ≤ IntKind.i64.wrap ((b.length : Int) - at_) := by assumption
          rw [wrap_i64m (by omega)] at hh
          omega
      · go_enter Try.func35, Try.ntmps35
        go_wp2_with (fail)
        repeat (go_quiet (fail); try go_wp2)
        go_ret
        rw [HV.out]
        exact ⟨none, 0, rfl, by simp, fun W _ => Kd.C_nil _ _, fun ad h => by simp at h, blk_put (i := 2) (show (w.drewN _).heap[g]? = _ from H.out) (.bool false) rfl, FrK.set (FrK.of_drawn ⟨_, rfl⟩)⟩
    · obtain rfl : ok = false := by simpa using ho
      go_enter Try.func35, Try.ntmps35
      go_wp2_with (fail)
      repeat (go_quiet (fail); try go_wp2)
      go_ret
      rw [HV.out]
      exact ⟨none, 0, rfl, by simp, fun W _ => Kd.C_nil _ _, fun ad h => by simp at h, blk_put (i := 2) (show (w.drewN _).heap[g]? = _ from H.out) (.bool false) rfl, FrK.set (FrK.of_drawn ⟨_, rfl⟩)⟩
end Go.Proofs.Ytgnhadbadhgdgaa.Ext
