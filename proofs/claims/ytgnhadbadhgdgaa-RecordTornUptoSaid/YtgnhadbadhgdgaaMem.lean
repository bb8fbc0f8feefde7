/- Contracts of the law's room (a copy of bytes with a marked spare cell behind it) and kept. Conditions: the list is short enough for a slice of one more. -/
import Derived.Test.YtgnhadbadhgdgaaMathX
namespace Go.Proofs.Ytgnhadbadhgdgaa.Prt
open Go.RowKit Go.Proofs.YtgnhadbadhgdgaaW.PrintWords Go.Proofs.YtgnhadbadhgdgaaW.PrintLast Go.Proofs.YtgnhadbadhgdgaaW.PrintMore
set_option linter.unusedVariables false
set_option linter.unusedSimpArgs false

/-- The spare cell, just built. -/
theorem c_mark (w : World) : Kd.C (Kd.int .u8) (w.alloc (.cells #[.int .u8 199] 5)) (some ⟨w.heap.size, 0, none⟩) ([199] : List Int).length [199] := by
  refine ⟨rfl, by simp, fun _ => ⟨_, rfl, fun j p hj => ⟨[.int .u8 p], rfl, rfl, fun i u hu => ?_⟩⟩⟩
  have hi : i = 0 ∧ u = .int .u8 p := by
    cases i with
    | zero => exact ⟨rfl, by simpa using hu.symm⟩
    | succ i => simp at hu
  obtain ⟨rfl, rfl⟩ := hi
  have hj2 : j = 0 ∧ p = 199 := by
    match j, hj with
    | 0, h => exact ⟨rfl, by simpa using h.symm⟩
    | (n + 1), h => simp at h
  obtain ⟨rfl, rfl⟩ := hj2
  exact World.news_of_block (cs := #[.int .u8 199]) (t := 5) (fr := (0, 0)) (heap_alloc_new ..) 0 _ rfl

set_option maxRecDepth 100000 in
set_option maxHeartbeats 4000000 in
theorem room_any (A : Option Addr) (c : Nat) (l : List Int) (w : World) (hr : Kd.C (Kd.int .u8) w A l.length l) (hc : l.length ≤ c) (hl : l.length ≤ 140737488350000) :
    Calls Try.prog 18 #[.slice A l.length c] w fun e w' => ∃ A' c', e = .returned (.slice A' l.length c') ∧ l.length + 1 ≤ c' ∧ Kd.R (Kd.int .u8) 5 w' w.heap.size (fun _ => True) (.slice A' (l ++ [199]).length c') (l ++ [199]) ∧ Below w.heap.size w w' := by
  obtain ⟨i0, hi, hz0, hz1, hz2⟩ := info_parts info5
  have HR := Aside0.mk hr
  clear hr
  have hl64 : ((l.length : Int) + 1) ≤ 9223372036854775807 := by omega
  have hW : wrap64 ((l.length : Int) + 1) = ((l.length + 1 : Nat) : Int) := by unfold wrap64; omega
  go_enter Try.func18, Try.ntmps18
  go_wp2_with (first
    | (at_make; refine wpList_make_own _ rfl _ _ 24 rfl w.heap.size 5 i0 (.int .u8 0) 1 Try.underlying24 hi hz0 hz1 .i64 .i64 _ (l.length + 1) rfl rfl (by first | rfl | omega) (by rw [hz2]; omega) (by unfold maxLen; omega) (Nat.le_refl _) ?_; intro w0 hown0 hgrow0; have HB0 := Aside0.mk (show Below w.heap.size w w0 from ⟨hgrow0.os, hgrow0.tape, hgrow0.output, hgrow0.size, fun k hk => hgrow0.block k hk (by simp)⟩); have HO0 := Aside0.mk (show Kd.R (Kd.int .u8) 5 w0 w.heap.size (fun _ => True) (.slice (some ⟨w.heap.size, 0, none⟩) 0 (l.length + 1)) [] from Kd.R_of_own (enc := Value.int .u8) (h1 := fun _ => rfl) hown0 (fun _ _ => trivial)); clear hown0 hgrow0)
    | (at_builtin; refine Kd.R_append_rows (Kd.int .u8) (w0 := w) w.heap.size rfl (.tmp 7) (.tmp 8) 24 5 (.int .u8 0) 1 rfl Try.underlying24 info5 rfl (by decide) (by omega) _ ([] : List Int) l _ _ _ (fun _ => True) (fun _ => False) rfl rfl HO0.out (Kd.C_below HR.out HB0.out) (fun _ _ h => h) (fun _ h => h.elim) (fun _ _ => trivial) HB0.out HB0.out.size (by simp; omega) ?_; intro v1 w1 ho1 hb1 hg1 ha1; have HO1 := Aside0.mk ho1; have HB1 := Aside0.mk hb1; obtain ⟨A1, c1, e1⟩ := Kd.R_slice ho1; clear ho1 hb1 hg1 ha1; subst e1)
    | (at_builtin; refine Kd.R_append_rows (Kd.int .u8) (w0 := w) w.heap.size rfl (.tmp 9) (.tmp 10) 24 5 (.int .u8 0) 1 rfl Try.underlying24 info5 rfl (by decide) (by omega) _ ([] ++ l) [199] _ _ _ (fun _ => True) (fun _ => False) rfl rfl (Kd.R_alloc HO1.out _) (c_mark w1) (fun _ _ h => h) (fun _ h => h.elim) (fun _ _ => trivial) (below_alloc HB1.out _) (below_size (below_alloc HB1.out _)) (by simp; omega) ?_; intro v2 w2 ho2 hb2 hg2 ha2; have HO2 := Aside0.mk ho2; have HB2 := Aside0.mk hb2; obtain ⟨A2, c2, e2⟩ := Kd.R_slice ho2; clear ho2 hb2 hg2 ha2; subst e2; have hc2 := (Kd.R_reads' HO2.out).2.1; simp at hc2))
  go_ret
  refine ⟨A2, c2, rfl, hc2, ?_, HB2.out⟩
  have h := HO2.out
  rw [List.nil_append] at h
  exact h

set_option maxRecDepth 100000 in
set_option maxHeartbeats 4000000 in
theorem kept_any (A A' : Option Addr) (c c' : Nat) (l : List Int) (w : World) (hr : Kd.C (Kd.int .u8) w A l.length l) (hc : l.length ≤ c) (hr' : Kd.C (Kd.int .u8) w A' (l ++ [199]).length (l ++ [199])) (hc' : l.length + 1 ≤ c') (hl : l.length ≤ 140737488350000) :
    Calls Try.prog 21 #[.slice A' l.length c', .slice A l.length c] w fun e w' => e = .returned (.bool true) ∧ Drawn0 w w' := by
  have HR := Aside0.mk hr
  have HR2 := Aside0.mk (show Kd.C (Kd.int .u8) w A' l.length l by have h := Kd.C_take (m := l.length) hr' (by simp); simpa using h)
  obtain ⟨ad, rfl⟩ : ∃ ad, A' = some ad := by obtain ⟨ad, h, _⟩ := hr'.2.2 (by simp); exact ⟨ad, h⟩
  have hx0 : w.cell? (ad.add l.length) = some (.int .u8 199) := by
    obtain ⟨_, h, h2⟩ := hr'.2.2 (by simp)
    cases h
    obtain ⟨cs, _, h3, h4⟩ := h2 l.length 199 (by simp)
    have := h4 0 (.int .u8 199) (by rw [show cs = [.int .u8 199] from h3]; rfl)
    simpa [show (Kd.int IntKind.u8).sz = 1 from rfl] using this
  clear hr hr'
  go_enter Try.func21, Try.ntmps21
  go_wp2_with (fail)
  refine (trommellaw17_sameBytes.calls _ _ l _ _ l true w HR2.out (by omega) HR.out hc (same_self l)).mono ?_
  rintro e w1 ⟨rfl, hd⟩
  have HD := Aside0.mk hd
  obtain ⟨nd, rfl⟩ := hd
  go_wp2
  go_ret
  exact ⟨rfl, HD.out⟩
end Go.Proofs.Ytgnhadbadhgdgaa.Prt
