/- Contracts of trommelmem.Ints (a copy with two marked spare cells behind it) and KeptInts. Conditions: the list is short enough for a slice of two more. -/
import Derived.Test.YtapemeboobcgmaaDoorPrt6
import Derived.Test.YtapemeboobcgmaaDoorMathD
namespace Go.Proofs.YtapemeboobcgmaaDoor.Prt
open Go.RowKit Go.Proofs.YtapemeboobcgmaaDoorW.PrintWords Go.Proofs.YtapemeboobcgmaaDoorW.PrintLast Go.Proofs.YtapemeboobcgmaaDoorW.PrintMore
set_option linter.unusedVariables false
set_option linter.unusedSimpArgs false

theorem info3m : (Tryd.prog.info? 3).map (fun i => (i.zero, i.size, i.bytes)) = some (some (.int .i64 0), 1, 8) := by kernel_rfl
def tail2 : List Int := [-77, -78]

/-- The spare cells, just built. -/
theorem c_pair (w : World) : Kd.C (Kd.int .i64) (w.alloc (.cells #[.int .i64 (-77), .int .i64 (-78)] 3)) (some ⟨w.heap.size, 0, none⟩) 2 tail2 := by
  refine ⟨rfl, by simp, fun _ => ⟨_, rfl, fun j p hj => ⟨[.int .i64 p], rfl, rfl, fun i u hu => ?_⟩⟩⟩
  have hi : i = 0 ∧ u = .int .i64 p := by
    cases i with
    | zero => exact ⟨rfl, by simpa using hu.symm⟩
    | succ i => simp at hu
  obtain ⟨rfl, rfl⟩ := hi
  have hj2 : (j = 0 ∧ p = -77) ∨ (j = 1 ∧ p = -78) := by
    match j, hj with
    | 0, h => exact .inl ⟨rfl, by simpa [tail2] using h.symm⟩
    | 1, h => exact .inr ⟨rfl, by simpa [tail2] using h.symm⟩
    | (n + 2), h => simp [tail2] at h
  rcases hj2 with ⟨rfl, rfl⟩ | ⟨rfl, rfl⟩
  · exact World.news_of_block (cs := #[.int .i64 (-77), .int .i64 (-78)]) (t := 3) (fr := (0, 0)) (heap_alloc_new ..) 0 _ rfl
  · exact World.news_of_block (cs := #[.int .i64 (-77), .int .i64 (-78)]) (t := 3) (fr := (0, 0)) (heap_alloc_new ..) 1 _ rfl

set_option maxRecDepth 100000 in
set_option maxHeartbeats 4000000 in
theorem ints_any (A : Option Addr) (c : Nat) (l : List Int) (w : World) (hr : Kd.C (Kd.int .i64) w A l.length l) (hc : l.length ≤ c) (hl : l.length * 8 ≤ 140737488351232) :
    Calls Tryd.prog 18 #[.slice A l.length c] w fun e w' => ∃ A' c', e = .returned (.slice A' l.length c') ∧ l.length + 2 ≤ c' ∧ Kd.R (Kd.int .i64) 3 w' w.heap.size (fun _ => True) (.slice A' (l ++ tail2).length c') (l ++ tail2) ∧ Below w.heap.size w w' := by
  obtain ⟨i0, hi, hz0, hz1, hz2⟩ := info_parts info3m
  have HR := Aside0.mk hr
  clear hr
  have hl64 : ((l.length : Int) + 2) ≤ 9223372036854775807 := by omega
  have hW : wrap64 ((l.length : Int) + 2) = ((l.length + 2 : Nat) : Int) := by unfold wrap64; omega
  go_enter Tryd.func18, Tryd.ntmps18
  go_wp2_with (first
    | (at_make; refine wpList_make_own _ rfl _ _ 33 rfl w.heap.size 3 i0 (.int .i64 0) 1 Tryd.underlying33 hi hz0 hz1 .i64 .i64 _ (l.length + 2) rfl rfl (by first | rfl | omega) (by rw [hz2]; omega) (by unfold maxLen; omega) (Nat.le_refl _) ?_; intro w0 hown0 hgrow0; have HB0 := Aside0.mk (show Below w.heap.size w w0 from ⟨hgrow0.os, hgrow0.tape, hgrow0.output, hgrow0.size, fun k hk => hgrow0.block k hk (by simp)⟩); have HO0 := Aside0.mk (show Kd.R (Kd.int .i64) 3 w0 w.heap.size (fun _ => True) (.slice (some ⟨w.heap.size, 0, none⟩) 0 (l.length + 2)) [] from Kd.R_of_own (enc := Value.int .i64) hown0 (fun _ _ => trivial)); clear hown0 hgrow0)
    | (at_builtin; refine Kd.R_append_rows (Kd.int .i64) (w0 := w) w.heap.size rfl (.tmp 7) (.tmp 8) 33 3 (.int .i64 0) 8 rfl Tryd.underlying33 info3m rfl (by decide) (by omega) _ ([] : List Int) l _ _ _ (fun _ => True) (fun _ => False) rfl rfl HO0.out (Kd.C_below HR.out HB0.out) (fun _ _ h => h) (fun _ h => h.elim) (fun _ _ => trivial) HB0.out HB0.out.size (by simp; omega) ?_; intro v1 w1 ho1 hb1 hg1 ha1; have HO1 := Aside0.mk ho1; have HB1 := Aside0.mk hb1; obtain ⟨A1, c1, e1⟩ := Kd.R_slice ho1; clear ho1 hb1 hg1 ha1; subst e1)
    | (at_builtin; refine Kd.R_append_rows (Kd.int .i64) (w0 := w) w.heap.size rfl (.tmp 9) (.tmp 10) 33 3 (.int .i64 0) 8 rfl Tryd.underlying33 info3m rfl (by decide) (by omega) _ ([] ++ l) tail2 _ _ _ (fun _ => True) (fun _ => False) rfl rfl (Kd.R_alloc HO1.out _) (c_pair w1) (fun _ _ h => h) (fun _ h => h.elim) (fun _ _ => trivial) (below_alloc HB1.out _) (below_size (below_alloc HB1.out _)) (by simp; omega) ?_; intro v2 w2 ho2 hb2 hg2 ha2; have HO2 := Aside0.mk ho2; have HB2 := Aside0.mk hb2; obtain ⟨A2, c2, e2⟩ := Kd.R_slice ho2; clear ho2 hb2 hg2 ha2; subst e2; have hc2 := (Kd.R_reads' HO2.out).2.1; simp [tail2] at hc2))
  go_ret
  refine ⟨A2, c2, rfl, hc2, ?_, HB2.out⟩
  have h := HO2.out
  rw [List.nil_append] at h
  exact h

theorem sameInts_self (l : List Int) (hl : l.length < 9223372036854775807) : ∀ (n k i : Nat), i + n = l.length → n < k → trommelmem_SameInts.l0 k l l (l.length : Int) (i : Int) = some true := by
  intro n
  induction n with
  | zero =>
    intro k i hi hk
    obtain ⟨k, rfl⟩ : ∃ m, k = m + 1 := ⟨k - 1, by omega⟩
    simp only [trommelmem_SameInts.l0]
    rw [if_neg (by omega)]
  | succ n ih =>
    intro k i hi hk
    obtain ⟨k, rfl⟩ : ∃ m, k = m + 1 := ⟨k - 1, by omega⟩
    simp only [trommelmem_SameInts.l0]
    rw [if_pos (by omega), if_pos (by omega), if_pos (by omega), if_pos (by omega), if_pos trivial, show wrap64 ((i : Int) + 1) = ((i + 1 : Nat) : Int) by unfold wrap64; omega]
    exact ih k (i + 1) (by omega) (by omega)
theorem same_self (l : List Int) (hl : l.length < 9223372036854775807) : trommelmem_SameInts.f (l.length + 1) l l = some true := by
  unfold trommelmem_SameInts.f
  rw [if_pos rfl]
  exact sameInts_self l hl l.length _ 0 (by omega) (by omega)

set_option maxRecDepth 100000 in
set_option maxHeartbeats 4000000 in
theorem kept_any (A A' : Option Addr) (c c' : Nat) (l : List Int) (w : World) (hr : Kd.C (Kd.int .i64) w A l.length l) (hc : l.length ≤ c) (hr' : Kd.C (Kd.int .i64) w A' (l ++ tail2).length (l ++ tail2)) (hc' : l.length + 2 ≤ c') (hl : l.length * 8 ≤ 140737488351232) :
    Calls Tryd.prog 21 #[.slice A' l.length c', .slice A l.length c] w fun e w' => e = .returned (.bool true) ∧ Drawn0 w w' := by
  have HR := Aside0.mk hr
  have HR' := Aside0.mk hr'
  have HR2 := Aside0.mk (show Kd.C (Kd.int .i64) w A' l.length l by have h := Kd.C_take (m := l.length) hr' (by simp); simpa using h)
  obtain ⟨ad, rfl⟩ : ∃ ad, A' = some ad := by obtain ⟨ad, h, _⟩ := hr'.2.2 (by simp [tail2]); exact ⟨ad, h⟩
  have hx0 : w.cell? (ad.add l.length) = some (.int .i64 (-77)) := by
    obtain ⟨_, h, h2⟩ := hr'.2.2 (by simp [tail2])
    cases h
    obtain ⟨cs, _, h3, h4⟩ := h2 l.length (-77) (by simp [tail2])
    have := h4 0 (.int .i64 (-77)) (by rw [show cs = [.int .i64 (-77)] from h3]; rfl)
    simpa [show (Kd.int IntKind.i64).sz = 1 from rfl] using this
  have hx1 : w.cell? (ad.add (l.length + 1)) = some (.int .i64 (-78)) := by
    obtain ⟨_, h, h2⟩ := hr'.2.2 (by simp [tail2])
    cases h
    obtain ⟨cs, _, h3, h4⟩ := h2 (l.length + 1) (-78) (by simp [tail2])
    have := h4 0 (.int .i64 (-78)) (by rw [show cs = [.int .i64 (-78)] from h3]; rfl)
    simpa [show (Kd.int IntKind.i64).sz = 1 from rfl] using this
  have hx2 : w.cell? ⟨ad.block, ad.off + (l.length + 1), none⟩ = some (.int .i64 (-78)) := by
    rw [← hx1]; simp [Addr.add]
  clear hr hr'
  go_enter Tryd.func21, Tryd.ntmps21
  go_wp2_with (fail)
  refine (trommelmem_SameInts.calls (l.length + 1) _ _ l _ _ l true w HR2.out (by omega) HR.out hc (same_self l (by omega))).mono ?_
  rintro e w1 ⟨rfl, hd⟩
  have HD := Aside0.mk hd
  clear hd
  go_wp2
  go_ret
  exact ⟨rfl, HD.out⟩
end Go.Proofs.YtapemeboobcgmaaDoor.Prt
