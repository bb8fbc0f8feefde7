/- The journal's writer: the contract of sealed. Conditions: what is written are bytes, at most 2^40 of them. -/
import Derived.Test.YtgnhadbadhgdgaaExtA
import Derived.Test.YtgnhadbadhgdgaaMathA
namespace Go.Proofs.Ytgnhadbadhgdgaa.Ext
open Go.RowKit Go.Proofs.YtgnhadbadhgdgaaW.PrintWords Go.Proofs.YtgnhadbadhgdgaaW.PrintLast Go.Proofs.YtgnhadbadhgdgaaW.PrintMore
set_option linter.unusedVariables false
set_option linter.unusedSimpArgs false

/-- A sum's four bytes, the lowest first. -/
def sum4 (s : Int) : List Int := [s % 256, s / 256 % 256, s / 65536 % 256, s / 16777216 % 256]

theorem own_row {w : World} {base : Nat} {v : Value} {l : List Int} (h : w.ownsRow base 5 1 v l.length (bytesV l)) :
    ∃ A c, v = .slice A l.length c ∧ l.length ≤ c ∧ Kd.C (Kd.int .u8) w A l.length l := by
  have hR : (Kd.int .u8).R 5 w base (fun _ => True) v l := Kd.R_of_own (enc := Value.int .u8) h (fun _ _ => trivial)
  exact Kd.R_reads hR

/-- A list of one list, in a new block. -/
theorem one_part {w : World} {A : Option Addr} {c : Nat} {l : List Int} (hr : Kd.C (Kd.int .u8) w A l.length l) (hc : l.length ≤ c) :
    Kd.C (Kd.slice 5 (Kd.int .u8)) (w.alloc (.cells #[.slice A l.length c] 24)) (some ⟨w.heap.size, 0, none⟩) ([l] : List (List Int)).length [l] := by
  refine ⟨rfl, by simp, fun _ => ⟨_, rfl, fun j p hj => ?_⟩⟩
  obtain ⟨rfl, rfl⟩ : j = 0 ∧ l = p := by
    cases j with
    | zero => exact ⟨rfl, by simpa using hj⟩
    | succ j => simp at hj
  refine ⟨[.slice A l.length c], rfl, ⟨A, c, rfl, hc, Kd.C_below hr ((Below.refl _ _).alloc (Nat.le_refl _) _)⟩, fun i u hu => ?_⟩
  cases i with
  | zero =>
    simp at hu
    subst hu
    simp [Addr.add]
  | succ i => simp at hu

set_option maxRecDepth 100000 in
set_option maxHeartbeats 2000000 in
theorem sealed_any (T g base : Nat) (l : List Int) (w : World) (hw : WrAt T g base l w) (hg : g < base) (hb : base ≤ w.heap.size) (hl : l.length ≤ 1099511627776) (hB : isB l) :
    Calls Try.prog 31 #[.pointer (some ⟨g, 0, none⟩)] w fun e w' => ∃ v', e = .returned v' ∧ w'.ownsRow base 5 1 v' (l ++ sum4 (crcN l)).length (bytesV (l ++ sum4 (crcN l))) ∧ FrG base g w w' := by
  obtain ⟨v, hh, hown⟩ := hw
  obtain ⟨i0, hi, hz0, hz1, hz2⟩ := info_parts info5
  obtain ⟨A, cp, rfl, hcp, hr⟩ := own_row hown
  obtain ⟨hc, hf⟩ := wr_cell hh
  have hlt := wr_lt hh
  have HOWN := Sd.mk hown
  have HH := Sd.mk hh
  have HR := Sd.mk (one_part hr hcp)
  have HB := Sd.mk hB
  clear hown hh hr hB
  have HF := Sd.mk (show PrA.record_Sum.f (10 * ([l] : List (List Int)).flatten.length + 2 * ([l] : List (List Int)).length + 1) [l] = some (crcN l : Int) by
    have h := sum_f [l] (fun x hx => by rw [List.mem_singleton.1 hx]; exact ⟨HB.out, by omega⟩) (by simp)
    simpa using h)
  have hs0 : (0 : Int) ≤ (crcN l : Int) := by omega
  have hs1 : (crcN l : Int) < 4294967296 := by have := crcN_lt HB.out; omega
  generalize (crcN l : Int) = s at *
  go_enter Try.func31, Try.ntmps31
  go_wp2_with (fail)
  refine (PrA.record_Sum.calls _ _ _ [l] _ _ HR.out (by simp) HF.out).mono ?_
  rintro e w1 ⟨rfl, ⟨nd, rfl⟩⟩
  have HBel := Sd.mk (show Below w.heap.size w ((w.alloc (.cells #[.slice A l.length cp] 24)).drewN nd) from pw_below_drewN (below_alloc (Below.refl _ _) _) _)
  have HO1 := Sd.mk (own_block_move (w1 := (w.alloc (.cells #[.slice A l.length cp] 24)).drewN nd) HOWN.out (fun k hk => HBel.out.block k (own_lt HOWN.out k hk)))
  have hgs : g ≠ w.heap.size := by omega
  go_wp2_with (first
    | (at_builtin; refine wpList_append_own _ rfl _ _ 24 rfl base 5 i0 (.int .u8 0) 1 1 Try.underlying24 hi hz0 hz1 hz2 rfl (by decide) _ _ _ rfl (HO1.out.alloc _) ⟨w.heap.size + 1, 0, none⟩ 4 4 [.int .u8 (s % 256), .int .u8 (s / 256 % 256), .int .u8 (s / 65536 % 256), .int .u8 (s / 16777216)] rfl rfl ?c1 ?c2 ?c3 ?c4 ?c5 ?_))
  case c1 => exact World.news_of_block (cs := #[.int .u8 (s % 256), .int .u8 (s / 256 % 256), .int .u8 (s / 65536 % 256), .int .u8 (s / 16777216)]) (t := 5) (fr := (0, 0)) (by have h := heap_alloc_new ((w.alloc (.cells #[.slice A l.length cp] 24)).drewN nd) (.cells #[.int .u8 (s % 256), .int .u8 (s / 256 % 256), .int .u8 (s / 65536 % 256), .int .u8 (s / 16777216)] 5); rw [show ((w.alloc (.cells #[.slice A l.length cp] 24)).drewN nd).heap.size = w.heap.size + 1 by show (w.alloc (.cells #[.slice A l.length cp] 24)).heap.size = _; exact World.size_alloc _ _] at h; exact h)
  case c2 => intro u hu; simp at hu; rcases hu with rfl | rfl | rfl | rfl <;> rfl
  case c3 => unfold maxLen; omega
  case c4 => omega
  case c5 => have := HBel.out.size; simp at this ⊢; omega
  intro v' w1 hown' hgrow _
  have hlast : s / 16777216 = s / 16777216 % 256 := by omega
  have RR := Sd.mk (show w1.ownsRow base 5 1 v' (l ++ sum4 s).length (bytesV (l ++ sum4 s)) by
    rw [bytesV_app, List.length_append]
    unfold sum4
    rw [← hlast]
    exact hown')
  have FF := Sd.mk (show FrG base g w w1 by
    have hB2 := HBel.out
    refine ⟨hgrow.os.trans hB2.os, hgrow.tape.trans hB2.tape, hgrow.output.trans hB2.output, ?_, fun k hk hn => ?_⟩
    · have h1 := hgrow.size
      have h2 := hB2.size
      simp at h1 h2 ⊢
      omega
    · have h2 := hB2.size
      refine (hgrow.block k (by simp at h2 ⊢; omega) (fun e => by have := own_ge HOWN.out k e.symm; omega)).trans ?_
      rw [Below.heap_alloc _ _ _ (by simp at h2 ⊢; omega)]
      exact hB2.block k (by omega))
  clear hown' hgrow hlast
  obtain ⟨ao, cp', hv'⟩ := own_form RR.out
  subst hv'
  go_wp2
  go_ret
  exact ⟨_, rfl, RR.out, FF.out⟩
end Go.Proofs.Ytgnhadbadhgdgaa.Ext
