/- What the document's small functions of layer 10 answer: as the program's. No conditions. -/
import Derived.Test.YtapemeboobcgmaaDoorPrt5
import Derived.Test.YtapemeboobcgmaaDoorMathA
namespace Go.Proofs.YtapemeboobcgmaaDoor.Prt
open Go.RowKit Go.Proofs.YtapemeboobcgmaaDoorW.PrintWords Go.Proofs.YtapemeboobcgmaaDoorW.PrintLast Go.Proofs.YtapemeboobcgmaaDoorW.PrintMore

theorem refCheck (L I : Int) : trommelref10_Check.f L I = some (decide (isSpan L I)) := by
  unfold trommelref10_Check.f
  by_cases h0 : L ≥ 0
  · rw [if_pos h0]
    by_cases h1 : L ≤ 32
    · rw [if_pos h1]
      by_cases h2 : I ≥ 0
      · rw [if_pos h2, wrap_in (by omega : -9223372036854775808 ≤ 32 - L ∧ 32 - L ≤ 9223372036854775807), if_pos (by omega), shl_one _ (by omega) (by omega)]
        congr 1
        rw [decide_eq_decide]
        exact ⟨fun h => ⟨by omega, h1, by omega, h⟩, fun h => h.2.2.2⟩
      · rw [if_neg h2]
        congr 1; symm
        rw [decide_eq_false_iff_not]
        exact fun h => h2 h.2.2.1
    · rw [if_neg h1]
      congr 1; symm
      rw [decide_eq_false_iff_not]
      exact fun h => h1 h.2.1
  · rw [if_neg h0]
    congr 1; symm
    rw [decide_eq_false_iff_not]
    exact fun h => h0 h.1

theorem refBounds_yes {L I : Int} (h : isSpan L I) : trommelref10_Bounds.f L I = some (-2147483648 + I * 2 ^ L.toNat, -2147483648 + I * 2 ^ L.toNat + 2 ^ L.toNat - 1) := by
  have h5 := span_le h
  have h6 := span_index h
  unfold trommelref10_Bounds.f
  rw [refCheck, decide_eq_true h]
  simp only [Option.bind_some]
  rw [if_pos trivial, if_pos ⟨h.1, h.2.1, h.2.2.1, by omega, by omega⟩]
theorem refBounds_no {L I : Int} (h : ¬ isSpan L I) : trommelref10_Bounds.f L I = some (0, 0) := by
  unfold trommelref10_Bounds.f
  rw [refCheck, decide_eq_false h]; rfl
theorem refBounds_eq (L I : Int) : trommelref10_Bounds.f L I = span_Bounds.f L I := by
  by_cases h : isSpan L I
  · rw [refBounds_yes h, bounds_yes h]
  · rw [refBounds_no h, bounds_no h]
theorem refParent_eq (L I : Int) : trommelref10_Parent.f L I = span_Parent.f L I := by
  unfold trommelref10_Parent.f
  rw [refCheck]
  simp only [Option.bind_some]
  by_cases h : isSpan L I
  · rw [decide_eq_true h, if_pos rfl]
    by_cases h32 : L = 32
    · rw [if_pos h32, parent_no (.inr h32)]
    · have h1 := h.1
      have h2 := h.2.1
      have h3 := h.2.2.1
      have h4 := span_index h
      rw [if_neg h32, parent_yes h h32, wrap_in (by omega), Int.tdiv_eq_ediv_of_nonneg h3, wrap_in (by omega)]
  · rw [decide_eq_false h, if_neg (by decide), parent_no (.inl h)]
theorem refHas_eq (L I x : Int) : trommelref10_Has.f L I x = span_Has.f L I x := by
  unfold trommelref10_Has.f
  by_cases h : isSpan L I
  · rw [refBounds_yes h, refCheck, decide_eq_true h, has_yes x h]
    simp only [Option.bind_some]
    rw [if_pos trivial]
    by_cases g : -2147483648 + I * 2 ^ L.toNat ≤ x
    · rw [if_pos g]
      congr 1
      rw [decide_eq_decide]
      omega
    · rw [if_neg g]
      congr 1; symm
      rw [decide_eq_false_iff_not]
      omega
  · rw [refBounds_no h, refCheck, decide_eq_false h, has_no x h]; rfl
theorem check_some (L I : Int) : span_Check.f L I = some (if isSpan L I then 0 else 1) := by
  by_cases h : isSpan L I
  · rw [if_pos h, check_yes h]
  · rw [if_neg h, check_no h]
theorem bounds_some (L I : Int) : ∃ c d, span_Bounds.f L I = some (c, d) := by
  by_cases h : isSpan L I
  · exact ⟨_, _, bounds_yes h⟩
  · exact ⟨_, _, bounds_no h⟩
theorem parent_some (L I : Int) : ∃ a b c, span_Parent.f L I = some (a, b, c) := by
  by_cases h : ¬ isSpan L I ∨ L = 32
  · exact ⟨_, _, _, parent_no h⟩
  · rw [not_or, Decidable.not_not] at h
    exact ⟨_, _, _, parent_yes h.1 h.2⟩
theorem has_some' (L I x : Int) : ∃ b, span_Has.f L I x = some b := by
  by_cases h : isSpan L I
  · exact ⟨_, has_yes x h⟩
  · exact ⟨_, has_no x h⟩
end Go.Proofs.YtapemeboobcgmaaDoor.Prt
