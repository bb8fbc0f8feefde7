/- What the small functions of package span answer, in plain numbers. No conditions beyond those of each lemma. -/
import Derived.Test.YtapemeboobcgmaaDoorPrt2
import Derived.Lib.ItoaNum
namespace Go.Proofs.YtapemeboobcgmaaDoor.Prt
open Go.RowKit Go.Proofs.YtapemeboobcgmaaDoorW.PrintWords Go.Proofs.YtapemeboobcgmaaDoorW.PrintLast Go.Proofs.YtapemeboobcgmaaDoorW.PrintMore

/-- A span: a level and an index. -/
def isSpan (L I : Int) : Prop := 0 ≤ L ∧ L ≤ 32 ∧ 0 ≤ I ∧ I < 2 ^ (32 - L).toNat
instance (L I : Int) : Decidable (isSpan L I) := by unfold isSpan; infer_instance

theorem pow_le_32 (n : Nat) (h : n ≤ 32) : (1 : Int) ≤ 2 ^ n ∧ (2 : Int) ^ n ≤ 4294967296 := by
  constructor
  · have : 0 < (2 : Int) ^ n := Int.pow_pos (by decide)
    omega
  · have h1 : 2 ^ n ≤ 2 ^ 32 := Nat.pow_le_pow_right (by decide) h
    have h2 : ((2 ^ n : Nat) : Int) ≤ ((2 ^ 32 : Nat) : Int) := by exact_mod_cast h1
    simpa using h2

theorem wrap_i64 (x : Int) : IntKind.i64.wrap x = wrap64 x := i64_w x
theorem wrap_in {x : Int} (h : -9223372036854775808 ≤ x ∧ x ≤ 9223372036854775807) : wrap64 x = x := by unfold wrap64; omega

theorem shl_small' (x : Int) (n : Nat) (hn : n ≤ 64) (h : -9223372036854775808 ≤ x * 2 ^ n ∧ x * 2 ^ n ≤ 9223372036854775807) : shl .i64 x (n : Int) = x * 2 ^ n := by
  unfold shl
  rw [Int.toNat_natCast, wrap_i64, show IntKind.i64.bits = 64 from rfl, Nat.min_eq_left hn]
  exact wrap_in h

theorem shl_one (L : Int) (h0 : 0 ≤ L) (h1 : L ≤ 32) : shl .i64 1 L = 2 ^ L.toNat := by
  obtain ⟨n, rfl⟩ := Int.eq_ofNat_of_zero_le h0
  have hp := pow_le_32 n (by omega)
  rw [shl_small' 1 n (by omega) (by omega), Int.one_mul, Int.toNat_natCast]

theorem check_yes {L I : Int} (h : isSpan L I) : span_Check.f L I = some 0 := by
  obtain ⟨h0, h1, h2, h3⟩ := h
  unfold span_Check.f
  rw [wrap_in (by omega : -9223372036854775808 ≤ 32 - L ∧ 32 - L ≤ 9223372036854775807), shl_one _ (by omega) (by omega)]
  rw [if_neg (by omega), if_neg (by omega), if_neg (by omega), if_pos (by omega), if_neg (by omega)]

theorem check_no {L I : Int} (h : ¬ isSpan L I) : span_Check.f L I = some 1 := by
  unfold span_Check.f
  by_cases h0 : L < 0
  · rw [if_pos h0]
  rw [if_neg h0]
  by_cases h1 : L > 32
  · rw [if_pos h1]
  rw [if_neg h1]
  by_cases h2 : I < 0
  · rw [if_pos h2]
  rw [if_neg h2]
  rw [wrap_in (by omega : -9223372036854775808 ≤ 32 - L ∧ 32 - L ≤ 9223372036854775807), shl_one _ (by omega) (by omega)]
  rw [if_pos (by omega)]
  have : I ≥ 2 ^ (32 - L).toNat := by
    by_cases h3 : I ≥ 2 ^ (32 - L).toNat
    · exact h3
    · exact absurd ⟨by omega, by omega, by omega, by omega⟩ h
  rw [if_pos this]

/-- Where a span begins, counted from the least number on; how long it is. -/
theorem span_le {L I : Int} (h : isSpan L I) : 0 ≤ I * 2 ^ L.toNat ∧ I * 2 ^ L.toNat + 2 ^ L.toNat ≤ 4294967296 ∧ 1 ≤ (2 : Int) ^ L.toNat := by
  obtain ⟨h0, h1, h2, h3⟩ := h
  obtain ⟨n, rfl⟩ := Int.eq_ofNat_of_zero_le h0
  have hp := pow_le_32 n (by omega)
  rw [Int.toNat_natCast]
  have e : (2 : Int) ^ (32 - (n : Int)).toNat * 2 ^ n = 4294967296 := by
    rw [← Int.pow_add, show (32 - (n : Int)).toNat + n = 32 by omega]; rfl
  have hm : (I + 1) * 2 ^ n ≤ 2 ^ (32 - (n : Int)).toNat * 2 ^ n := Int.mul_le_mul_of_nonneg_right (by omega) (by omega)
  have h4 : 0 ≤ I * 2 ^ n := Int.mul_nonneg h2 (by omega)
  rw [e, Int.add_mul] at hm
  omega

theorem span_index {L I : Int} (h : isSpan L I) : I < 4294967296 := by
  obtain ⟨h0, h1, h2, h3⟩ := h
  have hp := pow_le_32 (32 - L).toNat (by omega)
  have := span_le ⟨h0, h1, h2, h3⟩
  rcases Nat.lt_or_ge (32 - L).toNat 33 with h | h
  · omega
  · omega

theorem shl_span {L I : Int} (h : isSpan L I) : shl .i64 I L = I * 2 ^ L.toNat := by
  have h5 := span_le h
  obtain ⟨h0, h1, h2, h3⟩ := h
  obtain ⟨n, rfl⟩ := Int.eq_ofNat_of_zero_le h0
  rw [Int.toNat_natCast] at h5 ⊢
  exact shl_small' I n (by omega) (by omega)

theorem bounds_yes {L I : Int} (h : isSpan L I) : span_Bounds.f L I = some (-2147483648 + I * 2 ^ L.toNat, -2147483648 + I * 2 ^ L.toNat + 2 ^ L.toNat - 1) := by
  unfold span_Bounds.f
  rw [check_yes h]
  simp only [Option.bind_some]
  rw [if_pos trivial, if_pos h.1, shl_span h, shl_one _ h.1 h.2.1]
  have h5 := span_le h
  rw [wrap_in (x := -2147483648 + I * 2 ^ L.toNat) (by omega), wrap_in (x := -2147483648 + I * 2 ^ L.toNat + 2 ^ L.toNat) (by omega), wrap_in (by omega)]

theorem bounds_no {L I : Int} (h : ¬ isSpan L I) : span_Bounds.f L I = some (0, 0) := by
  unfold span_Bounds.f
  rw [check_no h]; rfl

theorem parent_no {L I : Int} (h : ¬ isSpan L I ∨ L = 32) : span_Parent.f L I = some (0, 0, false) := by
  unfold span_Parent.f
  by_cases hs : isSpan L I
  · rw [check_yes hs]
    simp only [Option.bind_some]
    rcases h with h | h
    · exact absurd hs h
    · rw [if_pos trivial, if_pos h]
  · rw [check_no hs]; rfl

theorem parent_yes {L I : Int} (h : isSpan L I) (hL : L ≠ 32) : span_Parent.f L I = some (L + 1, I / 2, true) := by
  unfold span_Parent.f
  rw [check_yes h]
  simp only [Option.bind_some]
  rw [if_pos trivial, if_neg hL, wrap_in]
  have := h.1; have := h.2.1
  omega

theorem parent_span {L I : Int} (h : isSpan L I) (hL : L ≠ 32) : isSpan (L + 1) (I / 2) := by
  obtain ⟨h0, h1, h2, h3⟩ := h
  refine ⟨by omega, by omega, by omega, ?_⟩
  have e : (2 : Int) ^ (32 - L).toNat = 2 ^ (32 - (L + 1)).toNat * 2 := by
    rw [← Int.pow_succ]; congr 1; omega
  omega

theorem at_some {x L : Int} (hx0 : -2147483648 ≤ x) (hx1 : x ≤ 2147483647) (h0 : 0 ≤ L) (h1 : L ≤ 64) : span_at.f x L = some (L, (x + 2147483648) / 2 ^ L.toNat) := by
  unfold span_at.f
  rw [if_pos h0, wrap_in (by omega), Nat.min_eq_left (by omega)]

theorem has_no {L I : Int} (x : Int) (h : ¬ isSpan L I) : span_Has.f L I x = some false := by
  unfold span_Has.f
  rw [check_no h]; rfl

theorem within_some (x : Int) : span_within.f x = some (decide (-2147483648 ≤ x ∧ x ≤ 2147483647)) := by
  unfold span_within.f
  by_cases h : x ≥ -2147483648
  · rw [if_pos h]
    have h' : -2147483648 ≤ x := h
    simp [h']
  · rw [if_neg h]
    have h' : ¬ -2147483648 ≤ x := h
    simp [h']

/-- A span has a number just if that lies between its bounds. -/
theorem has_yes {L I : Int} (x : Int) (h : isSpan L I) : span_Has.f L I x = some (decide (-2147483648 + I * 2 ^ L.toNat ≤ x ∧ x < -2147483648 + I * 2 ^ L.toNat + 2 ^ L.toNat)) := by
  have h5 := span_le h
  unfold span_Has.f
  rw [check_yes h]
  simp only [Option.bind_some]
  rw [if_pos trivial, within_some]
  simp only [Option.bind_some]
  by_cases hw : -2147483648 ≤ x ∧ x ≤ 2147483647
  · rw [if_pos (decide_eq_true hw), at_some hw.1 hw.2 h.1 (by have := h.2.1; omega)]
    simp only [Option.bind_some, beq_self_eq_true, Bool.true_and]
    congr 1
    rw [Bool.eq_iff_iff, beq_iff_eq, decide_eq_true_iff]
    generalize hq : (2 : Int) ^ L.toNat = q at *
    constructor
    · rintro rfl
      have h6 := Int.mul_ediv_add_emod (x + 2147483648) q
      have h7 := Int.emod_nonneg (x + 2147483648) (show q ≠ 0 by omega)
      have h8 := Int.emod_lt_of_pos (x + 2147483648) (show 0 < q by omega)
      rw [Int.mul_comm] at h6
      omega
    · rintro ⟨h6, h7⟩
      have h8 : (x + 2147483648) = (x + 2147483648 - I * q) + I * q := by omega
      rw [h8, Int.add_mul_ediv_right _ _ (show q ≠ 0 by omega), Int.ediv_eq_zero_of_lt (by omega) (by omega)]
      omega
  · rw [if_neg (by rw [decide_eq_true_iff]; exact hw)]
    congr 1
    symm
    rw [decide_eq_false_iff_not]
    omega
end Go.Proofs.YtapemeboobcgmaaDoor.Prt
