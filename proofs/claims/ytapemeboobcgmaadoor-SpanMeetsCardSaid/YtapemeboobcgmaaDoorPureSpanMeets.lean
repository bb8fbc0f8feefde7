/- SpanMeets in plain numbers: spans that meet lie one within the other, on the way up. Conditions: none. -/
import Derived.Test.YtapemeboobcgmaaDoorPrt9
import Derived.Test.YtapemeboobcgmaaDoorMathA
import Derived.Test.YtapemeboobcgmaaDoorMathFix
namespace Go.Proofs.YtapemeboobcgmaaDoor.Prt
open Go.RowKit Go.Proofs.YtapemeboobcgmaaDoorW.PrintWords Go.Proofs.YtapemeboobcgmaaDoorW.PrintLast Go.Proofs.YtapemeboobcgmaaDoorW.PrintMore

/-- The way up. -/
theorem meets_l0 (a b c d Lt It : Int) : ∀ (n k : Nat) (L I : Int), isSpan L I → Lt - L = n → Lt ≤ 32 → n < k →
    ∃ k' J, 0 < k' ∧ J = I / 2 ^ n ∧ trommellaw10_SpanMeets.l0 k a b c d Lt It L I = trommellaw10_SpanMeets.l0 k' a b c d Lt It Lt J := by
  intro n
  induction n with
  | zero =>
    intro k L I _ hn _ hk
    exact ⟨k, I, hk, by simp, by rw [show L = Lt by omega]⟩
  | succ n ih =>
    intro k L I hs hn h32 hk
    obtain ⟨k, rfl⟩ : ∃ m, k = m + 1 := ⟨k - 1, by omega⟩
    have h0 := hs.1
    obtain ⟨k', J, hk', hJ, e⟩ := ih k (L + 1) (I / 2) (parent_span hs (by omega)) (by omega) h32 (by omega)
    refine ⟨k', J, hk', ?_, ?_⟩
    · rw [hJ, Int.ediv_ediv_of_nonneg (by decide), Int.pow_succ, Int.mul_comm]
    · rw [trommellaw10_SpanMeets.l0, if_pos (by omega), parent_yes hs (by omega)]
      simp only [Option.bind_some]
      rw [if_pos trivial, wrap_in (by omega), if_pos rfl, e]

theorem meets_arith {Is It q r : Int} (hq : 1 ≤ q) (hr : 1 ≤ r) :
    (Is / r = It ∧ It * (q * r) ≤ Is * q ∧ Is * q + q ≤ It * (q * r) + q * r) ∨ (Is / r ≠ It ∧ (Is * q + q ≤ It * (q * r) ∨ It * (q * r) + q * r ≤ Is * q)) := by
  have h6 := Int.mul_ediv_add_emod Is r
  have h7 := Int.emod_nonneg Is (show r ≠ 0 by omega)
  have h8 := Int.emod_lt_of_pos Is (show 0 < r by omega)
  by_cases h : Is / r = It
  · left
    rw [h] at h6
    refine ⟨h, ?_, ?_⟩
    · have : (It * r) * q ≤ Is * q := Int.mul_le_mul_of_nonneg_right (by rw [Int.mul_comm]; omega) (by omega)
      rw [Int.mul_comm q r, ← Int.mul_assoc]; exact this
    · have : (Is + 1) * q ≤ (It * r + r) * q := Int.mul_le_mul_of_nonneg_right (by rw [Int.mul_comm It]; omega) (by omega)
      rw [Int.add_mul, Int.add_mul, Int.one_mul] at this
      rw [Int.mul_comm q r, ← Int.mul_assoc]; exact this
  · right
    refine ⟨h, ?_⟩
    rcases Int.lt_or_gt_of_ne h with hlt | hgt
    · left
      have h1 : r * (Is / r) + r ≤ r * It := by
        have : r * (Is / r + 1) ≤ r * It := Int.mul_le_mul_of_nonneg_left (by omega) (by omega)
        rw [Int.mul_add, Int.mul_one] at this; exact this
      have : (Is + 1) * q ≤ (It * r) * q := Int.mul_le_mul_of_nonneg_right (by rw [Int.mul_comm It]; omega) (by omega)
      rw [Int.add_mul, Int.one_mul] at this
      rw [Int.mul_comm q r, ← Int.mul_assoc]; exact this
    · right
      have h1 : r * It + r ≤ r * (Is / r) := by
        have : r * (It + 1) ≤ r * (Is / r) := Int.mul_le_mul_of_nonneg_left (by omega) (by omega)
        rw [Int.mul_add, Int.mul_one] at this; exact this
      have : (It * r + r) * q ≤ Is * q := Int.mul_le_mul_of_nonneg_right (by rw [Int.mul_comm It]; omega) (by omega)
      rw [Int.add_mul] at this
      rw [Int.mul_comm q r, ← Int.mul_assoc]; exact this

theorem meets_j1 (k : Nat) (hk : 60 < k) (Ls Is Lt It : Int) (hs : isSpan Ls Is) (ht : isSpan Lt It) (hle : Ls ≤ Lt) :
    trommellaw10_SpanMeets.j1 k Ls Is Lt It = some true := by
  obtain ⟨k, rfl⟩ : ∃ m, k = m + 1 + 1 := ⟨k - 2, by omega⟩
  have g1 := span_le hs
  have g2 := span_le ht
  obtain ⟨ns, rfl⟩ := Int.eq_ofNat_of_zero_le hs.1
  obtain ⟨nt, rfl⟩ := Int.eq_ofNat_of_zero_le ht.1
  have b1 := hs.2.1
  have b2 := ht.2.1
  have p1 := pow_le_32 ns (by omega)
  have p2 := pow_le_32 nt (by omega)
  obtain ⟨d, rfl⟩ : ∃ d, nt = ns + d := ⟨nt - ns, by omega⟩
  rw [trommellaw10_SpanMeets.j1, bounds_yes hs, bounds_yes ht]
  simp only [Option.bind_some]
  rw [shl_one _ hs.1 b1, shl_one _ ht.1 b2]
  simp only [Int.toNat_natCast] at g1 g2 ⊢
  have harith := meets_arith (Is := Is) (It := It) (q := 2 ^ ns) (r := 2 ^ d) p1.1 (pow_le_32 d (by omega)).1
  rw [← Int.pow_add] at harith
  have hH : ∀ x, span_Has.f (ns : Int) Is x = some (decide (-2147483648 + Is * 2 ^ ns ≤ x ∧ x < -2147483648 + Is * 2 ^ ns + 2 ^ ns)) := by
    intro x
    have := has_yes x hs
    simpa only [Int.toNat_natCast] using this
  obtain ⟨k', J, hk', hJ, e⟩ := meets_l0 (-2147483648 + Is * 2 ^ ns) (-2147483648 + Is * 2 ^ ns + 2 ^ ns - 1) (-2147483648 + It * 2 ^ (ns + d)) (-2147483648 + It * 2 ^ (ns + d) + 2 ^ (ns + d) - 1) ((ns + d : Nat) : Int) It d k (ns : Int) Is hs (by omega) (by omega) (by omega)
  subst hJ
  generalize (2 : Int) ^ (ns + d) = Q at *
  generalize (2 : Int) ^ ns = q at *
  generalize It * Q = c at *
  generalize Is * q = a at *
  rw [if_pos (by omega), wrap_in (x := -2147483648 + a + q - 1 - (-2147483648 + a)) (by omega), wrap_in (x := -2147483648 + a + q - 1 - (-2147483648 + a) + 1) (by omega), if_pos (by omega), if_pos (by omega),
    wrap_in (x := -2147483648 + c + Q - 1 - (-2147483648 + c)) (by omega), wrap_in (x := -2147483648 + c + Q - 1 - (-2147483648 + c) + 1) (by omega), if_pos (by omega)]
  rw [hH]
  simp only [Option.bind_some]
  rw [decide_eq_true (by omega), if_pos rfl, hH]
  simp only [Option.bind_some]
  rw [decide_eq_true (by omega), if_pos rfl, hH]
  simp only [Option.bind_some]
  rw [wrap_in (x := -2147483648 + a - 1) (by omega), decide_eq_false (by omega), if_neg (by decide), hH]
  simp only [Option.bind_some]
  rw [wrap_in (x := -2147483648 + a + q - 1 + 1) (by omega), decide_eq_false (by omega)]
  rw [trommellaw10_SpanMeets.j2, if_neg (by decide), e]
  obtain ⟨k', rfl⟩ : ∃ m, k' = m + 1 := ⟨k' - 1, by omega⟩
  rw [trommellaw10_SpanMeets.l0, if_neg (by omega)]
  rcases harith with ⟨h1, h2, h3⟩ | ⟨h1, h2⟩
  · rw [h1]
    simp only [beq_self_eq_true, Bool.and_self]
    rw [if_pos (by omega), decide_eq_true (by omega), if_pos (by rfl), if_pos (by omega), if_pos (by omega), decide_eq_true (by omega)]
  · rw [beq_eq_false_iff_ne.2 h1, Bool.and_false]
    by_cases hc : -2147483648 + a ≤ -2147483648 + c + Q - 1
    · rw [if_pos hc, decide_eq_false (by omega), if_pos (by rfl), if_neg (by omega)]
    · rw [if_neg hc, if_pos (by rfl)]

theorem SpanMeets_pure (a00 a01 a10 a11 : Int) (_w0 : (Lit.int .i64 a00).wf = true) (_w1 : (Lit.int .i64 a01).wf = true) (_w2 : (Lit.int .i64 a10).wf = true) (_w3 : (Lit.int .i64 a11).wf = true) : ∃ k, trommellaw10_SpanMeets.f k a00 a01 a10 a11 = some true := by
  refine ⟨200, ?_⟩
  unfold trommellaw10_SpanMeets.f
  rw [fixed_ge (by decide)]
  simp only [Option.bind_some]
  rw [if_pos trivial]
  by_cases hs : isSpan a00 a01
  · rw [check_yes hs]
    simp only [Option.bind_some]
    rw [if_pos trivial]
    by_cases ht : isSpan a10 a11
    · rw [check_yes ht]
      simp only [Option.bind_some]
      rw [trommellaw10_SpanMeets.j0, if_neg (by decide)]
      by_cases hgt : a00 > a10
      · rw [if_pos hgt]
        exact meets_j1 199 (by decide) _ _ _ _ ht hs (by omega)
      · rw [if_neg hgt]
        exact meets_j1 199 (by decide) _ _ _ _ hs ht (by omega)
    · rw [check_no ht]; rfl
  · rw [check_no hs]; rfl
end Go.Proofs.YtapemeboobcgmaaDoor.Prt
