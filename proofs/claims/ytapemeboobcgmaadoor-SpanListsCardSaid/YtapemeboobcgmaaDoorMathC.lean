/- span.Cover answers the greedy cut; span.Path answers the spans of a number. Conditions: none but the bounds in each lemma. -/
import Derived.Test.YtapemeboobcgmaaDoorMathB
namespace Go.Proofs.YtapemeboobcgmaaDoor.Prt
open Go.RowKit Go.Proofs.YtapemeboobcgmaaDoorW.PrintWords Go.Proofs.YtapemeboobcgmaaDoorW.PrintLast Go.Proofs.YtapemeboobcgmaaDoorW.PrintMore

def toS (x : Nat × Nat) : S23 := ⟨(x.1 : Int), (x.2 : Int) / 2 ^ x.1⟩

theorem wrap_u64_in {x : Int} (h : 0 ≤ x ∧ x ≤ 18446744073709551615) : IntKind.u64.wrap x = x := by rw [IntKind.wrap_u64]; omega

theorem mn_cast (a b : Nat) : mn (a : Int) (b : Int) = ((min a b : Nat) : Int) := by
  unfold mn
  by_cases h : b < a
  · rw [if_pos (by omega), Nat.min_eq_right (by omega)]
  · rw [if_neg (by omega), Nat.min_eq_left (by omega)]

theorem pow_cast (n : Nat) : ((2 ^ n : Nat) : Int) = (2 : Int) ^ n := by simp

theorem cover_l0 : ∀ {a n : Nat} {L : List (Nat × Nat)}, Cov a n L → a + n ≤ 4294967296 → ∀ (k : Nat) (acc : List S23), L.length < k → acc.length + L.length < 8796093022208 →
    span_Cover.l0 k ((a : Int) - 2147483648) ((a : Int) + n - 1 - 2147483648) acc = some (acc ++ L.map toS) := by
  intro a n L hc
  induction hc with
  | nil a =>
    intro _ k acc hk _
    obtain ⟨k, rfl⟩ : ∃ m, k = m + 1 := ⟨k - 1, by omega⟩
    simp only [span_Cover.l0]
    rw [if_neg (by omega)]
    simp
  | cons a n L h0 _ ih =>
    intro ha k acc hk hl
    obtain ⟨k, rfl⟩ : ∃ m, k = m + 1 := ⟨k - 1, by omega⟩
    obtain ⟨s1, _, s3, _⟩ := tzA_spec a (by omega)
    obtain ⟨h1, h2, h3, h4⟩ := lgN_spec n h0 (by omega)
    have hm := pow_min_le (a := a) h0 (by omega)
    have hp := Nat.two_pow_pos (min (tzA a) (lgN n))
    simp only [List.length_cons] at hk hl
    have hT : bits_TrailingZeros64.f (Go.bits .or .u64 (IntKind.u64.wrap (wrap64 ((a : Int) - 2147483648 - -2147483648))) 4294967296) = some (tzA a : Int) := by
      rw [wrap_in (by omega), wrap_u64_in (by omega), show (a : Int) - 2147483648 - -2147483648 = (a : Int) by omega, show (4294967296 : Int) = ((4294967296 : Nat) : Int) from rfl, bits_or_u64_nat a 4294967296 (by omega) (by decide)]
      have hb : a ||| 4294967296 < 2 ^ 64 := Nat.or_lt_two_pow (by omega) (by decide)
      unfold bits_TrailingZeros64.f tzA
      rw [if_pos (by omega), if_pos (by omega), Int.toNat_natCast]
    have hL : bits_Len64.f (IntKind.u64.wrap (wrap64 (wrap64 ((a : Int) + n - 1 - 2147483648 - ((a : Int) - 2147483648)) + 1))) = some ((lgN n + 1 : Nat) : Int) := by
      rw [wrap_in (x := (a : Int) + n - 1 - 2147483648 - ((a : Int) - 2147483648)) (by omega), wrap_in (by omega), wrap_u64_in (by omega), show (a : Int) + n - 1 - 2147483648 - ((a : Int) - 2147483648) + 1 = (n : Int) by omega]
      unfold bits_Len64.f
      rw [if_pos (by omega), if_pos (by omega), Int.toNat_natCast, h4]
    simp only [span_Cover.l0]
    rw [if_pos (by omega), hT]
    simp only [Option.bind_some]
    rw [hL]
    simp only [Option.bind_some]
    rw [show wrap64 (((lgN n + 1 : Nat) : Int) - 1) = ((lgN n : Nat) : Int) by unfold wrap64; omega, mn_cast]
    have ih' := ih (by omega) k (acc ++ [toS (min (tzA a) (lgN n), a)]) (by omega) (by simp; omega)
    have hle : min (tzA a) (lgN n) ≤ 32 := by omega
    generalize min (tzA a) (lgN n) = l at *
    rw [at_some (by omega) (by omega) (by omega) (by omega)]
    simp only [Option.bind_some]
    rw [if_pos (by omega), if_pos (by omega), shl_one (l : Int) (by omega) (by omega), Int.toNat_natCast]
    have hc1 : wrap64 ((a : Int) - 2147483648 + 2 ^ l) = ((a + 2 ^ l : Nat) : Int) - 2147483648 := by
      rw [← pow_cast, wrap_in (by omega)]; omega
    have hc2 : ((a + 2 ^ l : Nat) : Int) + ((n - 2 ^ l : Nat) : Int) - 1 - 2147483648 = (a : Int) + n - 1 - 2147483648 := by omega
    rw [hc1, ← hc2]
    have hs : (⟨(l : Int), ((a : Int) - 2147483648 + 2147483648) / 2 ^ l⟩ : S23) = toS (l, a) := by
      unfold toS
      rw [show (a : Int) - 2147483648 + 2147483648 = (a : Int) by omega]
    rw [hs, ih']
    simp

/-- The bounds that Cover goes by. -/
theorem mx_lo (x : Int) : mx x (-2147483648) = max x (-2147483648) := by unfold mx; omega
theorem mn_hi (x : Int) : mn x 2147483647 = min x 2147483647 := by unfold mn; omega

theorem cover_none (k : Nat) (lo hi : Int) (hk : 0 < k) (h : max lo (-2147483648) > min hi 2147483647) : span_Cover.f k lo hi = some [] := by
  obtain ⟨k, rfl⟩ : ∃ m, k = m + 1 := ⟨k - 1, by omega⟩
  unfold span_Cover.f
  rw [mx_lo, mn_hi]
  simp only [span_Cover.l0]
  rw [if_neg (by omega)]

theorem cover_some (k : Nat) (lo hi : Int) (hk : 62 < k) (h : ¬ max lo (-2147483648) > min hi 2147483647) : ∃ (a n : Nat) (L : List (Nat × Nat)), (a : Int) = max lo (-2147483648) + 2147483648 ∧ (n : Int) = min hi 2147483647 - max lo (-2147483648) + 1 ∧ 0 < n ∧ a + n ≤ 4294967296 ∧ Cov a n L ∧ span_Cover.f k lo hi = some (L.map toS) := by
  obtain ⟨a, ha⟩ := Int.eq_ofNat_of_zero_le (show 0 ≤ max lo (-2147483648) + 2147483648 by omega)
  obtain ⟨n, hn⟩ := Int.eq_ofNat_of_zero_le (show 0 ≤ min hi 2147483647 - max lo (-2147483648) + 1 by omega)
  obtain ⟨L, hL⟩ := cov_exists n a (by omega)
  refine ⟨a, n, L, by omega, by omega, by omega, by omega, hL, ?_⟩
  have hlen := cov_len hL (by omega) (by omega)
  have := cover_l0 hL (by omega) k [] (by omega) (by simp; omega)
  unfold span_Cover.f
  rw [mx_lo, mn_hi, show max lo (-2147483648) = (a : Int) - 2147483648 by omega, show min hi 2147483647 = (a : Int) + n - 1 - 2147483648 by omega, this]
  simp

theorem chain_span {E a l : Nat} (hl : l ≤ 32) (hm : a % 2 ^ l = 0) (hE : a + 2 ^ l ≤ E) (hE2 : E ≤ 4294967296) : isSpan (l : Int) ((a : Int) / 2 ^ l) := by
  obtain ⟨q, rfl⟩ : ∃ q, a = 2 ^ l * q := ⟨a / 2 ^ l, (Nat.mul_div_cancel' (Nat.dvd_of_mod_eq_zero hm)).symm⟩
  have hp := Nat.two_pow_pos l
  have e : ((2 ^ l * q : Nat) : Int) / 2 ^ l = (q : Int) := by
    rw [← pow_cast, ← Int.natCast_ediv, Nat.mul_div_cancel_left _ hp]
  rw [e]
  refine ⟨by omega, by omega, by omega, ?_⟩
  have h1 : 2 ^ l * (q + 1) ≤ 2 ^ l * 2 ^ (32 - l) := by
    rw [← Nat.pow_add, show l + (32 - l) = 32 by omega, Nat.mul_add, Nat.mul_one]
    exact Nat.le_trans hE hE2
  have h2 := Nat.le_of_mul_le_mul_left h1 hp
  have h3 : (q : Int) < ((2 ^ (32 - l) : Nat) : Int) := by omega
  rw [pow_cast] at h3
  rw [show (32 - (l : Int)).toNat = 32 - l by omega]
  exact h3

theorem chain_mul {a l : Nat} (hm : a % 2 ^ l = 0) : (a : Int) / 2 ^ l * 2 ^ l = (a : Int) := by
  rw [← pow_cast]
  have : (2 ^ l : Nat) ∣ a := Nat.dvd_of_mod_eq_zero hm
  exact Int.ediv_mul_cancel (by exact_mod_cast this)
end Go.Proofs.YtapemeboobcgmaaDoor.Prt
