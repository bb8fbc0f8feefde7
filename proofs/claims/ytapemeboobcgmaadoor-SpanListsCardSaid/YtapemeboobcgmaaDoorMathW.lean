/- Cover and Path in plain numbers: the greedy cut is the one from the top down; the path is the one from the bottom up. Conditions: none. -/
import Derived.Test.YtapemeboobcgmaaDoorMathC
import Derived.Test.YtapemeboobcgmaaDoorMathD
import Derived.Test.YtapemeboobcgmaaDoorMathE
import Derived.Test.YtapemeboobcgmaaDoorPrt6
namespace Go.Proofs.YtapemeboobcgmaaDoor.Prt
open Go.RowKit Go.Proofs.YtapemeboobcgmaaDoorW.PrintWords Go.Proofs.YtapemeboobcgmaaDoorW.PrintLast Go.Proofs.YtapemeboobcgmaaDoorW.PrintMore

theorem lgN_is {n j : Nat} (h0 : 2 ^ j ≤ n) (h1 : n < 2 ^ (j + 1)) (hn : n ≤ 4294967296) : lgN n = j := by
  have hp := Nat.two_pow_pos j
  obtain ⟨g0, g1, _, _⟩ := lgN_spec n (by omega) hn
  have h2 : j < lgN n + 1 := lt_of_pow (Nat.lt_of_le_of_lt h0 g1)
  have h3 : lgN n < j + 1 := lt_of_pow (Nat.lt_of_le_of_lt g0 h1)
  omega
theorem lgN_ge {n j : Nat} (h0 : 2 ^ j ≤ n) (hn : n ≤ 4294967296) : j ≤ lgN n := by
  have hp := Nat.two_pow_pos j
  obtain ⟨g0, g1, _, _⟩ := lgN_spec n (by omega) hn
  have h2 : j < lgN n + 1 := lt_of_pow (Nat.lt_of_le_of_lt h0 g1)
  omega
theorem tz_ge {t q : Nat} (ht : t ≤ 32) (h : q * 2 ^ t < 4294967296) : t ≤ tzA (q * 2 ^ t) := by
  obtain ⟨h1, h2, h3, r, hr, hodd⟩ := tzA_spec (q * 2 ^ t) h
  generalize tzA (q * 2 ^ t) = z at *
  by_cases hz : z < t
  · exfalso
    have ho := hodd (by omega)
    obtain ⟨d, rfl⟩ : ∃ d, t = z + 1 + d := ⟨t - z - 1, by omega⟩
    have e : q * 2 ^ (z + 1 + d) = (q * 2 ^ d * 2) * 2 ^ z := by
      rw [Nat.pow_add, Nat.pow_succ]; simp [Nat.mul_assoc, Nat.mul_comm, Nat.mul_left_comm]
    rw [e] at hr
    have hp := Nat.two_pow_pos z
    have := Nat.eq_of_mul_eq_mul_right hp hr
    omega
  · omega
/-- Twos of a number that lies strictly between a multiple of 2^(u+1) and the middle behind it. -/
theorem tz_mid {u q a : Nat} (hu : u ≤ 31) (h0 : q * 2 ^ (u + 1) < a) (h1 : a < q * 2 ^ (u + 1) + 2 ^ u) (ha : a < 4294967296) : 2 ^ tzA a ≤ q * 2 ^ (u + 1) + 2 ^ u - a := by
  obtain ⟨_, _, _, r, hr, _⟩ := tzA_spec a ha
  generalize tzA a = z at *
  have hz : z < u := by
    rcases Nat.lt_or_ge z u with h | h
    · exact h
    · exfalso
      obtain ⟨d, rfl⟩ : ∃ d, z = u + d := ⟨z - u, by omega⟩
      have hp := Nat.two_pow_pos u
      have e : a = (r * 2 ^ d) * 2 ^ u := by rw [hr, Nat.pow_add]; simp [Nat.mul_assoc, Nat.mul_comm, Nat.mul_left_comm]
      have e2 : q * 2 ^ (u + 1) = (q * 2) * 2 ^ u := by rw [Nat.pow_succ]; simp [Nat.mul_assoc, Nat.mul_comm]
      rw [e, e2] at h0
      rw [e, e2, show q * 2 * 2 ^ u + 2 ^ u = (q * 2 + 1) * 2 ^ u by rw [Nat.add_mul, Nat.one_mul]] at h1
      have g0 := Nat.lt_of_mul_lt_mul_right h0
      have g1 := Nat.lt_of_mul_lt_mul_right h1
      omega
  obtain ⟨d, rfl⟩ : ∃ d, u = z + d := ⟨u - z, by omega⟩
  have hp := Nat.two_pow_pos z
  have e2 : q * 2 ^ (z + d + 1) + 2 ^ (z + d) = (q * 2 * 2 ^ d + 2 ^ d) * 2 ^ z := by
    rw [Nat.pow_succ, Nat.pow_add, Nat.add_mul]; simp [Nat.mul_assoc, Nat.mul_comm, Nat.mul_left_comm]
  rw [hr, e2] at h1 ⊢
  have g1 := Nat.lt_of_mul_lt_mul_right h1
  rw [← Nat.sub_mul]
  exact Nat.le_mul_of_pos_left _ (by omega)

/-- The cut at the middle of a node. -/
theorem cov_split {u q e : Nat} (hu : u ≤ 31) (he : e ≤ q * 2 ^ (u + 1) + 2 ^ (u + 1)) (hE : e ≤ 4294967296) (hm : q * 2 ^ (u + 1) + 2 ^ u < e) {L2 : List (Nat × Nat)} (h2 : Cov (q * 2 ^ (u + 1) + 2 ^ u) (e - (q * 2 ^ (u + 1) + 2 ^ u)) L2) :
    ∀ {a n : Nat} {L1 : List (Nat × Nat)}, Cov a n L1 → a + n = q * 2 ^ (u + 1) + 2 ^ u → q * 2 ^ (u + 1) ≤ a → (a = q * 2 ^ (u + 1) → e < q * 2 ^ (u + 1) + 2 ^ (u + 1)) → Cov a (e - a) (L1 ++ L2) := by
  intro a n L1 h1
  induction h1 with
  | nil a =>
    intro ha _ _
    obtain rfl : a = q * 2 ^ (u + 1) + 2 ^ u := by omega
    exact h2
  | cons a n L h0 hc ih =>
    intro ha hs hfull
    have hp := Nat.two_pow_pos u
    have key : min (tzA a) (lgN n) = min (tzA a) (lgN (e - a)) := by
      rcases Nat.eq_or_lt_of_le hs with rfl | hlt
      · have hz := tz_ge (t := u + 1) (q := q) (by omega) (by omega)
        have e1 := hfull rfl
        rw [lgN_is (n := n) (j := u) (by omega) (by rw [Nat.pow_succ]; omega) (by omega), lgN_is (n := e - q * 2 ^ (u + 1)) (j := u) (by omega) (by omega) (by omega)]
      · have hz := tz_mid hu hlt (by omega) (by omega)
        have g1 := lgN_ge (n := n) (j := tzA a) (by omega) (by omega)
        have g2 := lgN_ge (n := e - a) (j := tzA a) (by omega) (by omega)
        omega
    have hle := pow_min_le (a := a) h0 (by omega)
    have hpos := Nat.two_pow_pos (min (tzA a) (lgN n))
    have ih' := ih (by omega) (by omega) (by omega)
    have hstep := Cov.cons a (e - a) (L ++ L2) (by omega) (by rw [← key, Nat.sub_sub]; exact ih')
    rw [← key] at hstep
    exact hstep
theorem cov_full {t q : Nat} (ht : t ≤ 32) (h : q * 2 ^ t + 2 ^ t ≤ 4294967296) : Cov (q * 2 ^ t) (2 ^ t) [(t, q * 2 ^ t)] := by
  have hp := Nat.two_pow_pos t
  have hz := tz_ge (t := t) (q := q) ht (by omega)
  have hl := lgN_is (n := 2 ^ t) (j := t) (Nat.le_refl _) (by rw [Nat.pow_succ]; omega) (by omega)
  have hmin : min (tzA (q * 2 ^ t)) (lgN (2 ^ t)) = t := by omega
  have := Cov.cons (q * 2 ^ t) (2 ^ t) [] (by omega) (by rw [hmin, Nat.sub_self]; exact .nil _)
  rw [hmin] at this
  exact this

theorem node_span {t q : Nat} (ht : t ≤ 32) (h : q * 2 ^ t + 2 ^ t ≤ 4294967296) : isSpan (t : Int) (q : Int) := by
  have hp := Nat.two_pow_pos t
  have h1 := chain_span (E := 4294967296) ht (Nat.mul_mod_left q (2 ^ t)) h (by omega)
  have e : ((q * 2 ^ t : Nat) : Int) / 2 ^ t = (q : Int) := by
    rw [← pow_cast, ← Int.natCast_ediv, Nat.mul_div_cancel _ hp]
  rw [e] at h1
  exact h1
theorem toS_node (t q : Nat) : toS (t, q * 2 ^ t) = ⟨(t : Int), (q : Int)⟩ := by
  unfold toS
  have hp := Nat.two_pow_pos t
  simp only
  rw [← pow_cast, ← Int.natCast_ediv, Nat.mul_div_cancel _ hp]
theorem node_bounds {t q : Nat} (ht : t ≤ 32) (h : q * 2 ^ t + 2 ^ t ≤ 4294967296) : trommelref10_Bounds.f t q = some (((q * 2 ^ t : Nat) : Int) - 2147483648, ((q * 2 ^ t + 2 ^ t : Nat) : Int) - 1 - 2147483648) := by
  rw [refBounds_yes (node_span ht h), Int.toNat_natCast, ← pow_cast, ← Int.natCast_mul]
  congr 2 <;> omega

theorem within_node : ∀ (t q a e k : Nat), t ≤ 32 → q * 2 ^ t + 2 ^ t ≤ 4294967296 → a < e → e ≤ 4294967296 → 3 * (t + 1) ≤ k →
    ∃ L, trommelref10_within.f k t q ((a : Int) - 2147483648) ((e : Int) - 1 - 2147483648) = some (L.map toS) ∧ L.length ≤ 62 ∧
      (((q * 2 ^ t + 2 ^ t ≤ a ∨ e ≤ q * 2 ^ t) ∧ L = []) ∨ (q * 2 ^ t < e ∧ a < q * 2 ^ t + 2 ^ t ∧ Cov (max a (q * 2 ^ t)) (min e (q * 2 ^ t + 2 ^ t) - max a (q * 2 ^ t)) L)) := by
  intro t
  induction t with
  | zero =>
    intro q a e k ht hq hae he hk
    obtain ⟨k, rfl⟩ : ∃ m, k = m + 1 + 1 + 1 := ⟨k - 3, by omega⟩
    simp only [trommelref10_within.f]
    rw [node_bounds ht hq]
    simp only [Option.bind_some]
    by_cases h1 : q * 2 ^ 0 + 2 ^ 0 ≤ a
    · rw [if_pos (by omega)]
      simp only [trommelref10_within.j0]
      exact ⟨[], by simp, by simp, .inl ⟨.inl h1, rfl⟩⟩
    · rw [if_neg (by omega)]
      by_cases h2 : e ≤ q * 2 ^ 0
      · rw [decide_eq_true (by omega)]
        simp only [trommelref10_within.j0]
        exact ⟨[], by simp, by simp, .inl ⟨.inr h2, rfl⟩⟩
      · rw [decide_eq_false (by omega)]
        simp only [trommelref10_within.j0]
        rw [if_neg (by decide), if_pos (by omega), decide_eq_true (by omega)]
        simp only [trommelref10_within.j1]
        refine ⟨[(0, q * 2 ^ 0)], by simp [toS_node, toS], by simp, .inr ⟨by omega, by omega, ?_⟩⟩
        have := cov_full (t := 0) (q := q) (by omega) hq
        rw [show max a (q * 2 ^ 0) = q * 2 ^ 0 by omega, show min e (q * 2 ^ 0 + 2 ^ 0) - q * 2 ^ 0 = 2 ^ 0 by omega]
        exact this
  | succ u ih =>
    intro q a e k ht hq hae he hk
    obtain ⟨k, rfl⟩ : ∃ m, k = m + 1 + 1 + 1 := ⟨k - 3, by omega⟩
    have hp := Nat.two_pow_pos u
    have hpow : 2 ^ (u + 1) = 2 ^ u + 2 ^ u := by rw [Nat.pow_succ]; omega
    simp only [trommelref10_within.f]
    rw [node_bounds ht hq]
    simp only [Option.bind_some]
    by_cases h1 : q * 2 ^ (u + 1) + 2 ^ (u + 1) ≤ a
    · rw [if_pos (by omega)]
      simp only [trommelref10_within.j0]
      exact ⟨[], by simp, by simp, .inl ⟨.inl h1, rfl⟩⟩
    · rw [if_neg (by omega)]
      by_cases h2 : e ≤ q * 2 ^ (u + 1)
      · rw [decide_eq_true (by omega)]
        simp only [trommelref10_within.j0]
        exact ⟨[], by simp, by simp, .inl ⟨.inr h2, rfl⟩⟩
      · rw [decide_eq_false (by omega)]
        simp only [trommelref10_within.j0]
        rw [if_neg (by decide)]
        by_cases hfull : a ≤ q * 2 ^ (u + 1) ∧ q * 2 ^ (u + 1) + 2 ^ (u + 1) ≤ e
        · rw [if_pos (by omega), decide_eq_true (by omega)]
          simp only [trommelref10_within.j1]
          refine ⟨[(u + 1, q * 2 ^ (u + 1))], by simp [toS_node], by simp, .inr ⟨by omega, by omega, ?_⟩⟩
          have := cov_full (t := u + 1) (q := q) ht hq
          rw [show max a (q * 2 ^ (u + 1)) = q * 2 ^ (u + 1) by omega, show min e (q * 2 ^ (u + 1) + 2 ^ (u + 1)) - q * 2 ^ (u + 1) = 2 ^ (u + 1) by omega]
          exact this
        · have ej : ∀ b : Bool, b = false → trommelref10_within.j1 (k + 1) ((a : Int) - 2147483648) ((e : Int) - 1 - 2147483648) b ((u + 1 : Nat) : Int) (q : Int) = trommelref10_within.j1 (k + 1) ((a : Int) - 2147483648) ((e : Int) - 1 - 2147483648) false ((u + 1 : Nat) : Int) (q : Int) := by rintro b rfl; rfl
          have hite : (if (a : Int) - 2147483648 ≤ ((q * 2 ^ (u + 1) : Nat) : Int) - 2147483648 then trommelref10_within.j1 (k + 1) ((a : Int) - 2147483648) ((e : Int) - 1 - 2147483648) (decide (((q * 2 ^ (u + 1) + 2 ^ (u + 1) : Nat) : Int) - 1 - 2147483648 ≤ (e : Int) - 1 - 2147483648)) ((u + 1 : Nat) : Int) (q : Int) else trommelref10_within.j1 (k + 1) ((a : Int) - 2147483648) ((e : Int) - 1 - 2147483648) false ((u + 1 : Nat) : Int) (q : Int)) = trommelref10_within.j1 (k + 1) ((a : Int) - 2147483648) ((e : Int) - 1 - 2147483648) false ((u + 1 : Nat) : Int) (q : Int) := by
            split
            · exact ej _ (decide_eq_false (by omega))
            · rfl
          rw [hite]
          simp only [trommelref10_within.j1]
          have hqb : q ≤ 4294967296 := by
            have : q * 1 ≤ q * 2 ^ (u + 1) := Nat.mul_le_mul_left q (by omega)
            omega
          have el : (2 * q) * 2 ^ u = q * 2 ^ (u + 1) := by rw [hpow, Nat.mul_add]; rw [Nat.mul_comm 2 q, Nat.mul_assoc, Nat.two_mul]; rw [Nat.mul_add]
          have er : (2 * q + 1) * 2 ^ u = q * 2 ^ (u + 1) + 2 ^ u := by rw [Nat.add_mul, el, Nat.one_mul]
          rw [if_neg (by decide), show wrap64 (((u + 1 : Nat) : Int) - 1) = (u : Int) by unfold wrap64; omega, show wrap64 (2 * (q : Int)) = ((2 * q : Nat) : Int) by unfold wrap64; omega, show wrap64 (((2 * q : Nat) : Int) + 1) = ((2 * q + 1 : Nat) : Int) by unfold wrap64; omega]
          obtain ⟨L1, f1, l1, c1⟩ := ih (2 * q) a e k (by omega) (by rw [el]; omega) hae he (by omega)
          obtain ⟨L2, f2, l2, c2⟩ := ih (2 * q + 1) a e k (by omega) (by rw [er]; omega) hae he (by omega)
          rw [f1]
          simp only [Option.bind_some]
          rw [f2]
          simp only [Option.bind_some]
          rw [if_pos (by simp; omega)]
          rw [el] at c1
          rw [er] at c2
          have hcov : Cov (max a (q * 2 ^ (u + 1))) (min e (q * 2 ^ (u + 1) + 2 ^ (u + 1)) - max a (q * 2 ^ (u + 1))) (L1 ++ L2) := by
            rcases c1 with ⟨c1, rfl⟩ | ⟨c10, c11, c1⟩
            · rcases c2 with ⟨c2, rfl⟩ | ⟨c20, c21, c2⟩
              · omega
              · rw [show max a (q * 2 ^ (u + 1)) = max a (q * 2 ^ (u + 1) + 2 ^ u) by omega, show q * 2 ^ (u + 1) + 2 ^ (u + 1) = q * 2 ^ (u + 1) + 2 ^ u + 2 ^ u by omega]
                simpa using c2
            · rcases c2 with ⟨c2, rfl⟩ | ⟨c20, c21, c2⟩
              · rw [show min e (q * 2 ^ (u + 1) + 2 ^ (u + 1)) = min e (q * 2 ^ (u + 1) + 2 ^ u) by omega]
                simpa using c1
              · rw [show min e (q * 2 ^ (u + 1) + 2 ^ u) - max a (q * 2 ^ (u + 1)) = q * 2 ^ (u + 1) + 2 ^ u - max a (q * 2 ^ (u + 1)) by omega] at c1
                rw [show max a (q * 2 ^ (u + 1) + 2 ^ u) = q * 2 ^ (u + 1) + 2 ^ u by omega, show q * 2 ^ (u + 1) + 2 ^ u + 2 ^ u = q * 2 ^ (u + 1) + 2 ^ (u + 1) by omega] at c2
                exact cov_split (by omega) (by omega) (by omega) (by omega) c2 c1 (by omega) (by omega) (by omega)
          have hlen := cov_len hcov (by omega) (by omega)
          exact ⟨L1 ++ L2, by simp, hlen, .inr ⟨by omega, by omega, hcov⟩⟩

theorem refCover_eq (lo hi : Int) : ∃ (cs : List S23), cs.length ≤ 1000 ∧ span_Cover.f 100 lo hi = some cs ∧ trommelref10_Cover.f 100 lo hi = some cs := by
  by_cases h : max lo (-2147483648) > min hi 2147483647
  · refine ⟨[], by simp, cover_none 100 lo hi (by omega) h, ?_⟩
    unfold trommelref10_Cover.f
    rw [mx_lo, mn_hi, if_pos h]
  · obtain ⟨a, ha⟩ := Int.eq_ofNat_of_zero_le (show 0 ≤ max lo (-2147483648) + 2147483648 by omega)
    obtain ⟨n, hn⟩ := Int.eq_ofNat_of_zero_le (show 0 ≤ min hi 2147483647 - max lo (-2147483648) + 1 by omega)
    obtain ⟨L, f1, l1, c1⟩ := within_node 32 0 a (a + n) 100 (Nat.le_refl _) (by rw [Nat.zero_mul, Nat.zero_add]; exact Nat.le_refl 4294967296) (by omega) (by omega) (by omega)
    rcases c1 with ⟨c1, rfl⟩ | ⟨_, _, c1⟩
    · omega
    · rw [show max a (0 * 2 ^ 32) = a by rw [Nat.zero_mul]; exact Nat.max_eq_left (Nat.zero_le _), show min (a + n) (0 * 2 ^ 32 + 2 ^ 32) - a = n by rw [show 0 * 2 ^ 32 + 2 ^ 32 = 4294967296 by rw [Nat.zero_mul, Nat.zero_add]]; omega] at c1
      refine ⟨L.map toS, by simp; omega, ?_, ?_⟩
      · have hl2 : L.length < 100 := Nat.lt_of_le_of_lt l1 (by decide)
        have hl3 : ([] : List S23).length + L.length < 8796093022208 := by rw [List.length_nil, Nat.zero_add]; exact Nat.lt_trans hl2 (by decide)
        have := cover_l0 c1 (by omega) 100 [] hl2 hl3
        unfold span_Cover.f
        rw [mx_lo, mn_hi, show max lo (-2147483648) = (a : Int) - 2147483648 by omega, show min hi 2147483647 = (a : Int) + n - 1 - 2147483648 by omega, this]
        simp
      · unfold trommelref10_Cover.f
        rw [mx_lo, mn_hi, if_neg h, show max lo (-2147483648) = (a : Int) - 2147483648 by omega, show min hi 2147483647 = ((a + n : Nat) : Int) - 1 - 2147483648 by omega]
        rw [show ((32 : Nat) : Int) = 32 from rfl, show ((0 : Nat) : Int) = 0 from rfl] at f1
        rw [f1]
        rfl
end Go.Proofs.YtapemeboobcgmaaDoor.Prt
