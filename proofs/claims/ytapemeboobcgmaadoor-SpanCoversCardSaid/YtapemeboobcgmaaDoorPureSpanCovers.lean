/- SpanCovers in plain numbers: the spans of a cover rise, meet nowhere, leave nothing out, are at most 62, and none has a parent that lies within. Conditions: none. -/
import Derived.Test.YtapemeboobcgmaaDoorPrt7
import Derived.Test.YtapemeboobcgmaaDoorMathC
import Derived.Test.YtapemeboobcgmaaDoorMathFix
namespace Go.Proofs.YtapemeboobcgmaaDoor.Prt
open Go.RowKit Go.Proofs.YtapemeboobcgmaaDoorW.PrintWords Go.Proofs.YtapemeboobcgmaaDoorW.PrintLast Go.Proofs.YtapemeboobcgmaaDoorW.PrintMore

theorem bounds_total (L I : Int) : ∃ c d, span_Bounds.f L I = some (c, d) := by
  by_cases h : isSpan L I
  · exact ⟨_, _, bounds_yes h⟩
  · exact ⟨_, _, bounds_no h⟩
theorem rd_mid (pre : List (Nat × Nat)) (x : Nat × Nat) (L : List (Nat × Nat)) : rd_T23 ((pre ++ x :: L).map toS) (pre.length : Int) = toS x := by
  unfold rd_T23
  rw [Int.toNat_natCast]
  simp [List.getD]

theorem covers_l0 (A E : Nat) (hE : E ≤ 4294967296) (_hAE : A < E) : ∀ (L : List (Nat × Nat)) (pre : List (Nat × Nat)) (a k : Nat), A ≤ a → Chain A E a L → 2 * L.length + 1 < k → (pre ++ L).length ≤ 62 →
    trommellaw10_SpanCovers.l0 k ((A : Int) - 2147483648) ((E : Int) - 1 - 2147483648) ((pre ++ L).map toS) ((a : Int) - 2147483648) ((pre ++ L).map toS) (((pre ++ L).map toS).length : Int) (pre.length : Int) = some true := by
  intro L
  induction L with
  | nil =>
    intro pre a k hA hc hk hl
    obtain ⟨k, rfl⟩ : ∃ m, k = m + 1 := ⟨k - 1, by omega⟩
    have he : a = E := hc
    simp only [trommellaw10_SpanCovers.l0, List.length_map] at hl ⊢
    rw [if_neg (by simp), wrap_in (by omega), if_pos (by omega)]
    congr 1
    rw [decide_eq_true_iff]
    omega
  | cons x L ih =>
    intro pre a k hA hc hk hl
    obtain ⟨l, p⟩ := x
    obtain ⟨rfl, h32, hm, hle, hpar, hnext⟩ := hc
    simp only [List.length_cons] at hk
    obtain ⟨k, rfl⟩ : ∃ m, k = m + 1 + 1 := ⟨k - 2, by omega⟩
    have hp := Nat.two_pow_pos l
    have hs := chain_span h32 hm hle hE
    have hmul := chain_mul hm
    have hpc := pow_cast l
    simp only [trommellaw10_SpanCovers.l0]
    rw [if_pos (by simp; omega), if_pos (by omega), if_pos (by simp; omega), rd_mid]
    simp only [toS]
    rw [bounds_yes hs, check_yes hs]
    simp only [Option.bind_some, Int.toNat_natCast]
    rw [if_pos trivial, hmul, if_pos (by omega), if_neg (by omega), show decide (-2147483648 + (p : Int) + 2 ^ l - 1 > (E : Int) - 1 - 2147483648) = false from decide_eq_false (by omega)]
    simp only [trommellaw10_SpanCovers.j1]
    rw [if_neg (by decide)]
    have hlast : trommellaw10_SpanCovers.l0 k ((A : Int) - 2147483648) ((E : Int) - 1 - 2147483648) ((pre ++ (l, p) :: L).map toS) (wrap64 (-2147483648 + (p : Int) + 2 ^ l - 1 + 1)) ((pre ++ (l, p) :: L).map toS) (((pre ++ (l, p) :: L).map toS).length : Int) (wrap64 ((pre.length : Int) + 1)) = some true := by
      have h1 := ih (pre ++ [(l, p)]) (p + 2 ^ l) k (by omega) hnext (by omega) (by simpa using hl)
      rw [List.append_assoc] at h1
      simp only [List.cons_append, List.nil_append] at h1
      rw [show wrap64 (-2147483648 + (p : Int) + 2 ^ l - 1 + 1) = ((p + 2 ^ l : Nat) : Int) - 2147483648 by unfold wrap64; omega]
      have hlen : pre.length ≤ 62 := by simp at hl; omega
      rw [show wrap64 ((pre.length : Int) + 1) = ((pre ++ [(l, p)]).length : Int) by simp; unfold wrap64; omega]
      exact h1
    by_cases hl32 : l = 32
    · rw [parent_no (.inr (by omega))]
      obtain ⟨c, d, hcd⟩ := bounds_total 0 0
      simp only [Option.bind_some]
      rw [hcd]
      simp only [Option.bind_some]
      rw [if_neg (by decide)]
      exact hlast
    · have hne : (l : Int) ≠ 32 := by omega
      rw [parent_yes hs hne]
      simp only [Option.bind_some]
      rw [bounds_yes (parent_span hs hne)]
      simp only [Option.bind_some]
      rw [if_pos trivial]
      have hpar' := hpar (by omega)
      have e1 : (p : Int) / 2 ^ l / 2 * 2 ^ ((l : Int) + 1).toNat = ((p / 2 ^ (l + 1) * 2 ^ (l + 1) : Nat) : Int) := by
        rw [show ((l : Int) + 1).toNat = l + 1 by omega, ← pow_cast l, ← pow_cast (l + 1), ← Int.natCast_ediv, show (2 : Int) = ((2 : Nat) : Int) from rfl, ← Int.natCast_ediv, Nat.div_div_eq_div_mul, ← Nat.pow_succ]
        simp
      have e2 : (2 : Int) ^ ((l : Int) + 1).toNat = ((2 ^ (l + 1) : Nat) : Int) := by
        rw [show ((l : Int) + 1).toNat = l + 1 by omega, pow_cast]
      rw [e1, e2]
      generalize p / 2 ^ (l + 1) * 2 ^ (l + 1) = s at *
      generalize 2 ^ (l + 1) = z at *
      by_cases h1 : -2147483648 + (s : Int) ≥ (A : Int) - 2147483648
      · rw [if_pos h1, if_neg (by omega)]
        exact hlast
      · rw [if_neg h1]
        exact hlast

theorem SpanCovers_pure (a0 a1 : Int) (_w0 : (Lit.int .i64 a0).wf = true) (_w1 : (Lit.int .i64 a1).wf = true) : ∃ k, trommellaw10_SpanCovers.f k a0 a1 = some true := by
  refine ⟨200, ?_⟩
  unfold trommellaw10_SpanCovers.f
  rw [fixed_ge (by decide)]
  simp only [Option.bind_some]
  rw [if_pos trivial]
  by_cases h : max a0 (-2147483648) > min a1 2147483647
  · rw [cover_none 200 a0 a1 (by decide) h]
    simp only [Option.bind_some]
    rw [mx_lo, mn_hi, if_pos h]
    rfl
  · obtain ⟨a, n, L, ha, hn, h0, hE, hc, hf⟩ := cover_some 200 a0 a1 (by decide) h
    rw [hf]
    simp only [Option.bind_some]
    rw [mx_lo, mn_hi, if_neg h]
    have hch := cov_chain a hc hE (.inl (fun _ => by have := Nat.two_pow_pos (tzA a); omega))
    have hlen := cov_len hc hE (by omega)
    have := covers_l0 a (a + n) hE (by omega) L [] a 200 (by omega) hch (by omega) (by simpa using hlen)
    rw [show max a0 (-2147483648) = (a : Int) - 2147483648 by omega, show min a1 2147483647 = ((a + n : Nat) : Int) - 1 - 2147483648 by omega]
    simpa using this
end Go.Proofs.YtapemeboobcgmaaDoor.Prt
