/- SpanStabs in plain numbers: a number lies in a range just if one of its path is in the cover, and one alone. Conditions: none. -/
import Derived.Test.YtapemeboobcgmaaDoorPrt8
import Derived.Test.YtapemeboobcgmaaDoorMathC
import Derived.Test.YtapemeboobcgmaaDoorMathFix
namespace Go.Proofs.YtapemeboobcgmaaDoor.Prt
open Go.RowKit Go.Proofs.YtapemeboobcgmaaDoorW.PrintWords Go.Proofs.YtapemeboobcgmaaDoorW.PrintLast Go.Proofs.YtapemeboobcgmaaDoorW.PrintMore

theorem rd_midS (pre : List (Nat × Nat)) (x : Nat × Nat) (L : List (Nat × Nat)) : rd_T23 ((pre ++ x :: L).map toS) (pre.length : Int) = toS x := by
  unfold rd_T23
  rw [Int.toNat_natCast]
  simp [List.getD]

/-- The spans of a number y, counted from 0 on, of the levels 0 to n - 1. -/
def pathTo (y : Int) (n : Nat) : List S23 := (List.range n).map (fun (l : Nat) => (⟨(l : Int), y / 2 ^ l⟩ : S23))
theorem pathTo_len (y : Int) (n : Nat) : (pathTo y n).length = n := by simp [pathTo]
theorem pathTo_succ (y : Int) (n : Nat) : pathTo y (n + 1) = pathTo y n ++ [⟨(n : Int), y / 2 ^ n⟩] := by simp [pathTo, List.range_succ]
theorem pathTo_rd (y : Int) (n j : Nat) (h : j < n) : rd_T23 (pathTo y n) (j : Int) = ⟨(j : Int), y / 2 ^ j⟩ := by
  unfold rd_T23 pathTo
  rw [Int.toNat_natCast]
  simp [List.getD, h]

theorem path_l0 (x : Int) (h0 : -2147483648 ≤ x) (h1 : x ≤ 2147483647) : ∀ (d n k : Nat), n + d = 33 → d < k →
    span_Path.l0 k x (pathTo (x + 2147483648) n) (n : Int) = some (pathTo (x + 2147483648) 33) := by
  intro d
  induction d with
  | zero =>
    intro n k hn hk
    obtain ⟨k, rfl⟩ : ∃ m, k = m + 1 := ⟨k - 1, by omega⟩
    obtain rfl : n = 33 := by omega
    simp only [span_Path.l0]
    rw [if_neg (by decide)]
  | succ d ih =>
    intro n k hn hk
    obtain ⟨k, rfl⟩ : ∃ m, k = m + 1 := ⟨k - 1, by omega⟩
    simp only [span_Path.l0]
    rw [if_pos (by omega), at_some h0 h1 (by omega) (by omega)]
    simp only [Option.bind_some, Int.toNat_natCast]
    rw [if_pos (by rw [pathTo_len]; omega), ← pathTo_succ, show wrap64 ((n : Int) + 1) = ((n + 1 : Nat) : Int) by unfold wrap64; omega]
    exact ih (n + 1) k (by omega) (by omega)

/-- The path of x: 33 spans, or none. -/
def pathOf (x : Int) : List S23 := if -2147483648 ≤ x ∧ x ≤ 2147483647 then pathTo (x + 2147483648) 33 else []
theorem path_f (x : Int) (k : Nat) (hk : 33 < k) : span_Path.f k x = some (pathOf x) := by
  unfold span_Path.f pathOf
  rw [within_some]
  simp only [Option.bind_some]
  by_cases h : -2147483648 ≤ x ∧ x ≤ 2147483647
  · rw [if_pos (decide_eq_true h), if_pos h]
    exact path_l0 x h.1 h.2 33 0 k (by omega) hk
  · rw [if_neg (by rw [decide_eq_true_iff]; exact h), if_neg h]

/-- How many from place i on are this span. -/
def hits (P : List S23) (L I : Int) : Nat → Nat → Nat
  | 0, _ => 0
  | d + 1, i => (if (L == (rd_T23 P (i : Int)).f0 && (I == (rd_T23 P (i : Int)).f1)) = true then 1 else 0) + hits P L I d (i + 1)

theorem hits_none (P : List S23) (L I : Int) : ∀ (d i : Nat), (∀ j, i ≤ j → j < i + d → (L == (rd_T23 P (j : Int)).f0 && (I == (rd_T23 P (j : Int)).f1)) = false) → hits P L I d i = 0 := by
  intro d
  induction d with
  | zero => intro i _; rfl
  | succ d ih =>
    intro i h
    rw [hits, h i (by omega) (by omega), ih (i + 1) (fun j h1 h2 => h j (by omega) (by omega))]
    rfl
theorem hits_split (P : List S23) (L I : Int) : ∀ (d e i : Nat), hits P L I (d + e) i = hits P L I d i + hits P L I e (i + d) := by
  intro d
  induction d with
  | zero => intro e i; simp [hits]
  | succ d ih =>
    intro e i
    rw [show d + 1 + e = (d + e) + 1 by omega, hits, hits, ih e (i + 1), show i + 1 + d = i + (d + 1) by omega]
    omega

/-- The path of a number holds a span once if the span has the number, else not at all. -/
theorem hits_path (y : Int) (l : Nat) (I : Int) (hl : l ≤ 32) : hits (pathTo y 33) (l : Int) I 33 0 = if y / 2 ^ l = I then 1 else 0 := by
  obtain ⟨r, hr⟩ : ∃ r, 33 = l + (1 + r) := ⟨32 - l, by omega⟩
  have h33 : ∀ j, j < 33 → j ≠ l → ((l : Int) == (rd_T23 (pathTo y 33) (j : Int)).f0 && (I == (rd_T23 (pathTo y 33) (j : Int)).f1)) = false := by
    intro j hj hne
    rw [pathTo_rd y 33 j hj, show (((l : Int) == ((⟨(j : Int), y / 2 ^ j⟩ : S23)).f0)) = false from beq_eq_false_iff_ne.2 (by show (l : Int) ≠ (j : Int); omega)]
    rfl
  have e := hits_split (pathTo y 33) (l : Int) I l (1 + r) 0
  rw [← hr] at e
  rw [e, hits_split, hits_none _ _ _ l 0 (fun j _ h2 => h33 j (by omega) (by omega)), hits_none _ _ _ r _ (fun j h1 h2 => h33 j (by omega) (by omega))]
  rw [hits, hits, Nat.zero_add l, pathTo_rd y 33 l (by omega)]
  simp only [beq_self_eq_true, Bool.true_and, beq_iff_eq, Nat.zero_add, Nat.add_zero]
  by_cases h : y / 2 ^ l = I
  · rw [if_pos h, if_pos h.symm]
  · rw [if_neg h, if_neg (fun h' => h h'.symm)]

/-- The inner loop counts the hits, then looks at the span alone. -/
theorem stabs_l1 (x0 x1 x2 : Int) (P Q : List S23) (L I : Int) (hP : P.length ≤ 33) (hidx : Int) (hN : Int) : ∀ (d i k : Nat) (c : Nat), i + d = P.length → d < k → c + d ≤ 1000 →
    ∃ k', k = d + 1 + k' ∧ trommellaw10_SpanStabs.l1 k x0 x1 x2 (c : Int) P Q hN hidx P (P.length : Int) (i : Int) L I =
      trommellaw10_SpanStabs.l1 (k' + 1) x0 x1 x2 ((c + hits P L I d i : Nat) : Int) P Q hN hidx P (P.length : Int) (P.length : Int) L I := by
  intro d
  induction d with
  | zero =>
    intro i k c hi hk _
    refine ⟨k - 1, by omega, ?_⟩
    rw [show i = P.length by omega, show k - 1 + 1 = k by omega]
    simp [hits]
  | succ d ih =>
    intro i k c hi hk hc
    obtain ⟨k, rfl⟩ : ∃ m, k = m + 1 := ⟨k - 1, by omega⟩
    have hw : wrap64 ((i : Int) + 1) = ((i + 1 : Nat) : Int) := by unfold wrap64; omega
    have hw2 : wrap64 ((c : Int) + 1) = ((c + 1 : Nat) : Int) := by unfold wrap64; omega
    conv => enter [1, k', 2, 1]; rw [trommellaw10_SpanStabs.l1]
    by_cases hh : (L == (rd_T23 P (i : Int)).f0 && (I == (rd_T23 P (i : Int)).f1)) = true
    · obtain ⟨k', hk', e⟩ := ih (i + 1) k (c + 1) (by omega) (by omega) (by omega)
      refine ⟨k', by omega, ?_⟩
      rw [if_pos (by omega), if_pos (by omega), if_pos (by omega), if_pos hh, hw, hw2, e, hits, if_pos hh, Nat.add_assoc]
    · obtain ⟨k', hk', e⟩ := ih (i + 1) k c (by omega) (by omega) (by omega)
      refine ⟨k', by omega, ?_⟩
      rw [if_pos (by omega), if_pos (by omega), if_pos (by omega), if_neg hh, hw, e, hits, if_neg hh, Nat.zero_add]

theorem div_iff {y I q : Int} (hq : 1 ≤ q) : y / q = I ↔ I * q ≤ y ∧ y < I * q + q := by
  constructor
  · rintro rfl
    have h6 := Int.mul_ediv_add_emod y q
    have h7 := Int.emod_nonneg y (show q ≠ 0 by omega)
    have h8 := Int.emod_lt_of_pos y (show 0 < q by omega)
    rw [Int.mul_comm] at h6
    omega
  · rintro ⟨h6, h7⟩
    have h8 : y = (y - I * q) + I * q := by omega
    rw [h8, Int.add_mul_ediv_right _ _ (show q ≠ 0 by omega), Int.ediv_eq_zero_of_lt (by omega) (by omega)]
    omega

theorem stabs_l0 (x0 x1 x : Int) (A E : Nat) (hE : E ≤ 4294967296) : ∀ (L : List (Nat × Nat)) (pre : List (Nat × Nat)) (a k c : Nat), Chain A E a L → 40 * L.length + 1 < k → (pre ++ L).length ≤ 62 → c + L.length ≤ 100 →
    (x ≥ max x0 (-2147483648) ∧ x ≤ min x1 2147483647 ∧ c + (if (a : Int) ≤ x + 2147483648 ∧ x + 2147483648 < E then 1 else 0) = 1 ∨ ¬ (x ≥ max x0 (-2147483648) ∧ x ≤ min x1 2147483647) ∧ c + (if (a : Int) ≤ x + 2147483648 ∧ x + 2147483648 < E then 1 else 0) = 0) →
    trommellaw10_SpanStabs.l0 k x0 x1 x (c : Int) (pathOf x) ((pre ++ L).map toS) (((pre ++ L).map toS).length : Int) (pre.length : Int) = some true := by
  intro L
  induction L with
  | nil =>
    intro pre a k c hc hk hl _ hfin
    obtain ⟨k, rfl⟩ : ∃ m, k = m + 1 := ⟨k - 1, by omega⟩
    have he : a = E := hc
    rw [if_neg (by omega)] at hfin
    rw [trommellaw10_SpanStabs.l0, if_neg (by simp), mx_lo, mn_hi]
    rcases hfin with ⟨h1, h2, h3⟩ | ⟨h1, h2⟩
    · rw [if_pos h1, if_pos h2, if_pos (by omega)]
    · by_cases g1 : x ≥ max x0 (-2147483648)
      · rw [if_pos g1, if_neg (by omega), if_neg (by omega), show c = 0 by omega]; rfl
      · rw [if_neg g1, show c = 0 by omega]; rfl
  | cons z L ih =>
    intro pre a k c hc hk hl hc2 hfin
    obtain ⟨l, p⟩ := z
    obtain ⟨rfl, h32, hm, hle, _, hnext⟩ := hc
    simp only [List.length_cons] at hk hc2
    obtain ⟨k, rfl⟩ : ∃ m, k = m + 1 := ⟨k - 1, by omega⟩
    have hs := chain_span h32 hm hle hE
    have hmul := chain_mul hm
    have hp := pow_le_32 l h32
    have hpc := pow_cast l
    have hPl : (pathOf x).length ≤ 33 := by unfold pathOf; split <;> simp [pathTo_len]
    rw [trommellaw10_SpanStabs.l0, if_pos (by simp; omega), if_pos (by omega), if_pos (by simp; omega), rd_midS]
    simp only [toS]
    obtain ⟨k', hk', e⟩ := stabs_l1 x0 x1 x (pathOf x) ((pre ++ (l, p) :: L).map toS) (l : Int) ((p : Int) / 2 ^ l) hPl (pre.length : Int) (((pre ++ (l, p) :: L).map toS).length : Int) (pathOf x).length 0 k c (by omega) (by omega) (by omega)
    rw [show ((0 : Nat) : Int) = 0 from rfl] at e
    have e2 : (List.map toS (pre ++ (l, p) :: L)) = (pre ++ (l, p) :: L).map toS := rfl
    rw [e]
    rw [trommellaw10_SpanStabs.l1, if_neg (by omega), has_yes x hs]
    simp only [Option.bind_some, Int.toNat_natCast]
    simp only [hmul]
    have hlen : pre.length ≤ 62 := by simp at hl; omega
    have hnxt : ∀ c' : Nat, c' = c + (if (p : Int) ≤ x + 2147483648 ∧ x + 2147483648 < (p : Int) + 2 ^ l then 1 else 0) →
        trommellaw10_SpanStabs.l0 k' x0 x1 x (c' : Int) (pathOf x) ((pre ++ (l, p) :: L).map toS) (((pre ++ (l, p) :: L).map toS).length : Int) (wrap64 ((pre.length : Int) + 1)) = some true := by
      intro c' hc'
      have h1 := ih (pre ++ [(l, p)]) (p + 2 ^ l) k' c' hnext (by omega) (by simpa using hl) (by split at hc' <;> omega) (by
        have hp1 := Nat.two_pow_pos l
        generalize (2 : Int) ^ l = q at *
        generalize 2 ^ l = q2 at *
        by_cases g1 : (p : Int) ≤ x + 2147483648 ∧ x + 2147483648 < (E : Int)
        · rw [if_pos g1] at hfin
          by_cases g2 : (p : Int) ≤ x + 2147483648 ∧ x + 2147483648 < (p : Int) + q
          · rw [if_pos g2] at hc'
            rw [if_neg (by omega)]
            rcases hfin with h | h
            · exact .inl ⟨h.1, h.2.1, by omega⟩
            · exact .inr ⟨h.1, by omega⟩
          · rw [if_neg g2] at hc'
            rw [if_pos (by omega)]
            rcases hfin with h | h
            · exact .inl ⟨h.1, h.2.1, by omega⟩
            · exact .inr ⟨h.1, by omega⟩
        · rw [if_neg g1] at hfin
          rw [if_neg (by omega)] at hc'
          rw [if_neg (by omega)]
          rcases hfin with h | h
          · exact .inl ⟨h.1, h.2.1, by omega⟩
          · exact .inr ⟨h.1, by omega⟩)
      rw [List.append_assoc] at h1
      simp only [List.cons_append, List.nil_append] at h1
      rw [show wrap64 ((pre.length : Int) + 1) = ((pre ++ [(l, p)]).length : Int) by simp; unfold wrap64; omega]
      exact h1
    by_cases hx : -2147483648 ≤ x ∧ x ≤ 2147483647
    · have hP : pathOf x = pathTo (x + 2147483648) 33 := by unfold pathOf; rw [if_pos hx]
      rw [hP] at hnxt ⊢
      have hdi : (x + 2147483648) / 2 ^ l = (p : Int) / 2 ^ l ↔ (p : Int) ≤ x + 2147483648 ∧ x + 2147483648 < (p : Int) + 2 ^ l := by
        have := div_iff (y := x + 2147483648) (I := (p : Int) / 2 ^ l) hp.1
        rw [hmul] at this
        exact this
      rw [pathTo_len, if_pos (by omega), if_pos (by omega), if_pos (by omega), if_pos (by omega), pathTo_rd _ 33 l (by omega), if_neg]
      · apply hnxt
        rw [hits_path _ _ _ h32]
        by_cases g : (p : Int) ≤ x + 2147483648 ∧ x + 2147483648 < (p : Int) + 2 ^ l
        · rw [if_pos g, if_pos (hdi.2 g)]
        · rw [if_neg g, if_neg (fun h => g (hdi.1 h))]
      · simp only [beq_self_eq_true, Bool.true_and]
        by_cases g : (p : Int) ≤ x + 2147483648 ∧ x + 2147483648 < (p : Int) + 2 ^ l
        · rw [decide_eq_true (by omega), hdi.2 g]; simp
        · rw [decide_eq_false (by omega), beq_eq_false_iff_ne.2 (fun h => g (hdi.1 h))]; decide
    · have hP : pathOf x = [] := by unfold pathOf; rw [if_neg hx]
      have hn := hnxt c (by rw [if_neg (by omega)]; rfl)
      rw [hP] at hn ⊢
      rw [if_neg (by simp), decide_eq_false (by omega), if_neg (by decide)]
      exact hn

theorem SpanStabs_pure (a0 a1 a2 : Int) (_w0 : (Lit.int .i64 a0).wf = true) (_w1 : (Lit.int .i64 a1).wf = true) (_w2 : (Lit.int .i64 a2).wf = true) : ∃ k, trommellaw10_SpanStabs.f k a0 a1 a2 = some true := by
  refine ⟨4000, ?_⟩
  unfold trommellaw10_SpanStabs.f
  rw [fixed_ge (by decide)]
  simp only [Option.bind_some]
  rw [if_pos trivial, path_f a2 4000 (by decide)]
  simp only [Option.bind_some]
  by_cases h : max a0 (-2147483648) > min a1 2147483647
  · rw [cover_none 4000 a0 a1 (by decide) h]
    simp only [Option.bind_some]
    have := stabs_l0 a0 a1 a2 0 0 (by decide) [] [] 0 4000 0 rfl (by decide) (by decide) (by decide) (.inr ⟨by omega, by simp⟩)
    simpa using this
  · obtain ⟨a, n, L, ha, hn, h0, hE, hc, hf⟩ := cover_some 4000 a0 a1 (by decide) h
    rw [hf]
    simp only [Option.bind_some]
    have hch := cov_chain a hc hE (.inl (fun _ => by have := Nat.two_pow_pos (tzA a); omega))
    have hlen := cov_len hc hE (by omega)
    have := stabs_l0 a0 a1 a2 a (a + n) hE L [] a 4000 0 hch (by omega) (by simpa using hlen) (by omega) (by
      by_cases g : (a : Int) ≤ a2 + 2147483648 ∧ a2 + 2147483648 < ((a + n : Nat) : Int)
      · rw [if_pos g]; exact .inl ⟨by omega, by omega, rfl⟩
      · rw [if_neg g]; exact .inr ⟨by omega, rfl⟩)
    simpa using this
end Go.Proofs.YtapemeboobcgmaaDoor.Prt
