/- SpanCommons in plain numbers: the common span has all, none below it does, and it doesn't see their order. Conditions: the slice is one of memory (its length times 8 is at most 2^47 - 4096). -/
import Derived.Test.YtapemeboobcgmaaDoorPrt10
import Derived.Test.YtapemeboobcgmaaDoorMathD
import Derived.Test.YtapemeboobcgmaaDoorMathFix
namespace Go.Proofs.YtapemeboobcgmaaDoor.Prt
open Go.RowKit Go.Proofs.YtapemeboobcgmaaDoorW.PrintWords Go.Proofs.YtapemeboobcgmaaDoorW.PrintLast Go.Proofs.YtapemeboobcgmaaDoorW.PrintMore

theorem rd_lt (l : List Int) (i : Nat) (h : i < l.length) : rd l (i : Int) = l[i] := by simp [rd, List.getD, h]

/-- The first loop: are all of them values? -/
theorem commons_l0 (l : List Int) (ok : Bool) (L I : Int) (hl : l.length ≤ 17592186044416) : ∀ (d i k : Nat) (b : Bool), i + d = l.length → d < k →
    ∃ k', k = d + 1 + k' ∧ trommellaw10_SpanCommons.l0 k l ok b l (l.length : Int) (i : Int) L I = trommellaw10_SpanCommons.l0 (k' + 1) l ok (b && (l.drop i).all (fun x => decide (-2147483648 ≤ x ∧ x ≤ 2147483647))) l (l.length : Int) (l.length : Int) L I := by
  intro d
  induction d with
  | zero =>
    intro i k b hi hk
    refine ⟨k - 1, by omega, ?_⟩
    rw [show i = l.length by omega, show k - 1 + 1 = k by omega, List.drop_length]
    simp
  | succ d ih =>
    intro i k b hi hk
    obtain ⟨k, rfl⟩ : ∃ m, k = m + 1 := ⟨k - 1, by omega⟩
    have hlt : i < l.length := by omega
    have hw : wrap64 ((i : Int) + 1) = ((i + 1 : Nat) : Int) := by unfold wrap64; omega
    have hd : (l.drop i).all (fun x => decide (-2147483648 ≤ x ∧ x ≤ 2147483647)) = (decide (-2147483648 ≤ l[i] ∧ l[i] ≤ 2147483647) && (l.drop (i + 1)).all (fun x => decide (-2147483648 ≤ x ∧ x ≤ 2147483647))) := by
      rw [List.drop_eq_getElem_cons hlt, List.all_cons]
    have step : trommellaw10_SpanCommons.l0 (k + 1) l ok b l (l.length : Int) (i : Int) L I = trommellaw10_SpanCommons.l0 k l ok (b && decide (-2147483648 ≤ l[i] ∧ l[i] ≤ 2147483647)) l (l.length : Int) ((i + 1 : Nat) : Int) L I := by
      rw [trommellaw10_SpanCommons.l0, if_pos (by omega), if_pos (by omega), if_pos (by omega), rd_lt l i hlt, hw]
      cases b with
      | false => rw [if_neg (by decide)]; rfl
      | true =>
        rw [if_pos rfl]
        by_cases g : l[i] ≥ -2147483648
        · have g' : -2147483648 ≤ l[i] := g
          rw [if_pos g]
          simp [g']
        · have g' : ¬ -2147483648 ≤ l[i] := g
          rw [if_neg g]
          simp [g']
    obtain ⟨k', hk', e⟩ := ih (i + 1) k (b && decide (-2147483648 ≤ l[i] ∧ l[i] ≤ 2147483647)) (by omega) (by omega)
    refine ⟨k', by omega, ?_⟩
    rw [step, e, hd, Bool.and_assoc]

/-- Does the left half of the span have x? -/
def leftOf (L I : Int) (x : Int) : Bool := decide (L > 0 ∧ span_Has.f (wrap64 (L - 1)) (wrap64 (2 * I)) x = some true)

theorem commons_l1 (l : List Int) (L I : Int) (hl : l.length ≤ 17592186044416) (hall : ∀ x ∈ l, span_Has.f L I x = some true) (hsome : ∀ x, ∃ b, span_Has.f (wrap64 (L - 1)) (wrap64 (2 * I)) x = some b) :
    ∀ (d i k p q : Nat), i + d = l.length → d < k → p ≤ i → q ≤ i →
    ∃ k', k = d + 1 + k' ∧ trommellaw10_SpanCommons.l1 k true (p : Int) (q : Int) l (l.length : Int) (i : Int) L I =
      trommellaw10_SpanCommons.l1 (k' + 1) true ((p + (l.drop i).countP (leftOf L I) : Nat) : Int) ((q + (l.drop i).countP (fun x => !leftOf L I x) : Nat) : Int) l (l.length : Int) (l.length : Int) L I := by
  intro d
  induction d with
  | zero =>
    intro i k p q hi hk _ _
    refine ⟨k - 1, by omega, ?_⟩
    rw [show i = l.length by omega, show k - 1 + 1 = k by omega, List.drop_length]
    simp
  | succ d ih =>
    intro i k p q hi hk h3 h4
    obtain ⟨k, rfl⟩ : ∃ m, k = m + 1 := ⟨k - 1, by omega⟩
    have hlt : i < l.length := by omega
    have hw : wrap64 ((i : Int) + 1) = ((i + 1 : Nat) : Int) := by unfold wrap64; omega
    have hwp : wrap64 ((p : Int) + 1) = ((p + 1 : Nat) : Int) := by unfold wrap64; omega
    have hwq : wrap64 ((q : Int) + 1) = ((q + 1 : Nat) : Int) := by unfold wrap64; omega
    have hmem : l[i] ∈ l := List.getElem_mem hlt
    obtain ⟨b, hb⟩ := hsome l[i]
    have step : trommellaw10_SpanCommons.l1 (k + 1) true (p : Int) (q : Int) l (l.length : Int) (i : Int) L I =
        if leftOf L I l[i] = true then trommellaw10_SpanCommons.l1 k true ((p + 1 : Nat) : Int) (q : Int) l (l.length : Int) ((i + 1 : Nat) : Int) L I else trommellaw10_SpanCommons.l1 k true (p : Int) ((q + 1 : Nat) : Int) l (l.length : Int) ((i + 1 : Nat) : Int) L I := by
      rw [trommellaw10_SpanCommons.l1, if_pos (by omega), if_pos (by omega), if_pos (by omega), rd_lt l i hlt, hall _ hmem]
      simp only [Option.bind_some]
      rw [if_pos trivial, hw, hwp, hwq]
      by_cases g : L > 0
      · rw [if_pos g, hb]
        simp only [Option.bind_some]
        cases b with
        | true => rw [if_pos rfl, if_pos]; unfold leftOf; rw [decide_eq_true_iff]; exact ⟨g, hb⟩
        | false => rw [if_neg (by decide), if_neg]; unfold leftOf; rw [decide_eq_true_iff]; rintro ⟨_, h⟩; rw [hb] at h; cases h
      · rw [if_neg g, if_neg]
        unfold leftOf
        rw [decide_eq_true_iff]
        exact fun h => g h.1
    rw [step, List.drop_eq_getElem_cons hlt, List.countP_cons, List.countP_cons]
    by_cases g : leftOf L I l[i] = true
    · rw [if_pos g, if_pos g, if_neg (by rw [g]; decide)]
      obtain ⟨k', hk', e⟩ := ih (i + 1) k (p + 1) q (by omega) (by omega) (by omega) (by omega)
      refine ⟨k', by omega, ?_⟩
      rw [e]
      congr 2 <;> omega
    · rw [if_neg g, if_neg g, if_pos (by rw [Bool.not_eq_true] at g; rw [g]; rfl)]
      obtain ⟨k', hk', e⟩ := ih (i + 1) k p (q + 1) (by omega) (by omega) (by omega) (by omega)
      refine ⟨k', by omega, ?_⟩
      rw [e]
      congr 2 <;> omega

theorem has_some (L I x : Int) : ∃ b, span_Has.f L I x = some b := by
  by_cases h : isSpan L I
  · exact ⟨_, has_yes x h⟩
  · exact ⟨_, has_no x h⟩

theorem commons_end (l : List Int) (L : Nat) (I : Int) (hl : l.length ≤ 17592186044416) (h0 : l ≠ []) (ha : allIn l) (hL : L = comL l) (hI : I = (minL l + 2147483648) / 2 ^ comL l) (k : Nat) (hk : l.length < k) :
    trommellaw10_SpanCommons.l1 k true 0 0 l (l.length : Int) 0 (L : Int) I = some true := by
  subst hL; subst hI
  obtain ⟨hs, hall, hhalf⟩ := common_has h0 ha
  obtain ⟨k', _, e⟩ := commons_l1 l (comL l : Int) ((minL l + 2147483648) / 2 ^ comL l) hl hall (fun x => has_some _ _ x) l.length 0 k 0 0 (by omega) hk (by omega) (by omega)
  rw [show (((0 : Nat) : Int)) = 0 from rfl] at e
  rw [e, trommellaw10_SpanCommons.l1, if_neg (by omega), if_pos rfl]
  by_cases hz : (comL l : Int) = 0
  · rw [if_pos hz]
  · rw [if_neg hz]
    obtain ⟨hs2, hmin, hmax⟩ := hhalf (by omega)
    have hidx := span_index hs2
    have hi0 := hs2.2.2.1
    have hb := hs.2.1
    have w1 : wrap64 ((comL l : Int) - 1) = (comL l : Int) - 1 := wrap_in (by omega)
    have w2 : wrap64 (2 * ((minL l + 2147483648) / 2 ^ comL l)) = 2 * ((minL l + 2147483648) / 2 ^ comL l) := wrap_in (by omega)
    have c1 : 0 < l.countP (leftOf (comL l : Int) ((minL l + 2147483648) / 2 ^ comL l)) := by
      rw [List.countP_pos_iff]
      refine ⟨_, (minL_spec h0).1, ?_⟩
      unfold leftOf
      rw [w1, w2, decide_eq_true_iff]
      exact ⟨by omega, hmin⟩
    have c2 : 0 < l.countP (fun x => !leftOf (comL l : Int) ((minL l + 2147483648) / 2 ^ comL l) x) := by
      rw [List.countP_pos_iff]
      refine ⟨_, (maxL_spec h0).1, ?_⟩
      unfold leftOf
      rw [w1, w2, decide_eq_false (by rintro ⟨_, h⟩; rw [hmax] at h; cases h)]
      rfl
    simp only [List.drop_zero, Nat.zero_add]
    rw [if_pos (by omega)]
    congr 1
    rw [decide_eq_true_iff]
    omega

theorem commons_j0 (l : List Int) (hl : l.length * 8 ≤ 140737488351232) (kk : Nat) (hkk : kk ≤ l.length) (k : Nat) (hk : 2 * l.length + 20 < k) (L I : Int) (ok : Bool) (hc : span_Common.f l = some (L, I, ok)) :
    trommellaw10_SpanCommons.j0 k l ok (kk : Int) L I = some true := by
  obtain ⟨k, rfl⟩ : ∃ m, k = m + 1 + 1 := ⟨k - 2, by omega⟩
  have hlen : (l.drop kk ++ l.take kk).length = l.length := by simp; omega
  have hc' : span_Common.f (l.drop kk ++ l.take kk) = some (L, I, ok) := by
    rw [← hc]
    apply common_perm (by omega) (by omega)
    intro x
    rw [List.mem_append, Or.comm, ← List.mem_append, List.take_append_drop]
  rw [trommellaw10_SpanCommons.j0]
  simp only [Option.bind_some, List.nil_append, Int.toNat_natCast, List.length_nil, Nat.zero_add]
  rw [if_pos (by omega), if_pos (by omega), if_pos (by rw [List.length_drop]; omega), if_pos (by rw [← List.length_append, hlen]; omega), hc']
  simp only [Option.bind_some, beq_self_eq_true, Bool.not_true, Bool.or_self]
  rw [if_neg (by decide), trommellaw10_SpanCommons.j1, if_neg (by cases ok <;> decide)]
  obtain ⟨k', hk', e⟩ := commons_l0 l ok L I (by omega) l.length 0 k (decide ((l.length : Int) > 0)) (by omega) (by omega)
  rw [show (((0 : Nat) : Int)) = 0 from rfl] at e
  rw [e, List.drop_zero]
  rw [trommellaw10_SpanCommons.l0, if_neg (by omega)]
  by_cases h0 : l = []
  · rw [common_none (by omega) (.inl h0)] at hc
    simp only [Option.some.injEq, Prod.mk.injEq] at hc
    obtain ⟨rfl, rfl, rfl⟩ := hc
    subst h0
    rfl
  · have hpos : 0 < l.length := List.length_pos_iff.2 h0
    rw [decide_eq_true (show (l.length : Int) > 0 by omega), Bool.true_and]
    by_cases ha : allIn l
    · rw [common_some (by omega) h0 ha] at hc
      simp only [Option.some.injEq, Prod.mk.injEq] at hc
      obtain ⟨rfl, rfl, rfl⟩ := hc
      rw [if_pos (by rw [List.all_eq_true]; intro x hx; rw [decide_eq_true_iff]; exact ha x hx)]
      exact commons_end l (comL l) _ (by omega) h0 ha rfl rfl k' (by omega)
    · rw [common_none (by omega) (.inr ha)] at hc
      simp only [Option.some.injEq, Prod.mk.injEq] at hc
      obtain ⟨rfl, rfl, rfl⟩ := hc
      rw [if_neg]
      · rfl
      · intro hh
        rw [List.all_eq_true] at hh
        exact ha (fun x hx => by have := hh x hx; rwa [decide_eq_true_iff] at this)

theorem SpanCommons_pure (l0 : List Int) (a1 : Int) (_hm : l0.length ≤ maxLen) (y : l0.length * 8 ≤ 140737488351232) (_hw : ∀ x ∈ l0, (Lit.int .i64 x).wf = true) (_w1 : (Lit.int .i64 a1).wf = true) : ∃ k, trommellaw10_SpanCommons.f k l0 a1 = some true := by
  refine ⟨2 * l0.length + 200, ?_⟩
  unfold trommellaw10_SpanCommons.f
  rw [fixed_ge (by omega)]
  simp only [Option.bind_some]
  rw [if_pos trivial]
  obtain ⟨L, I, ok, hc⟩ : ∃ L I ok, span_Common.f l0 = some (L, I, ok) := by
    by_cases h0 : l0 = [] ∨ ¬ allIn l0
    · exact ⟨_, _, _, common_none (by omega) h0⟩
    · rw [not_or] at h0
      exact ⟨_, _, _, common_some (by omega) h0.1 (Decidable.not_not.1 h0.2)⟩
  rw [hc]
  simp only [Option.bind_some]
  by_cases h : (l0.length : Int) > 0
  · rw [if_pos h]
    have hu : IntKind.u64.wrap (l0.length : Int) = (l0.length : Int) := by rw [IntKind.wrap_u64]; omega
    have hn : 0 ≤ IntKind.u64.wrap a1 := by rw [IntKind.wrap_u64]; omega
    rw [hu, if_neg (by omega), Int.tmod_eq_emod_of_nonneg hn]
    have h1 := Int.emod_nonneg (IntKind.u64.wrap a1) (show (l0.length : Int) ≠ 0 by omega)
    have h2 := Int.emod_lt_of_pos (IntKind.u64.wrap a1) h
    obtain ⟨kk, hkk⟩ := Int.eq_ofNat_of_zero_le h1
    rw [hkk, show wrap64 (kk : Int) = (kk : Int) by unfold wrap64; omega]
    exact commons_j0 l0 y kk (by omega) _ (by omega) L I ok hc
  · rw [if_neg h]
    exact commons_j0 l0 y 0 (by omega) _ (by omega) L I ok hc
end Go.Proofs.YtapemeboobcgmaaDoor.Prt
