/- What span.Common answers: the lowest span that has all the numbers. Conditions: the bounds in each lemma. -/
import Derived.Test.YtapemeboobcgmaaDoorPrt3
import Derived.Test.YtapemeboobcgmaaDoorMathA
namespace Go.Proofs.YtapemeboobcgmaaDoor.Prt
open Go.RowKit Go.Proofs.YtapemeboobcgmaaDoorW.PrintWords Go.Proofs.YtapemeboobcgmaaDoorW.PrintLast Go.Proofs.YtapemeboobcgmaaDoorW.PrintMore

theorem notIn_false {x : Int} : notIn x = false ↔ -2147483648 ≤ x ∧ x ≤ 2147483647 := by
  unfold notIn
  simp
theorem idxNot_iff : ∀ (l : List Int) (k : Nat), 0 ≤ idxNot l k ↔ ∃ x, x ∈ l ∧ notIn x = true := by
  intro l
  induction l with
  | nil => intro k; simp [idxNot]
  | cons x r ih =>
    intro k
    rw [idxNot]
    by_cases h : notIn x = true
    · rw [if_pos h]
      exact ⟨fun _ => ⟨x, List.mem_cons_self, h⟩, fun _ => by omega⟩
    · rw [if_neg h, ih]
      constructor
      · rintro ⟨y, hy, h2⟩; exact ⟨y, List.mem_cons_of_mem _ hy, h2⟩
      · rintro ⟨y, hy, h2⟩
        rcases List.mem_cons.1 hy with rfl | hy
        · exact absurd h2 h
        · exact ⟨y, hy, h2⟩

theorem foldl_mn : ∀ (r : List Int) (x : Int), (r.foldl mn x = x ∨ r.foldl mn x ∈ r) ∧ r.foldl mn x ≤ x ∧ ∀ y ∈ r, r.foldl mn x ≤ y := by
  intro r
  induction r with
  | nil => intro x; simp
  | cons z r ih =>
    intro x
    obtain ⟨h1, h2, h3⟩ := ih (mn x z)
    have hm : mn x z ≤ x ∧ mn x z ≤ z ∧ (mn x z = x ∨ mn x z = z) := by unfold mn; omega
    rw [List.foldl_cons]
    refine ⟨?_, by omega, fun y hy => ?_⟩
    · rcases h1 with h1 | h1
      · rcases hm.2.2 with h | h
        · left; omega
        · right; rw [h1, h]; exact List.mem_cons_self
      · right; exact List.mem_cons_of_mem _ h1
    · rcases List.mem_cons.1 hy with rfl | hy
      · omega
      · exact h3 y hy
theorem foldl_mx : ∀ (r : List Int) (x : Int), (r.foldl mx x = x ∨ r.foldl mx x ∈ r) ∧ x ≤ r.foldl mx x ∧ ∀ y ∈ r, y ≤ r.foldl mx x := by
  intro r
  induction r with
  | nil => intro x; simp
  | cons z r ih =>
    intro x
    obtain ⟨h1, h2, h3⟩ := ih (mx x z)
    have hm : x ≤ mx x z ∧ z ≤ mx x z ∧ (mx x z = x ∨ mx x z = z) := by unfold mx; omega
    rw [List.foldl_cons]
    refine ⟨?_, by omega, fun y hy => ?_⟩
    · rcases h1 with h1 | h1
      · rcases hm.2.2 with h | h
        · left; omega
        · right; rw [h1, h]; exact List.mem_cons_self
      · right; exact List.mem_cons_of_mem _ h1
    · rcases List.mem_cons.1 hy with rfl | hy
      · omega
      · exact h3 y hy
theorem minL_spec {l : List Int} (h : l ≠ []) : minL l ∈ l ∧ ∀ y ∈ l, minL l ≤ y := by
  obtain ⟨x, r, rfl⟩ := List.exists_cons_of_ne_nil h
  obtain ⟨h1, h2, h3⟩ := foldl_mn r x
  show r.foldl mn x ∈ x :: r ∧ ∀ y ∈ x :: r, r.foldl mn x ≤ y
  refine ⟨?_, fun y hy => ?_⟩
  · rcases h1 with h1 | h1
    · rw [h1]; exact List.mem_cons_self
    · exact List.mem_cons_of_mem _ h1
  · rcases List.mem_cons.1 hy with rfl | hy
    · exact h2
    · exact h3 y hy
theorem maxL_spec {l : List Int} (h : l ≠ []) : maxL l ∈ l ∧ ∀ y ∈ l, y ≤ maxL l := by
  obtain ⟨x, r, rfl⟩ := List.exists_cons_of_ne_nil h
  obtain ⟨h1, h2, h3⟩ := foldl_mx r x
  show r.foldl mx x ∈ x :: r ∧ ∀ y ∈ x :: r, y ≤ r.foldl mx x
  refine ⟨?_, fun y hy => ?_⟩
  · rcases h1 with h1 | h1
    · rw [h1]; exact List.mem_cons_self
    · exact List.mem_cons_of_mem _ h1
  · rcases List.mem_cons.1 hy with rfl | hy
    · exact h2
    · exact h3 y hy

/-- All of them are values. -/
def allIn (l : List Int) : Prop := ∀ x ∈ l, -2147483648 ≤ x ∧ x ≤ 2147483647
instance (l : List Int) : Decidable (allIn l) := by unfold allIn; infer_instance
theorem idxNot_all {l : List Int} : ¬ 0 ≤ idxNot l 0 ↔ allIn l := by
  rw [idxNot_iff]
  constructor
  · intro h x hx
    rw [← notIn_false]
    cases hn : notIn x
    · rfl
    · exact absurd ⟨x, hx, hn⟩ h
  · rintro h ⟨x, hx, hn⟩
    rw [notIn_false.2 (h x hx)] at hn
    cases hn

theorem common_none {l : List Int} (hl : l.length ≤ 9223372036854775806) (h : l = [] ∨ ¬ allIn l) : span_Common.f l = some (0, 0, false) := by
  unfold span_Common.f
  rw [if_pos hl]
  rcases h with h | h
  · rw [if_pos h]
  · by_cases h0 : l = []
    · rw [if_pos h0]
    · rw [if_neg h0, if_pos (Decidable.byContradiction (fun hn => h (idxNot_all.1 hn)))]

/-- The level and the index of the lowest common span. -/
def comL (l : List Int) : Nat := levelOf (minL l + 2147483648).toNat (maxL l + 2147483648).toNat
theorem common_some {l : List Int} (hl : l.length ≤ 9223372036854775806) (h0 : l ≠ []) (h : allIn l) : span_Common.f l = some ((comL l : Int), (minL l + 2147483648) / 2 ^ comL l, true) := by
  have h1 := h _ (minL_spec h0).1
  have h2 := h _ (maxL_spec h0).1
  unfold span_Common.f comL
  rw [if_pos hl, if_neg h0, if_neg (idxNot_all.2 h), if_pos ⟨h1.1, h1.2, h2.1, h2.2⟩]

theorem xor_zero {a b : Nat} (h : a ^^^ b = 0) : a = b := by
  apply Nat.eq_of_testBit_eq
  intro i
  have h1 := congrArg (fun z => z.testBit i) h
  simp only [Nat.testBit_xor, Nat.zero_testBit] at h1
  revert h1
  cases a.testBit i <;> cases b.testBit i <;> simp

theorem level_spec (a b : Nat) (hab : a ≤ b) (hb : b < 4294967296) : levelOf a b ≤ 32 ∧ a / 2 ^ levelOf a b = b / 2 ^ levelOf a b ∧
    (0 < levelOf a b → a / 2 ^ (levelOf a b - 1) = 2 * (a / 2 ^ levelOf a b) ∧ b / 2 ^ (levelOf a b - 1) = 2 * (a / 2 ^ levelOf a b) + 1) := by
  have hx : a ^^^ b < 2 ^ 32 := Nat.xor_lt_two_pow (by omega) (by omega)
  have h32 := Lib.bitLen_le (a ^^^ b) 32 (by decide) hx
  unfold levelOf
  refine ⟨h32, ?_⟩
  by_cases h0 : a ^^^ b = 0
  · rw [h0]
    have : a = b := xor_zero h0
    subst this
    refine ⟨rfl, fun h => absurd h (by decide)⟩
  · obtain ⟨h1, h2, h3⟩ := Lib.bitLenAux_bounds 64 (a ^^^ b) (by omega) h0
    have h1' : 1 ≤ Lib.bitLen (a ^^^ b) := h1
    have h2' : 2 ^ (Lib.bitLen (a ^^^ b) - 1) ≤ a ^^^ b := h2
    have h3' : a ^^^ b < 2 ^ Lib.bitLen (a ^^^ b) := h3
    generalize Lib.bitLen (a ^^^ b) = L at *
    clear h1 h2 h3
    obtain ⟨m, rfl⟩ : ∃ m, L = m + 1 := ⟨L - 1, by omega⟩
    simp only [Nat.add_sub_cancel] at h2' ⊢
    have e1 : (a ^^^ b) / 2 ^ m = (a / 2 ^ m) ^^^ (b / 2 ^ m) := by
      rw [← Nat.shiftRight_eq_div_pow, ← Nat.shiftRight_eq_div_pow, ← Nat.shiftRight_eq_div_pow, Nat.shiftRight_xor_distrib]
    have e2 : (a ^^^ b) / 2 ^ m = 1 := by
      rw [Nat.pow_succ] at h3'
      have hp := Nat.two_pow_pos m
      rw [Nat.div_eq_iff hp]
      omega
    rw [e1] at e2
    have e3 : a / 2 ^ m ≤ b / 2 ^ m := Nat.div_le_div_right hab
    have e4 : ∀ z : Nat, z / 2 ^ (m + 1) = z / 2 ^ m / 2 := fun z => by rw [Nat.pow_succ, Nat.div_div_eq_div_mul]
    rw [e4 a, e4 b]
    generalize a / 2 ^ m = u at *
    generalize b / 2 ^ m = v at *
    have e5 : (u ^^^ v) / 2 = 0 := by rw [e2]
    have e6 : (u ^^^ v) % 2 = 1 := by rw [e2]
    rw [Nat.xor_div_two] at e5
    rw [Nat.xor_mod_two_eq_one] at e6
    have e7 : u / 2 = v / 2 := xor_zero e5
    refine ⟨e7, fun _ => ?_⟩
    omega

theorem shift_nat {x : Int} (h : -2147483648 ≤ x ∧ x ≤ 2147483647) : ∃ n : Nat, x + 2147483648 = (n : Int) ∧ n < 4294967296 ∧ (x + 2147483648).toNat = n := by
  obtain ⟨n, hn⟩ := Int.eq_ofNat_of_zero_le (show 0 ≤ x + 2147483648 by omega)
  exact ⟨n, hn, by omega, by omega⟩

theorem nat_div_iff {x I q : Nat} (hq : 0 < q) : x / q = I ↔ I * q ≤ x ∧ x < I * q + q := by
  rw [Nat.div_eq_iff hq]
  omega

/-- The lowest common span has all of them; where it is not of level 0, the least number lies in its left half, the greatest does not. -/
theorem common_has {l : List Int} (h0 : l ≠ []) (h : allIn l) : isSpan (comL l : Int) ((minL l + 2147483648) / 2 ^ comL l) ∧ (∀ x ∈ l, span_Has.f (comL l : Int) ((minL l + 2147483648) / 2 ^ comL l) x = some true) ∧
    (0 < comL l → isSpan ((comL l : Int) - 1) (2 * ((minL l + 2147483648) / 2 ^ comL l)) ∧ span_Has.f ((comL l : Int) - 1) (2 * ((minL l + 2147483648) / 2 ^ comL l)) (minL l) = some true ∧ span_Has.f ((comL l : Int) - 1) (2 * ((minL l + 2147483648) / 2 ^ comL l)) (maxL l) = some false) := by
  obtain ⟨m1, m2⟩ := minL_spec h0
  obtain ⟨x1, x2⟩ := maxL_spec h0
  obtain ⟨A, hA, hA2, hA3⟩ := shift_nat (h _ m1)
  obtain ⟨B, hB, hB2, hB3⟩ := shift_nat (h _ x1)
  have hAB : A ≤ B := by have := m2 _ x1; omega
  obtain ⟨s1, s2, s3⟩ := level_spec A B hAB hB2
  unfold comL
  rw [hA3, hB3, hA]
  generalize levelOf A B = L at *
  have hp := Nat.two_pow_pos L
  have hI : (A : Int) / 2 ^ L = ((A / 2 ^ L : Nat) : Int) := by simp
  rw [hI]
  have hsp : isSpan (L : Int) ((A / 2 ^ L : Nat) : Int) := by
    refine ⟨by omega, by omega, Int.natCast_nonneg _, ?_⟩
    have h1 : A / 2 ^ L < 2 ^ (32 - L) := by
      rw [Nat.div_lt_iff_lt_mul hp, ← Nat.pow_add, show 32 - L + L = 32 by omega]
      exact hA2
    have h2 : ((A / 2 ^ L : Nat) : Int) < ((2 ^ (32 - L) : Nat) : Int) := by omega
    rw [show (32 - (L : Int)).toNat = 32 - L by omega]
    simpa using h2
  refine ⟨hsp, fun x hx => ?_, fun hL => ?_⟩
  · obtain ⟨X, hX, hX2, _⟩ := shift_nat (h _ hx)
    have g1 := m2 _ hx
    have g2 := x2 _ hx
    have d1 : A / 2 ^ L ≤ X / 2 ^ L := Nat.div_le_div_right (by omega)
    have d2 : X / 2 ^ L ≤ B / 2 ^ L := Nat.div_le_div_right (by omega)
    have d3 := (nat_div_iff (x := X) (I := A / 2 ^ L) hp).1 (by omega)
    rw [has_yes x hsp]
    congr 1
    rw [decide_eq_true_iff, Int.toNat_natCast, show (2 : Int) ^ L = ((2 ^ L : Nat) : Int) by simp, ← Int.natCast_mul]
    omega
  · obtain ⟨t1, t2⟩ := s3 hL
    obtain ⟨n, rfl⟩ : ∃ n, L = n + 1 := ⟨L - 1, by omega⟩
    simp only [Nat.add_sub_cancel] at t1 t2
    have hpn := Nat.two_pow_pos n
    generalize hJ : A / 2 ^ (n + 1) = J at *
    rw [show (((n + 1 : Nat) : Int) - 1) = (n : Int) by omega]
    have hsp2 : isSpan (n : Int) (2 * (J : Int)) := by
      obtain ⟨_, _, _, q4⟩ := hsp
      refine ⟨by omega, by omega, by omega, ?_⟩
      have e : (2 : Int) ^ (32 - (n : Int)).toNat = 2 ^ (32 - ((n + 1 : Nat) : Int)).toNat * 2 := by
        rw [← Int.pow_succ]; congr 1; omega
      omega
    have d1 := (nat_div_iff (x := A) (I := 2 * J) hpn).1 (by omega)
    have d2 := (nat_div_iff (x := B) (I := 2 * J + 1) hpn).1 (by omega)
    rw [Nat.succ_mul] at d2
    have e1 : (2 * (J : Int)) * 2 ^ n = ((2 * J * 2 ^ n : Nat) : Int) := by simp
    have e2 : (2 : Int) ^ n = ((2 ^ n : Nat) : Int) := by simp
    refine ⟨hsp2, ?_, ?_⟩
    · rw [has_yes _ hsp2]
      congr 1
      rw [decide_eq_true_iff, Int.toNat_natCast, e1, e2]
      omega
    · rw [has_yes _ hsp2]
      congr 1
      rw [decide_eq_false_iff_not, Int.toNat_natCast, e1, e2]
      omega

/-- Common sees the members alone. -/
theorem common_perm {l l' : List Int} (hl : l.length ≤ 9223372036854775806) (hl' : l'.length ≤ 9223372036854775806) (h : ∀ x, x ∈ l ↔ x ∈ l') : span_Common.f l = span_Common.f l' := by
  by_cases h0 : l = []
  · have : l' = [] := by
      cases l' with
      | nil => rfl
      | cons y r => have := (h y).2 List.mem_cons_self; rw [h0] at this; cases this
    rw [h0, this]
  · have h0' : l' ≠ [] := by
      rintro rfl
      obtain ⟨x, r, rfl⟩ := List.exists_cons_of_ne_nil h0
      exact absurd ((h x).1 List.mem_cons_self) (by simp)
    by_cases ha : allIn l
    · have ha' : allIn l' := fun x hx => ha x ((h x).2 hx)
      have e1 : minL l = minL l' := by
        have g1 := (minL_spec h0).2 _ ((h _).2 (minL_spec h0').1)
        have g2 := (minL_spec h0').2 _ ((h _).1 (minL_spec h0).1)
        omega
      have e2 : maxL l = maxL l' := by
        have g1 := (maxL_spec h0).2 _ ((h _).2 (maxL_spec h0').1)
        have g2 := (maxL_spec h0').2 _ ((h _).1 (maxL_spec h0).1)
        omega
      rw [common_some hl h0 ha, common_some hl' h0' ha']
      unfold comL
      rw [e1, e2]
    · rw [common_none hl (.inr ha), common_none hl' (.inr (fun ha' => ha (fun x hx => ha' x ((h x).1 hx))))]
end Go.Proofs.YtapemeboobcgmaaDoor.Prt
