/- Path and Common in plain numbers: equal to the references. Conditions: none. -/
import Derived.Test.YtapemeboobcgmaaDoorMathW
import Derived.Test.YtapemeboobcgmaaDoorMathFix
namespace Go.Proofs.YtapemeboobcgmaaDoor.Prt
open Go.RowKit Go.Proofs.YtapemeboobcgmaaDoorW.PrintWords Go.Proofs.YtapemeboobcgmaaDoorW.PrintLast Go.Proofs.YtapemeboobcgmaaDoorW.PrintMore

def pathL (X : Nat) (j n : Nat) : List S23 := (List.range' j n).map (fun (i : Nat) => (⟨(i : Int), ((X / 2 ^ i : Nat) : Int)⟩ : S23))
theorem pathL_succ (X j n : Nat) : pathL X j (n + 1) = ⟨(j : Int), ((X / 2 ^ j : Nat) : Int)⟩ :: pathL X (j + 1) n := by simp [pathL, List.range'_succ]
theorem path_l0 (X : Nat) (hX : X < 4294967296) : ∀ (n j k : Nat) (acc : List S23), j + n = 33 → n < k → acc.length + n ≤ 100 → span_Path.l0 k ((X : Int) - 2147483648) acc (j : Int) = some (acc ++ pathL X j n) := by
  intro n
  induction n with
  | zero =>
    intro j k acc hj hk hl
    obtain ⟨k, rfl⟩ : ∃ m, k = m + 1 := ⟨k - 1, by omega⟩
    simp only [span_Path.l0]
    rw [if_neg (by omega)]
    simp [pathL]
  | succ n ih =>
    intro j k acc hj hk hl
    obtain ⟨k, rfl⟩ : ∃ m, k = m + 1 := ⟨k - 1, by omega⟩
    simp only [span_Path.l0]
    rw [if_pos (by omega), at_some (by omega) (by omega) (by omega) (by omega)]
    simp only [Option.bind_some, Int.toNat_natCast]
    rw [if_pos (by omega), show wrap64 ((j : Int) + 1) = ((j + 1 : Nat) : Int) by unfold wrap64; omega, show (X : Int) - 2147483648 + 2147483648 = (X : Int) by omega, ih (j + 1) k _ (by omega) (by omega) (by simp; omega), pathL_succ, ← pow_cast, ← Int.natCast_ediv]
    simp
theorem node_of {X j : Nat} (hX : X < 4294967296) (hj : j ≤ 32) : isSpan (j : Int) ((X / 2 ^ j : Nat) : Int) := by
  have hp := Nat.two_pow_pos j
  refine ⟨by omega, by omega, Int.natCast_nonneg _, ?_⟩
  have h1 : X / 2 ^ j < 2 ^ (32 - j) := by
    rw [Nat.div_lt_iff_lt_mul hp, ← Nat.pow_add, show 32 - j + j = 32 by omega]
    exact hX
  have h2 : ((X / 2 ^ j : Nat) : Int) < ((2 ^ (32 - j) : Nat) : Int) := by omega
  rw [show (32 - (j : Int)).toNat = 32 - j by omega]
  simpa using h2
theorem node_parent {X j : Nat} (hX : X < 4294967296) (hj : j < 32) : trommelref10_Parent.f (j : Int) ((X / 2 ^ j : Nat) : Int) = some (((j + 1 : Nat) : Int), ((X / 2 ^ (j + 1) : Nat) : Int), true) := by
  rw [refParent_eq, parent_yes (node_of hX (by omega)) (by omega)]
  have e : ((X / 2 ^ j : Nat) : Int) / 2 = ((X / 2 ^ (j + 1) : Nat) : Int) := by
    rw [Nat.pow_succ, ← Nat.div_div_eq_div_mul, Int.natCast_ediv (X / 2 ^ j)]; rfl
  rw [e]; rfl
theorem refpath_l0 (X : Nat) (hX : X < 4294967296) : ∀ (n j k : Nat) (acc : List S23), j + n = 32 → n < k → acc.length + n ≤ 100 → trommelref10_Path.l0 k acc (j : Int) ((X / 2 ^ j : Nat) : Int) = some (acc ++ pathL X j (n + 1)) := by
  intro n
  induction n with
  | zero =>
    intro j k acc hj hk hl
    obtain ⟨k, rfl⟩ : ∃ m, k = m + 1 := ⟨k - 1, by omega⟩
    obtain rfl : j = 32 := by omega
    simp only [trommelref10_Path.l0]
    rw [if_pos (by omega), Option.bind_some, refParent_eq, show ((32 : Nat) : Int) = 32 from rfl, parent_no (.inr rfl)]
    simp only [Option.bind_some]
    rw [if_neg (by decide), pathL_succ]
    simp [pathL]
  | succ n ih =>
    intro j k acc hj hk hl
    obtain ⟨k, rfl⟩ : ∃ m, k = m + 1 := ⟨k - 1, by omega⟩
    simp only [trommelref10_Path.l0]
    rw [if_pos (by omega), Option.bind_some, node_parent hX (by omega)]
    simp only [Option.bind_some]
    rw [if_pos trivial, ih (j + 1) k _ (by omega) (by omega) (by simp; omega), pathL_succ X j (n + 1), List.append_assoc]
    rfl
theorem path_eq (x : Int) (k : Nat) (hk : 40 ≤ k) : ∃ ps : List S23, ps.length ≤ 1000 ∧ span_Path.f k x = some ps ∧ trommelref10_Path.f k x = some ps := by
  obtain ⟨k, rfl⟩ : ∃ m, k = m + 1 := ⟨k - 1, by omega⟩
  by_cases h : -2147483648 ≤ x ∧ x ≤ 2147483647
  · obtain ⟨X, hX⟩ := Int.eq_ofNat_of_zero_le (show 0 ≤ x + 2147483648 by omega)
    obtain rfl : x = (X : Int) - 2147483648 := by omega
    refine ⟨pathL X 0 33, by unfold pathL; rw [List.length_map, List.length_range']; omega, ?_, ?_⟩
    · unfold span_Path.f
      rw [within_some, decide_eq_true h]
      simp only [Option.bind_some]
      rw [if_pos trivial]
      have := path_l0 X (by omega) 33 0 (k + 1) [] (by omega) (by omega) (by simp)
      rw [List.nil_append] at this
      exact this
    · unfold trommelref10_Path.f
      rw [if_neg (by omega), decide_eq_false (by omega), trommelref10_Path.j0, if_neg (by decide), show wrap64 ((X : Int) - 2147483648 - -2147483648) = ((X / 2 ^ 0 : Nat) : Int) by simp; unfold wrap64; omega]
      have := refpath_l0 X (by omega) 32 0 k [] (by omega) (by omega) (by simp)
      rw [List.nil_append] at this
      exact this
  · refine ⟨[], by simp, ?_, ?_⟩
    · unfold span_Path.f
      rw [within_some, decide_eq_false h]
      simp
    · unfold trommelref10_Path.f
      split
      · rw [trommelref10_Path.j0, if_pos rfl]
      · rw [decide_eq_true (by omega), trommelref10_Path.j0, if_pos rfl]

theorem same_l0 (l : List S23) (hl : l.length ≤ 1000) : ∀ (n k i : Nat), i + n = l.length → n < k → trommellaw10_same.l0 k l l (l.length : Int) (i : Int) = some true := by
  intro n
  induction n with
  | zero =>
    intro k i hi hk
    obtain ⟨k, rfl⟩ : ∃ m, k = m + 1 := ⟨k - 1, by omega⟩
    simp only [trommellaw10_same.l0]
    rw [if_neg (by omega)]
  | succ n ih =>
    intro k i hi hk
    obtain ⟨k, rfl⟩ : ∃ m, k = m + 1 := ⟨k - 1, by omega⟩
    simp only [trommellaw10_same.l0]
    rw [if_pos (by omega), if_pos (by omega), if_pos (by omega), if_pos (by omega), if_neg (by simp), show wrap64 ((i : Int) + 1) = ((i + 1 : Nat) : Int) by unfold wrap64; omega]
    exact ih k (i + 1) (by omega) (by omega)
theorem same_refl (l : List S23) (hl : l.length ≤ 1000) : trommellaw10_same.f 1001 l l = some true := by
  unfold trommellaw10_same.f
  rw [if_pos rfl]
  exact same_l0 l hl l.length _ 0 (by omega) (by omega)

theorem node_has {X0 X j : Nat} (h0 : X0 < 4294967296) (hj : j ≤ 32) : trommelref10_Has.f (j : Int) ((X0 / 2 ^ j : Nat) : Int) ((X : Int) - 2147483648) = some (decide (X / 2 ^ j = X0 / 2 ^ j)) := by
  have hp := Nat.two_pow_pos j
  rw [refHas_eq, has_yes _ (node_of h0 hj), Int.toNat_natCast, ← pow_cast, ← Int.natCast_mul]
  congr 1
  have h := nat_div_iff (x := X) (I := X0 / 2 ^ j) hp
  by_cases e : X / 2 ^ j = X0 / 2 ^ j
  · rw [decide_eq_true e, decide_eq_true_iff]
    have := h.1 e
    omega
  · rw [decide_eq_false e, decide_eq_false_iff_not]
    intro hh
    exact e (h.2 (by omega))
theorem div_up {a b j : Nat} (h : a / 2 ^ j = b / 2 ^ j) : a / 2 ^ (j + 1) = b / 2 ^ (j + 1) := by
  rw [Nat.pow_succ, ← Nat.div_div_eq_div_mul, ← Nat.div_div_eq_div_mul, h]

/-- A list of shifted numbers. -/
def shL (xs : List Nat) : List Int := xs.map (fun (X : Nat) => (X : Int) - 2147483648)
theorem rd_shL (xs : List Nat) (i : Nat) (hi : i < xs.length) : rd (shL xs) (i : Int) = ((xs[i] : Nat) : Int) - 2147483648 := by
  unfold rd shL
  rw [Int.toNat_natCast, List.getD_eq_getElem?_getD, List.getElem?_map, List.getElem?_eq_getElem hi]
  rfl
theorem common_l2 (X0 c : Nat) (h0 : X0 < 4294967296) (hc : c ≤ 32) (xs : List Nat) (hlen : xs.length < 9223372036854775807) (hall : ∀ i, (hi : i < xs.length) → xs[i] / 2 ^ c = X0 / 2 ^ c) :
    ∀ (m k i j : Nat), m = 2 * (xs.length - i) + (c - j) → m < k → i < xs.length → j ≤ c → (∀ i', (hi : i' < xs.length) → i' < i → xs[i'] / 2 ^ j = X0 / 2 ^ j) →
      ∃ j', j' ≤ c ∧ (∀ i', (hi : i' < xs.length) → xs[i'] / 2 ^ j' = X0 / 2 ^ j') ∧ trommelref10_Common.l2 k (shL xs) (i : Int) (j : Int) ((X0 / 2 ^ j : Nat) : Int) = some ((j' : Int), ((X0 / 2 ^ j' : Nat) : Int), true) := by
  intro m
  induction m using Nat.strongRecOn with
  | _ m ih =>
    intro k i j hm hk hi hj hbef
    have hsl : (shL xs).length = xs.length := by simp [shL]
    obtain ⟨k, rfl⟩ : ∃ m, k = m + 1 + 1 := ⟨k - 2, by omega⟩
    rw [trommelref10_Common.l2, if_pos (by omega), if_pos (by omega), rd_shL xs i hi, node_has h0 (by omega)]
    simp only [Option.bind_some]
    by_cases he : xs[i] / 2 ^ j = X0 / 2 ^ j
    · rw [decide_eq_true he, if_pos rfl, show wrap64 ((i : Int) + 1) = ((i + 1 : Nat) : Int) by unfold wrap64; omega]
      have hbef' : ∀ i', (hi : i' < xs.length) → i' < i + 1 → xs[i'] / 2 ^ j = X0 / 2 ^ j := by
        intro i' hi' hlt
        rcases Nat.lt_or_ge i' i with h | h
        · exact hbef i' hi' h
        · obtain rfl : i' = i := by omega
          exact he
      rw [trommelref10_Common.l1]
      by_cases hlast : i + 1 < xs.length
      · rw [if_pos (by omega)]
        exact ih (2 * (xs.length - (i + 1)) + (c - j)) (by omega) k (i + 1) j rfl (by omega) hlast hj hbef'
      · rw [if_neg (by omega)]
        exact ⟨j, hj, fun i' hi' => hbef' i' hi' (by omega), rfl⟩
    · rw [decide_eq_false he, if_neg (by decide)]
      have hjc : j < c := by
        rcases Nat.lt_or_ge j c with h | h
        · exact h
        · obtain rfl : j = c := by omega
          exact absurd (hall i hi) he
      rw [node_parent h0 (by omega)]
      simp only [Option.bind_some]
      exact ih (2 * (xs.length - i) + (c - (j + 1))) (by omega) (k + 1) i (j + 1) rfl (by omega) hi (by omega) (fun i' hi' hlt => div_up (hbef i' hi' hlt))

theorem common_l0 (l : List Int) (hlen : l.length < 9223372036854775807) (h : allIn l) : ∀ (n k i : Nat), i + n = l.length → n < k → trommelref10_Common.l0 k l (i : Int) = trommelref10_Common.l0 (k - n) l (l.length : Int) := by
  intro n
  induction n with
  | zero =>
    intro k i hi hk
    obtain rfl : i = l.length := by omega
    rfl
  | succ n ih =>
    intro k i hi hk
    obtain ⟨k, rfl⟩ : ∃ m, k = m + 1 := ⟨k - 1, by omega⟩
    have hr : rd l (i : Int) ∈ l := by
      unfold rd
      rw [Int.toNat_natCast, List.getD_eq_getElem?_getD, List.getElem?_eq_getElem (show i < l.length by omega)]
      exact List.getElem_mem _
    have hh := h _ hr
    rw [trommelref10_Common.l0, if_pos (by omega), if_pos (by omega), if_neg (by omega), if_neg (by omega), show wrap64 ((i : Int) + 1) = ((i + 1 : Nat) : Int) by unfold wrap64; omega, ih k (i + 1) (by omega) (by omega), show k + 1 - (n + 1) = k - n by omega]
theorem common_l0_out (l : List Int) (hlen : l.length < 9223372036854775807) (h : ¬ allIn l) : ∀ (n k i : Nat), i + n = l.length → n < k → (∀ i', (hi : i' < l.length) → i' < i → -2147483648 ≤ l[i'] ∧ l[i'] ≤ 2147483647) → trommelref10_Common.l0 k l (i : Int) = some (0, 0, false) := by
  intro n
  induction n with
  | zero =>
    intro k i hi hk hb
    exact absurd (fun x hx => by
      obtain ⟨i', hi', rfl⟩ := List.getElem_of_mem hx
      exact hb i' hi' (by omega)) h
  | succ n ih =>
    intro k i hi hk hb
    obtain ⟨k, rfl⟩ : ∃ m, k = m + 1 := ⟨k - 1, by omega⟩
    have hr : rd l (i : Int) = l[i]'(by omega) := by
      unfold rd
      rw [Int.toNat_natCast, List.getD_eq_getElem?_getD, List.getElem?_eq_getElem (show i < l.length by omega)]
      rfl
    rw [trommelref10_Common.l0, if_pos (by omega), if_pos (by omega), hr]
    by_cases h1 : l[i]'(by omega) < -2147483648
    · rw [if_pos h1]
    · rw [if_neg h1]
      by_cases h2 : l[i]'(by omega) > 2147483647
      · rw [if_pos h2]
      · rw [if_neg h2, show wrap64 ((i : Int) + 1) = ((i + 1 : Nat) : Int) by unfold wrap64; omega]
        refine ih k (i + 1) (by omega) (by omega) (fun i' hi' hlt => ?_)
        rcases Nat.lt_or_ge i' i with g | g
        · exact hb i' hi' g
        · obtain rfl : i' = i := by omega
          omega

theorem common_eq (l : List Int) (hlen : l.length < 9223372036854775806) (k : Nat) (hk : 3 * l.length + 40 ≤ k) : ∃ L I b, span_Common.f l = some (L, I, b) ∧ trommelref10_Common.f k l = some (L, I, b) := by
  by_cases h : allIn l
  · have e0 : trommelref10_Common.f k l = trommelref10_Common.l0 (k - l.length) l (l.length : Int) := common_l0 l (by omega) h l.length k 0 (by omega) (by omega)
    obtain ⟨k', hk', hkb⟩ : ∃ m, k - l.length = m + 1 + 1 ∧ 2 * l.length + 36 ≤ m := ⟨k - l.length - 2, by omega, by omega⟩
    rw [hk'] at e0
    by_cases hn : l = []
    · refine ⟨0, 0, false, common_none (by omega) (.inl hn), ?_⟩
      rw [e0, trommelref10_Common.l0, if_neg (by omega), if_pos (by simp [hn])]
    · have hpos : 0 < l.length := List.length_pos_iff.2 hn
      refine ⟨_, _, _, common_some (by omega) hn h, ?_⟩
      obtain ⟨xs, rfl⟩ : ∃ xs : List Nat, l = shL xs := by
        refine ⟨l.map (fun x => (x + 2147483648).toNat), ?_⟩
        unfold shL
        rw [List.map_map]
        symm
        have : l.map ((fun (X : Nat) => (X : Int) - 2147483648) ∘ fun x => (x + 2147483648).toNat) = l.map id := by
          apply List.map_congr_left
          intro x hx
          have := h x hx
          simp only [Function.comp, id]
          omega
        rw [this, List.map_id]
      have hsl : (shL xs).length = xs.length := by simp [shL]
      have hmem : ∀ X, X ∈ xs ↔ ((X : Nat) : Int) - 2147483648 ∈ shL xs := by
        intro X
        unfold shL
        rw [List.mem_map]
        refine ⟨fun hX => ⟨X, hX, rfl⟩, ?_⟩
        rintro ⟨Y, hY, e⟩
        obtain rfl : Y = X := by omega
        exact hY
      obtain ⟨m1, m2⟩ := minL_spec hn
      obtain ⟨x1, x2⟩ := maxL_spec hn
      obtain ⟨A, hA, hA2, hA3⟩ := shift_nat (h _ m1)
      obtain ⟨B, hB, hB2, hB3⟩ := shift_nat (h _ x1)
      have hAB : A ≤ B := by have := m2 _ x1; omega
      have mA : A ∈ xs := (hmem A).2 (by rw [show (A : Int) - 2147483648 = minL (shL xs) by omega]; exact m1)
      have mB : B ∈ xs := (hmem B).2 (by rw [show (B : Int) - 2147483648 = maxL (shL xs) by omega]; exact x1)
      have hbd : ∀ X, X ∈ xs → A ≤ X ∧ X ≤ B := by
        intro X hX
        have h1 := m2 _ ((hmem X).1 hX)
        have h2 := x2 _ ((hmem X).1 hX)
        omega
      obtain ⟨s1, s2, s3⟩ := level_spec A B hAB hB2
      unfold comL
      rw [hA3, hB3, hA]
      generalize levelOf A B = c at *
      have hq : ∀ X, X ∈ xs → X / 2 ^ c = A / 2 ^ c := by
        intro X hX
        obtain ⟨b1, b2⟩ := hbd X hX
        have d1 : A / 2 ^ c ≤ X / 2 ^ c := Nat.div_le_div_right b1
        have d2 : X / 2 ^ c ≤ B / 2 ^ c := Nat.div_le_div_right b2
        omega
      have hpx : 0 < xs.length := by omega
      obtain ⟨X0, hX0⟩ : ∃ X0, xs[0]'hpx = X0 := ⟨_, rfl⟩
      have mX0 : X0 ∈ xs := hX0 ▸ List.getElem_mem _
      have hX0b : X0 < 4294967296 := by have := (hbd X0 mX0).2; omega
      have hall : ∀ i, (hi : i < xs.length) → xs[i] / 2 ^ c = X0 / 2 ^ c := fun i hi => by rw [hq _ (List.getElem_mem hi), hq X0 mX0]
      obtain ⟨j', hj', hall', hrun⟩ := common_l2 X0 c hX0b s1 xs (by omega) hall (2 * (xs.length - 0) + (c - 0)) k' 0 0 rfl (by omega) hpx (Nat.zero_le _) (fun i' hi' hlt => by omega)
      have hall2 : ∀ X, X ∈ xs → X / 2 ^ j' = X0 / 2 ^ j' := by
        intro X hX
        obtain ⟨i', hi', rfl⟩ := List.getElem_of_mem hX
        exact hall' i' hi'
      have hjc : j' = c := by
        rcases Nat.lt_or_ge j' c with hlt | hge
        · exfalso
          have hup : ∀ d, A / 2 ^ (j' + d) = B / 2 ^ (j' + d) := by
            intro d
            induction d with
            | zero => rw [Nat.add_zero, hall2 A mA, hall2 B mB]
            | succ d ih => exact div_up ih
          have h1 := hup (c - 1 - j')
          rw [show j' + (c - 1 - j') = c - 1 by omega] at h1
          obtain ⟨t1, t2⟩ := s3 (by omega)
          omega
        · omega
      subst hjc
      have hr0 : rd (shL xs) 0 = (X0 : Int) - 2147483648 := by
        have := rd_shL xs 0 hpx
        rw [hX0] at this
        exact this
      rw [e0, trommelref10_Common.l0, if_neg (by omega), if_neg (by omega), if_pos (by omega), hr0, trommelref10_Common.l1, if_pos (by omega), show wrap64 ((X0 : Int) - 2147483648 - -2147483648) = ((X0 / 2 ^ 0 : Nat) : Int) by rw [Nat.pow_zero, Nat.div_one]; unfold wrap64; omega]
      rw [show ((0 : Nat) : Int) = 0 from rfl] at hrun
      rw [hrun, hq X0 mX0, ← pow_cast, ← Int.natCast_ediv]
  · refine ⟨0, 0, false, common_none (by omega) (.inr h), ?_⟩
    exact common_l0_out l (by omega) h l.length k 0 (by omega) (by omega) (fun i' hi' hlt => by omega)
end Go.Proofs.YtapemeboobcgmaaDoor.Prt
