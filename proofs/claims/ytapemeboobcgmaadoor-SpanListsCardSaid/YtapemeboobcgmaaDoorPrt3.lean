/- What the Go functions of this text compute, each as a plain Lean function, and that the machine's call comes to it. Laid by a program of this session. -/
import Derived.Test.YtapemeboobcgmaaDoorPrt0
import Derived.Test.YtapemeboobcgmaaDoorPrt2
namespace Go.Proofs.YtapemeboobcgmaaDoor.Prt
open Go.RowKit Go.Proofs.YtapemeboobcgmaaDoorW.PrintWords Go.Proofs.YtapemeboobcgmaaDoorW.PrintLast Go.Proofs.YtapemeboobcgmaaDoorW.PrintMore
attribute [local go_sem] max2_int min2_int max_two min_two max_three min_three max_four min_four   -- for this text's walks alone
set_option linter.unusedVariables false
set_option linter.unusedSimpArgs false

/-! ### slices_Max_int_int: function 32 -/
def slices_Max_int_int.l0 : Nat → List Int → Int → Int → Option (Int)
  | 0, _, _, _ => none
  | k + 1, x0, x3, x4 => if x4 < (x0.length : Int) then (if 0 ≤ x4 then (slices_Max_int_int.l0 k x0 (mx x3 (rd x0 x4)) (wrap64 (x4 + 1))) else (none)) else (some x3)
def slices_Max_int_int.f (k : Nat) (l0 : List Int) : Option (Int) := if (l0.length : Int) < 1 then (none) else (if 0 < (l0.length : Int) then (slices_Max_int_int.l0 k l0 (rd l0 0) 1) else (none))
theorem slices_Max_int_int.mono_l : ∀ k, (∀ y0 y1 y2, LeO (slices_Max_int_int.l0 k y0 y1 y2) (slices_Max_int_int.l0 (k + 1) y0 y1 y2))
  | 0 => fun _ _ _ r h => by simp [slices_Max_int_int.l0] at h
  | k + 1 => by
    have ih0 := slices_Max_int_int.mono_l k
    · intro y0 y1 y2
      unfold slices_Max_int_int.l0
      repeat' first
      | (with_reducible exact ih0 _ _ _)
      | (with_reducible exact LeO.refl _)
      | (with_reducible exact LeO.none _)
      | (with_reducible refine LeO.ite ?_ ?_)
      | (with_reducible refine LeO.bind ?_ (fun _ => ?_))
      | exact ih0 _ _ _
      | exact LeO.none _
      | refine LeO.ite ?_ ?_
      | refine LeO.bind ?_ (fun _ => ?_)
theorem slices_Max_int_int.mono : ∀ a0 k, LeO (slices_Max_int_int.f k a0) (slices_Max_int_int.f (k + 1) a0) := by
  intro a0 k
  have ih0 := slices_Max_int_int.mono_l k
  unfold slices_Max_int_int.f
  repeat' first
      | (with_reducible exact ih0 _ _ _)
      | (with_reducible exact LeO.refl _)
      | (with_reducible exact LeO.none _)
      | (with_reducible refine LeO.ite ?_ ?_)
      | (with_reducible refine LeO.bind ?_ (fun _ => ?_))
      | exact ih0 _ _ _
      | exact LeO.none _
      | refine LeO.ite ?_ ?_
      | refine LeO.bind ?_ (fun _ => ?_)
set_option maxHeartbeats 8000000 in
set_option maxRecDepth 100000 in
theorem slices_Max_int_int.calls (k : Nat) (A0 : Option Addr) (c0 : Nat) (l0 : List Int) (r : Int) (w : World) (hr0 : Kd.C (Kd.int .i64) w A0 l0.length l0) (hc0 : l0.length ≤ c0) (h : slices_Max_int_int.f k l0 = some r) :
    Calls Tryd.prog 32 #[.slice A0 l0.length c0] w fun e w' => e = .returned (.int .i64 r) ∧ Below w.heap.size w w' := by
  have HR0 := Aside0.mk hr0
  have HC0 := Aside0.mk hc0
  clear hr0 hc0
  have HB := Aside0.mk (Below.refl w.heap.size w)
  have H : (if (l0.length : Int) < 1 then (none) else (if 0 < (l0.length : Int) then (slices_Max_int_int.l0 k l0 (rd l0 0) 1) else (none))) = some r := h
  clear h
  by_cases c2 : (l0.length : Int) < 1
  · rw [if_pos c2] at H
    exact absurd H (by simp)
  · rw [if_neg c2] at H
    have c2b0 : decide ((l0.length : Int) < 1) = false := decide_eq_false c2
    have c2b1 : decide (l0.length < 1) = false := decide_eq_false (by omega)
    clear c2
    by_cases c3 : 0 < (l0.length : Int)
    · rw [if_pos c3] at H
      have c3b0 : decide (0 < (l0.length : Int)) = true := decide_eq_true c3
      have c3b1 : decide (0 < l0.length) = true := decide_eq_true (by omega)
      clear c3
      have H' := Aside0.mk H
      clear H
      have p114 : 0 ≤ (0 : Int) := (by omega)
      have q114 : 0 < (l0.length : Int) := of_decide_eq_true (by first | (with_reducible assumption) | assumption)
      obtain ⟨ad114, e114, hx114_0⟩ := Kd.at_int HR0.out 0 p114 q114
      cases e114
      have qi114 : (0 < l0.length) = True := eq_true (by omega)
      (try rw [show ((0 : Int)).toNat = 0 from rfl] at hx114_0)
      (try rw [Addr.add_zero'] at hx114_0)
      replace p114 := eq_true p114
      replace q114 := eq_true q114
      go_enter Tryd.func32, Tryd.ntmps32
      go_wp2
      go_loopg [3, 4] k (fun kq v3 v4 w' => ∃ (x3_1 : Int) (x4_1 : Int), v3 = .int .i64 x3_1 ∧ v4 = .int .i64 x4_1 ∧ Aside0 (slices_Max_int_int.l0 kq l0 x3_1 x4_1 = some r) ∧ Aside0 (kq ≤ k) ∧ Aside0 (Below w.heap.size w w'))
      case atStart => exact ⟨(rd l0 0), (1), (by first | rfl | (simp; done) | (simp [*]; done)), (by first | rfl | (simp; done) | (simp [*]; done)), H', ⟨Nat.le_refl _⟩, ⟨by repeat (first | (with_reducible first | exact HB.out | apply below_alloc | apply pw_below_drewN | apply below_drew1) | exact HB.out)⟩⟩
      case round =>
        clear H'
        try clear p1
        try clear q1
        try clear hx1
        try clear qi1
        try clear c2
        try clear c2b0
        try clear c2b1
        try clear p2
        try clear c3
        try clear c3b0
        try clear c3b1
        try clear hx114_0
        try clear p114
        try clear q114
        obtain ⟨x3_1, x4_1, rfl, rfl, HA, HK1, HB⟩ := hrel
        cases gk with
        | zero => exact absurd HA.out (by simp [slices_Max_int_int.l0])
        | succ k1 =>
          have H := HA.out
          clear HA
          simp only [slices_Max_int_int.l0] at H
          by_cases c4 : x4_1 < (l0.length : Int)
          · rw [if_pos c4] at H
            have c4b0 : decide (x4_1 < (l0.length : Int)) = true := decide_eq_true c4
            clear c4
            by_cases c5 : 0 ≤ x4_1
            · rw [if_pos c5] at H
              have c5b0 : decide (0 ≤ x4_1) = true := decide_eq_true c5
              clear c5
              obtain ⟨ji6, hji6⟩ : ∃ j_ : Int, (mx x3_1 (rd l0 x4_1)) = j_ := ⟨_, rfl⟩
              replace H : (slices_Max_int_int.l0 k1 l0 ji6 (wrap64 (x4_1 + 1))) = some r := by first | (rw [hji6] at H; exact H) | (simp only [hji6] at H ⊢; exact H)
              have hji6_ : (if x3_1 < (rd l0 x4_1) then (rd l0 x4_1) else x3_1) = ji6 := hji6
              have H' := Aside0.mk H
              clear H
              have p115 : 0 ≤ (x4_1 : Int) := of_decide_eq_true (by first | (with_reducible assumption) | assumption)
              have q115 : x4_1 < (l0.length : Int) := of_decide_eq_true (by first | (with_reducible assumption) | assumption)
              obtain ⟨ad115, e115, hx115_0⟩ := Kd.at_int HR0.out x4_1 p115 q115
              obtain rfl : ad114 = ad115 := (by injection e115)
              replace hx115_0 := (HB.out.cell (World.block_lt_of_cell? w _ hx115_0)).trans hx115_0
              replace p115 := eq_true p115
              replace q115 := eq_true q115
              go_wp2
              go_roundg k1
              case measure => have := HK1.out; omega
              case rel => exact ⟨(ji6), (wrap64 (x4_1 + 1)), (by first | rfl | (simp; done) | (simp only [← hji6] <;> (first | rfl | simp)) | (simp [*]; done)), (by first | rfl | (simp; done) | (simp [*]; done)), H', ⟨by have := HK1.out; omega⟩, ⟨by repeat (first | (with_reducible first | exact HB.out | apply below_alloc | apply pw_below_drewN | apply below_drew1) | exact HB.out)⟩⟩
            · rw [if_neg c5] at H
              exact absurd H (by simp)
          · rw [if_neg c4] at H
            have c4b0 : decide (x4_1 < (l0.length : Int)) = false := decide_eq_false c4
            clear c4
            obtain rfl := Option.some.inj H
            go_wp2
            go_ret
            exact ⟨by first | rfl | (simp [errW_none, errW_some] <;> rfl) | (simp [*, errW_none, errW_some] <;> rfl), by repeat (first | (with_reducible first | exact HB.out | apply below_alloc | apply pw_below_drewN | apply below_drew1) | exact HB.out)⟩
    · rw [if_neg c3] at H
      exact absurd H (by simp)

/-! ### bits_Len64: function 33 -/
def bits_Len64.f (a0 : Int) : Option (Int) := if 0 ≤ a0 then (if a0 ≤ 18446744073709551615 then some (Lib.bitLen a0.toNat : Int) else none) else none
theorem bits_Len64.calls (a0 : Int) (r : Int) (w : World) (h : bits_Len64.f a0 = some r) :
    Calls Tryd.prog 33 #[.int .u64 a0] w fun e w' => e = .returned (.int .i64 r) ∧ Drawn0 w w' := by
  unfold bits_Len64.f at h
  split at h
  · split at h
    · obtain rfl := Option.some.inj h
      exact (Ext.len64_any a0 w (by assumption) (by assumption)).mono fun e w' ⟨he, hw⟩ => ⟨he, ⟨0, by rw [hw]; rfl⟩⟩
    · cases h
  · cases h

/-! ### span_Common: function 19 -/
/-- Is a number none of the values? -/
def notIn (x : Int) : Bool := !(decide (-2147483648 ≤ x) && decide (x ≤ 2147483647))
theorem within_eq (x : Int) : span_within.f x = some (!notIn x) := by
  unfold span_within.f notIn
  by_cases h : x ≥ -2147483648
  · have h' : -2147483648 ≤ x := h
    simp [h']
  · have h' : ¬ -2147483648 ≤ x := h
    rw [if_neg h]; simp [h']
theorem common1_any (x : Int) (w : World) : Calls Tryd.prog 30 #[.int .i64 x] w fun e w' => e = .returned (.bool (notIn x)) ∧ ∃ n, w' = w.drewN n := by
  have HW := Aside0.mk (within_eq x)
  go_enter Tryd.func30, Tryd.ntmps30
  go_wp2_with (go_at_call 27; refine (span_within.calls x _ _ HW.out).mono ?_; rintro e w' ⟨rfl, ⟨n, rfl⟩⟩)
  go_ret
  exact ⟨by simp, _, rfl⟩
/-- The place of the first one that is no value; -1: there is none. -/
def idxNot : List Int → Nat → Int
  | [], _ => -1
  | x :: r, k => if notIn x then (k : Int) else idxNot r (k + 1)
theorem idxNot_drop (l : List Int) : ∀ (i k : Nat), (∀ j : Nat, j < i → notIn (l.getD j 0) = false) → i ≤ l.length → idxNot l k = idxNot (l.drop i) (k + i) := by
  intro i
  induction i with
  | zero => intro k _ _; simp
  | succ i ih =>
    intro k h hi
    rw [ih k (fun j hj => h j (by omega)) (by omega)]
    have hlt : i < l.length := by omega
    rw [List.drop_eq_getElem_cons hlt]
    have hh := h i (by omega)
    have : l.getD i 0 = l[i] := by simp [List.getD, hlt]
    rw [this] at hh
    rw [idxNot, hh]
    simp [Nat.add_assoc]
theorem idxNot_end (l : List Int) (i : Nat) (h : ∀ j : Nat, j < i → notIn (l.getD j 0) = false) (hi : i = l.length) : idxNot l 0 = -1 := by
  rw [idxNot_drop l i 0 h (by omega), hi, List.drop_length]; rfl
theorem idxNot_hit (l : List Int) (i : Nat) (h : ∀ j : Nat, j < i → notIn (l.getD j 0) = false) (hi : i < l.length) (hx : notIn (rd l i) = true) : idxNot l 0 = i := by
  rw [idxNot_drop l i 0 h (by omega), List.drop_eq_getElem_cons hi]
  have : rd l (i : Int) = l[i] := by simp [rd, List.getD, hi]
  rw [this] at hx
  rw [idxNot, hx]; simp
set_option maxHeartbeats 2000000 in
theorem indexFunc_any (A : Option Addr) (c : Nat) (l : List Int) (w : World) (hr : Kd.C (Kd.int .i64) w A l.length l) (hbig : l.length ≤ 9223372036854775807) :
    Calls Tryd.prog 37 #[.slice A l.length c, .func (.func 30) #[] #[]] w fun e w' => e = .returned (.int .i64 (idxNot l 0)) ∧ ∃ q, w' = w.drewN q := by
  have HR := Aside0.mk hr
  clear hr
  by_cases hl0 : l.length = 0
  · have hl : l = [] := List.length_eq_zero_iff.1 hl0
    subst hl
    clear hl0 HR
    go_enter Tryd.func37, Tryd.ntmps37
    go_wp2
    go_loopg [5, 8] 0 (fun _ _ s8 wr => s8 = .int .i64 0 ∧ wr = w)
    case atStart => exact ⟨rfl, rfl⟩
    case round =>
      obtain ⟨rfl, rfl⟩ := hrel
      go_wp2
      go_ret
      exact ⟨rfl, 0, rfl⟩
  obtain ⟨ad, rfl, _⟩ := Kd.at_int HR.out 0 (by omega) (by omega)
  have HL := Aside0.mk hl0
  clear hl0
  go_enter Tryd.func37, Tryd.ntmps37
  go_wp2
  go_loopg [5, 8] l.length (fun gg _ s8 wr => ∃ (kk : Nat) (q : Nat), s8 = .int .i64 (kk : Int) ∧ wr = w.drewN q ∧ Aside0 (kk ≤ l.length ∧ l.length - kk ≤ gg) ∧ Aside0 (∀ j : Nat, j < kk → notIn (l.getD j 0) = false))
  case atStart => exact ⟨0, 0, rfl, rfl, ⟨by omega, by omega⟩, ⟨fun j hj => absurd hj (by omega)⟩⟩
  case round =>
    obtain ⟨kk, q, rfl, rfl, HI, HA⟩ := hrel
    by_cases hlt : kk < l.length
    · obtain ⟨ad', e', hx⟩ := Kd.at_int HR.out (kk : Int) (by omega) (by omega)
      obtain rfl : ad = ad' := by injection e'
      clear e'
      rw [Int.toNat_natCast] at hx
      cases hq : notIn (rd l kk) with
      | true =>
        have HQ := Aside0.mk hq
        clear hq
        go_wp2_with (go_at_call 30; refine (common1_any _ _).mono ?_; rintro e w' ⟨rfl, q', rfl⟩; have hq := HQ.out; rw [hq]; clear hq)
        go_ret
        refine ⟨?_, _, rfl⟩
        rw [idxNot_hit l kk HA.out hlt HQ.out]; rfl
      | false =>
        have HQ := Aside0.mk hq
        clear hq
        go_wp2_with (go_at_call 30; refine (common1_any _ _).mono ?_; rintro e w' ⟨rfl, q', rfl⟩; have hq := HQ.out; rw [hq]; clear hq)
        go_roundg (l.length - (kk + 1))
        case measure => have := HI.out; omega
        case rel =>
          refine ⟨kk + 1, _, by go_num, rfl, ⟨by have := HI.out; omega, by omega⟩, ⟨fun j hj => ?_⟩⟩
          by_cases e : j = kk
          · have h1 := HQ.out
            rw [e]
            simpa [rd] using h1
          · exact HA.out j (by omega)
    · go_wp2
      go_ret
      refine ⟨?_, q, rfl⟩
      rw [idxNot_end l kk HA.out (by have := HI.out; omega)]; rfl
theorem containsFunc_any (A : Option Addr) (c : Nat) (l : List Int) (w : World) (hr : Kd.C (Kd.int .i64) w A l.length l) (hbig : l.length ≤ 9223372036854775807) :
    Calls Tryd.prog 29 #[.slice A l.length c, .func (.func 30) #[] #[]] w fun e w' => e = .returned (.bool (decide (0 ≤ idxNot l 0))) ∧ ∃ q, w' = w.drewN q := by
  have HR := Aside0.mk hr
  clear hr
  go_enter Tryd.func29, Tryd.ntmps29
  go_wp2_with (go_at_call 37; refine (indexFunc_any _ _ l _ HR.out hbig).mono ?_; rintro e w' ⟨rfl, q, rfl⟩)
  go_ret
  exact ⟨rfl, q, rfl⟩
/-- The least and the greatest of numbers. -/
def minL : List Int → Int
  | [] => 0
  | x :: r => r.foldl mn x
def maxL : List Int → Int
  | [] => 0
  | x :: r => r.foldl mx x
theorem min_l0 (l : List Int) (hl : l.length ≤ 9223372036854775806) : ∀ (d : Nat) (k : Nat) (i : Nat) (m : Int), l.length - i = d → i ≤ l.length → d < k → slices_Min_int_int.l0 k l m i = some ((l.drop i).foldl mn m) := by
  intro d
  induction d with
  | zero =>
    intro k i m hd hi hk
    obtain ⟨k, rfl⟩ : ∃ m, k = m + 1 := ⟨k - 1, by omega⟩
    simp only [slices_Min_int_int.l0]; rw [if_neg (by omega), show i = l.length by omega, List.drop_length]; rfl
  | succ d ih =>
    intro k i m hd hi hk
    obtain ⟨k, rfl⟩ : ∃ m, k = m + 1 := ⟨k - 1, by omega⟩
    have hlt : i < l.length := by omega
    simp only [slices_Min_int_int.l0]; rw [if_pos (by omega), if_pos (by omega)]
    rw [show wrap64 ((i : Int) + 1) = ((i + 1 : Nat) : Int) by unfold wrap64; omega, ih k (i + 1) _ (by omega) (by omega) (by omega)]
    rw [List.drop_eq_getElem_cons hlt, List.foldl_cons, show rd l (i : Int) = l[i] by simp [rd, List.getD, hlt]]
theorem max_l0 (l : List Int) (hl : l.length ≤ 9223372036854775806) : ∀ (d : Nat) (k : Nat) (i : Nat) (m : Int), l.length - i = d → i ≤ l.length → d < k → slices_Max_int_int.l0 k l m i = some ((l.drop i).foldl mx m) := by
  intro d
  induction d with
  | zero =>
    intro k i m hd hi hk
    obtain ⟨k, rfl⟩ : ∃ m, k = m + 1 := ⟨k - 1, by omega⟩
    simp only [slices_Max_int_int.l0]; rw [if_neg (by omega), show i = l.length by omega, List.drop_length]; rfl
  | succ d ih =>
    intro k i m hd hi hk
    obtain ⟨k, rfl⟩ : ∃ m, k = m + 1 := ⟨k - 1, by omega⟩
    have hlt : i < l.length := by omega
    simp only [slices_Max_int_int.l0]; rw [if_pos (by omega), if_pos (by omega)]
    rw [show wrap64 ((i : Int) + 1) = ((i + 1 : Nat) : Int) by unfold wrap64; omega, ih k (i + 1) _ (by omega) (by omega) (by omega)]
    rw [List.drop_eq_getElem_cons hlt, List.foldl_cons, show rd l (i : Int) = l[i] by simp [rd, List.getD, hlt]]
theorem min_f (l : List Int) (h0 : l ≠ []) (hl : l.length ≤ 9223372036854775806) : slices_Min_int_int.f (l.length + 1) l = some (minL l) := by
  obtain ⟨x, r, rfl⟩ := List.exists_cons_of_ne_nil h0
  unfold slices_Min_int_int.f
  simp only [List.length_cons] at hl ⊢
  rw [if_neg (by omega), if_pos (by omega)]
  have := min_l0 (x :: r) (by simpa using hl) r.length (r.length + 1 + 1) 1 (rd (x :: r) 0) (by simp) (by simp) (by omega)
  rw [show ((1 : Nat) : Int) = 1 from rfl] at this
  rw [this]; rfl
theorem max_f (l : List Int) (h0 : l ≠ []) (hl : l.length ≤ 9223372036854775806) : slices_Max_int_int.f (l.length + 1) l = some (maxL l) := by
  obtain ⟨x, r, rfl⟩ := List.exists_cons_of_ne_nil h0
  unfold slices_Max_int_int.f
  simp only [List.length_cons] at hl ⊢
  rw [if_neg (by omega), if_pos (by omega)]
  have := max_l0 (x :: r) (by simpa using hl) r.length (r.length + 1 + 1) 1 (rd (x :: r) 0) (by simp) (by simp) (by omega)
  rw [show ((1 : Nat) : Int) = 1 from rfl] at this
  rw [this]; rfl
/-- The level of the lowest span that has two numbers, reckoned from the least one on. -/
def levelOf (a b : Nat) : Nat := Lib.bitLen (a ^^^ b)
def span_Common.f (l0 : List Int) : Option (Int × Int × Bool) :=
  if l0.length ≤ 9223372036854775806 then
    if l0 = [] then some (0, 0, false)
    else if 0 ≤ idxNot l0 0 then some (0, 0, false)
    else if -2147483648 ≤ minL l0 ∧ minL l0 ≤ 2147483647 ∧ -2147483648 ≤ maxL l0 ∧ maxL l0 ≤ 2147483647 then
      some (levelOf (minL l0 + 2147483648).toNat (maxL l0 + 2147483648).toNat, (minL l0 + 2147483648) / 2 ^ levelOf (minL l0 + 2147483648).toNat (maxL l0 + 2147483648).toNat, true)
    else none
  else none
theorem far_of {w w1 : World} {g : Nat} {a b : Int} (hb : Below w.heap.size w w1) (hg : w.heap[g]? = some (.cells #[.int .i64 a, .int .i64 b] 23 (0, 0))) : w1.heap[g]? = some (.cells #[.int .i64 a, .int .i64 b] 23 (0, 0)) := by
  have hlt : g < w.heap.size := by
    by_cases h : g < w.heap.size
    · exact h
    · rw [Array.getElem?_eq_none (by omega)] at hg; cases hg
  exact (hb.block g hlt).trans hg
theorem span_facts {w : World} {g : Nat} {a b : Int} (hg : w.heap[g]? = some (.cells #[.int .i64 a, .int .i64 b] 23 (0, 0))) :
    w.cell? ⟨g, 0, none⟩ = some (.int .i64 a) ∧ w.cell? ⟨g, 1, none⟩ = some (.int .i64 b) ∧ (∀ j, w.frozen? ⟨g, j, none⟩ = false) := by
  refine ⟨?_, ?_, fun j => ?_⟩ <;> simp [World.cell?, World.frozen?, hg]
set_option maxHeartbeats 4000000 in
theorem span_Common.calls (A0 : Option Addr) (c0 : Nat) (l0 : List Int) (r1 : Int) (r2 : Int) (r3 : Bool) (w : World) (hr0 : Kd.C (Kd.int .i64) w A0 l0.length l0) (hc0 : l0.length ≤ c0) (h : span_Common.f l0 = some (r1, r2, r3)) :
    Calls Tryd.prog 19 #[.slice A0 l0.length c0] w fun e w' => e = .returned (.tuple #[.agg #[.int .i64 r1, .int .i64 r2], .bool r3]) ∧ Below w.heap.size w w' := by
  unfold span_Common.f at h
  split at h
  case isFalse => cases h
  case isTrue hlen =>
  have HR := Aside0.mk hr0
  have HC := Aside0.mk hc0
  clear hr0 hc0
  have hu23 := Tryd.underlying23
  split at h
  case isTrue hl =>
    subst hl
    simp only [Option.some.injEq, Prod.mk.injEq] at h
    obtain ⟨rfl, rfl, rfl⟩ := h
    go_enter Tryd.func19, Tryd.ntmps19
    go_wp2
    exact bodyPost_ret (v := .tuple #[.agg #[.int .i64 0, .int .i64 0], .bool false]) (by simp [results, Tryd.results19, go_sem]) rfl ⟨rfl, (Below.refl _ _).alloc (Nat.le_refl _) _⟩
  case isFalse hl =>
  have hpos : 0 < l0.length := List.length_pos_iff.2 hl
  have hl1 : ((l0.length : Int) == 0) = false := beq_eq_false_iff_ne.2 (by omega)
  have HL := Aside0.mk hl
  have HB := Aside0.mk (Below.refl w.heap.size w)
  split at h
  case isTrue hx =>
    simp only [Option.some.injEq, Prod.mk.injEq] at h
    obtain ⟨rfl, rfl, rfl⟩ := h
    have hx' : decide (0 ≤ idxNot l0 0) = true := decide_eq_true hx
    have HX := Aside0.mk hx'
    clear hx hx'
    go_enter Tryd.func19, Tryd.ntmps19
    go_wp2_with (fail)
    refine (containsFunc_any _ _ l0 _ (Kd.C_below HR.out (below_alloc HB.out _)) (by omega)).mono ?_
    rintro e w' ⟨rfl, q, rfl⟩
    rw [HX.out]
    go_wp2
    exact bodyPost_ret (v := .tuple #[.agg #[.int .i64 0, .int .i64 0], .bool false]) (by simp [results, Tryd.results19, go_sem]) rfl ⟨rfl, below_set (below_set (pw_below_drewN (below_alloc HB.out _) _) (Nat.le_refl _)) (Nat.le_refl _)⟩
  case isFalse hx =>
  have hx' : decide (0 ≤ idxNot l0 0) = false := decide_eq_false hx
  have HX := Aside0.mk hx'
  clear hx hx'
  split at h
  case isFalse => cases h
  case isTrue hb =>
  obtain ⟨b1, b2, b3, b4⟩ := hb
  simp only [Option.some.injEq, Prod.mk.injEq] at h
  obtain ⟨rfl, rfl, rfl⟩ := h
  have H1 := Aside0.mk (min_f l0 HL.out hlen)
  have H2 := Aside0.mk (max_f l0 HL.out hlen)
  generalize minL l0 = lo at *
  generalize maxL l0 = hi at *
  have e1 : 0 ≤ lo + 2147483648 := by omega
  have e2 : lo + 2147483648 < 4294967296 := by omega
  have e3 : 0 ≤ hi + 2147483648 := by omega
  have e4 : hi + 2147483648 < 4294967296 := by omega
  have HXR := Aside0.mk (u64_xor (lo + 2147483648) (hi + 2147483648) e1 (by omega) e3 (by omega))
  have hx32 : (lo + 2147483648).toNat ^^^ (hi + 2147483648).toNat < 2 ^ 32 := Nat.xor_lt_two_pow (by omega) (by omega)
  have HF : Aside0 (bits_Len64.f (((lo + 2147483648).toNat ^^^ (hi + 2147483648).toNat : Nat) : Int) = some (levelOf (lo + 2147483648).toNat (hi + 2147483648).toNat : Int)) := ⟨by
    unfold bits_Len64.f levelOf
    rw [if_pos (by omega), if_pos (by omega), Int.toNat_natCast]⟩
  have hle : levelOf (lo + 2147483648).toNat (hi + 2147483648).toNat ≤ 32 := Lib.bitLen_le _ 32 (by omega) hx32
  generalize levelOf (lo + 2147483648).toNat (hi + 2147483648).toNat = L at *
  have HA : Aside0 (span_at.f lo (L : Int) = some ((L : Int), (lo + 2147483648) / 2 ^ L)) := ⟨by
    unfold span_at.f
    rw [if_pos (by omega), Int.toNat_natCast, show min L 64 = L by omega, show wrap64 (lo + 2147483648) = lo + 2147483648 by unfold wrap64; omega]⟩
  have HX2 := Aside0.mk hx32
  clear e1 e2 e3 e4 hx32
  clear hl
  go_enter Tryd.func19, Tryd.ntmps19
  go_wp2_with (fail)
  refine (containsFunc_any _ _ l0 _ (Kd.C_below HR.out (below_alloc HB.out _)) (by omega)).mono ?_
  rintro e w' ⟨rfl, q, rfl⟩
  rw [HX.out]
  go_wp2_with (fail)
  refine (slices_Min_int_int.calls _ _ _ l0 _ _ (Kd.C_below HR.out (pw_below_drewN (below_alloc HB.out _) _)) HC.out H1.out).mono ?_
  rintro e w1 ⟨rfl, hb1⟩
  have HB1 := Aside0.mk (below_step (pw_below_drewN (below_alloc HB.out _) _) hb1)
  have hg1 := Aside0.mk (far_of (g := w.heap.size) (a := 0) (b := 0) hb1 (by show (w.heap.push _)[w.heap.size]? = _; simp))
  clear hb1
  go_wp2_with (fail)
  refine (slices_Max_int_int.calls _ _ _ l0 _ _ (Kd.C_below HR.out HB1.out) HC.out H2.out).mono ?_
  rintro e w2 ⟨rfl, hb2⟩
  have HB2 := Aside0.mk (below_step HB1.out hb2)
  have hg2 := Aside0.mk (far_of hb2 hg1.out)
  clear hb2 HB1 hg1
  go_wp2_with (fail)
  rw [HXR.out]
  refine (bits_Len64.calls _ _ _ HF.out).mono ?_
  rintro e w3 ⟨rfl, ⟨n3, rfl⟩⟩
  clear HF HXR
  go_wp2_with (fail)
  refine (span_at.calls _ _ _ _ _ HA.out).mono ?_
  rintro e w4 ⟨rfl, hb4⟩
  have HB4 := Aside0.mk (below_step (pw_below_drewN HB2.out _) hb4)
  have hg4 := far_of (g := w.heap.size) (a := 0) (b := 0) hb4 hg2.out
  clear hb4 HB2 hg2 HA
  obtain ⟨c0_, c1_, f_⟩ := span_facts hg4
  have f0_ := f_ 0
  have f1_ := f_ 1
  clear f_ hg4
  go_wp2
  exact bodyPost_ret (v := .tuple #[.agg #[.int .i64 L, .int .i64 ((lo + 2147483648) / 2 ^ L)], .bool true]) (by simp [results, Tryd.results19, go_sem, c0_, c1_, f0_, f1_]) rfl ⟨rfl, below_set (below_set HB4.out (Nat.le_refl _)) (Nat.le_refl _)⟩

/-! ### bits_TrailingZeros64: function 35 -/
def bits_TrailingZeros64.f (a0 : Int) : Option (Int) := if 0 ≤ a0 then (if a0 ≤ 18446744073709551615 then some (Lib.ctz 64 a0.toNat : Int) else none) else none
theorem bits_TrailingZeros64.calls (a0 : Int) (r : Int) (w : World) (hG : GLaid w) (h : bits_TrailingZeros64.f a0 = some r) :
    Calls Tryd.prog 35 #[.int .u64 a0] w fun e w' => e = .returned (.int .i64 r) ∧ Drawn0 w w' := by
  unfold bits_TrailingZeros64.f at h
  split at h
  · split at h
    · obtain rfl := Option.some.inj h
      obtain ⟨n, rfl⟩ := Int.eq_ofNat_of_zero_le (by assumption : 0 ≤ a0)
      refine (Ext.tz64_any n (by omega) w (fun _ => hG.tab)).mono fun e w' ⟨he, hw⟩ => ⟨by rw [he, Int.toNat_natCast], ⟨0, by rw [← hw]; rfl⟩⟩
    · cases h
  · cases h

/-! ### span_Cover: function 22 -/
def span_Cover.l0 : Nat → Int → Int → List (S23) → Option ((List (S23)))
  | 0, _, _, _ => none
  | k + 1, x0, x1, x5 => if x0 ≤ x1 then ((bits_TrailingZeros64.f (Go.bits .or .u64 (IntKind.u64.wrap (wrap64 (x0 - (-2147483648)))) 4294967296)).bind fun t116 => ((bits_Len64.f (IntKind.u64.wrap (wrap64 ((wrap64 (x1 - x0)) + 1)))).bind fun t117 => ((span_at.f x0 (mn t116 (wrap64 (t117 - 1)))).bind fun bt118 => (if x5.length < 8796093022208 then (if 0 ≤ (mn t116 (wrap64 (t117 - 1))) then (span_Cover.l0 k (wrap64 (x0 + (shl .i64 1 (mn t116 (wrap64 (t117 - 1)))))) x1 (x5 ++ [(⟨bt118.1, bt118.2⟩ : S23)])) else (none)) else (none))))) else (some x5)
def span_Cover.f (k : Nat) (a0 : Int) (a1 : Int) : Option ((List (S23))) := span_Cover.l0 k (mx a0 (-2147483648)) (mn a1 2147483647) ([] : List (S23))
theorem span_Cover.mono_l : ∀ k, (∀ y0 y1 y2, LeO (span_Cover.l0 k y0 y1 y2) (span_Cover.l0 (k + 1) y0 y1 y2))
  | 0 => fun _ _ _ r h => by simp [span_Cover.l0] at h
  | k + 1 => by
    have ih0 := span_Cover.mono_l k
    · intro y0 y1 y2
      unfold span_Cover.l0
      repeat' first
      | (with_reducible exact ih0 _ _ _)
      | (with_reducible exact LeO.refl _)
      | (with_reducible exact LeO.none _)
      | (with_reducible refine LeO.ite ?_ ?_)
      | (with_reducible refine LeO.bind ?_ (fun _ => ?_))
      | exact ih0 _ _ _
      | exact LeO.none _
      | refine LeO.ite ?_ ?_
      | refine LeO.bind ?_ (fun _ => ?_)
theorem span_Cover.mono : ∀ a0 a1 k, LeO (span_Cover.f k a0 a1) (span_Cover.f (k + 1) a0 a1) := by
  intro a0 a1 k
  have ih0 := span_Cover.mono_l k
  unfold span_Cover.f
  repeat' first
      | (with_reducible exact ih0 _ _ _)
      | (with_reducible exact LeO.refl _)
      | (with_reducible exact LeO.none _)
      | (with_reducible refine LeO.ite ?_ ?_)
      | (with_reducible refine LeO.bind ?_ (fun _ => ?_))
      | exact ih0 _ _ _
      | exact LeO.none _
      | refine LeO.ite ?_ ?_
      | refine LeO.bind ?_ (fun _ => ?_)
set_option maxHeartbeats 8000000 in
set_option maxRecDepth 100000 in
theorem span_Cover.calls (k : Nat) (a0 : Int) (a1 : Int) (r : List (S23)) (w : World) (hG : GLaid w) (h : span_Cover.f k a0 a1 = some r) :
    Calls Tryd.prog 22 #[.int .i64 a0, .int .i64 a1] w fun e w' => ∃ v0_ : Value, e = .returned (v0_) ∧ Kd.R k23 23 w' w.heap.size (fun _ => True) v0_ r ∧ Below w.heap.size w w' := by
  have HG := Aside0.mk hG
  clear hG
  have HB := Aside0.mk (Below.refl w.heap.size w)
  have H : (span_Cover.l0 k (mx a0 (-2147483648)) (mn a1 2147483647) ([] : List (S23))) = some r := h
  clear h
  obtain ⟨ji3, hji3⟩ : ∃ j_ : Int, (mx a0 (-2147483648)) = j_ := ⟨_, rfl⟩
  replace H : (span_Cover.l0 k ji3 (mn a1 2147483647) ([] : List (S23))) = some r := by first | (rw [hji3] at H; exact H) | (simp only [hji3] at H ⊢; exact H)
  have hji3_ : (if a0 < (-2147483648) then (-2147483648) else a0) = ji3 := hji3
  obtain ⟨ji4, hji4⟩ : ∃ j_ : Int, (mn a1 2147483647) = j_ := ⟨_, rfl⟩
  replace H : (span_Cover.l0 k ji3 ji4 ([] : List (S23))) = some r := by first | (rw [hji4] at H; exact H) | (simp only [hji4] at H ⊢; exact H)
  (try (have hji4h : ji4 ≤ 2147483647 := by (rw [← hji4]; unfold mn; (repeat' split) <;> omega)))
  (try (have hji4g : ji4 ≤ 64 := by omega))
  have hji4_ : (if 2147483647 < a1 then 2147483647 else a1) = ji4 := hji4
  have H' := Aside0.mk H
  clear H
  go_enter Tryd.func22, Tryd.ntmps22
  go_wp2
  go_loopg [0, 5] k (fun kq v0 v5 w' => ∃ (x0_1 : Int) (x5_1 : List (S23)), v0 = .int .i64 x0_1 ∧ Aside0 (span_Cover.l0 kq x0_1 ji4 x5_1 = some r) ∧ Aside0 (kq ≤ k) ∧ Aside0 (Kd.R k23 23 w' w.heap.size (fun _ => True) v5 x5_1) ∧ Aside0 (Below w.heap.size w w'))
  case atStart => exact ⟨(ji3), (([] : List (S23))), (by first | rfl | (simp; done) | (simp only [← hji3] <;> (first | rfl | simp)) | (simp [*]; done)), H', ⟨Nat.le_refl _⟩, ⟨by first | exact Kd.R_nil _ _ _ _ _ | exact Kd.N_nil _ _ _ _ _ | exact Kd.V_nil _ _ _ _ _ | exact Kd.Q_nil _ _ _ _ _ | exact Kd.S_nil _ _ _ _ _⟩, ⟨by repeat (first | (with_reducible first | exact HB.out | apply below_alloc | apply pw_below_drewN | apply below_drew1) | exact HB.out)⟩⟩
  case round =>
    clear H'
    try clear c2
    try clear p2
    obtain ⟨x0_1, x5_1, rfl, HA, HK1, HO_5, HB⟩ := hrel
    cases gk with
    | zero => exact absurd HA.out (by simp [span_Cover.l0])
    | succ k1 =>
      have H := HA.out
      clear HA
      simp only [span_Cover.l0] at H
      by_cases c5 : x0_1 ≤ ji4
      · rw [if_pos c5] at H
        have c5b0 : decide (x0_1 ≤ ji4) = true := decide_eq_true c5
        clear c5
        replace H := Option.bind_eq_some_iff.mp H
        obtain ⟨t116, A60, H⟩ := H
        replace H : ((bits_Len64.f (IntKind.u64.wrap (wrap64 ((wrap64 (ji4 - x0_1)) + 1)))).bind fun t117 => ((span_at.f x0_1 (mn t116 (wrap64 (t117 - 1)))).bind fun bt118 => (if x5_1.length < 8796093022208 then (if 0 ≤ (mn t116 (wrap64 (t117 - 1))) then (span_Cover.l0 k1 (wrap64 (x0_1 + (shl .i64 1 (mn t116 (wrap64 (t117 - 1)))))) ji4 (x5_1 ++ [(⟨bt118.1, bt118.2⟩ : S23)])) else (none)) else (none)))) = some r := H
        have A6 := Aside0.mk A60
        clear A60
        replace H := Option.bind_eq_some_iff.mp H
        obtain ⟨t117, A70, H⟩ := H
        replace H : ((span_at.f x0_1 (mn t116 (wrap64 (t117 - 1)))).bind fun bt118 => (if x5_1.length < 8796093022208 then (if 0 ≤ (mn t116 (wrap64 (t117 - 1))) then (span_Cover.l0 k1 (wrap64 (x0_1 + (shl .i64 1 (mn t116 (wrap64 (t117 - 1)))))) ji4 (x5_1 ++ [(⟨bt118.1, bt118.2⟩ : S23)])) else (none)) else (none))) = some r := H
        have A7 := Aside0.mk A70
        clear A70
        obtain ⟨ji8, hji8⟩ : ∃ j_ : Int, (mn t116 (wrap64 (t117 - 1))) = j_ := ⟨_, rfl⟩
        replace H : ((span_at.f x0_1 (ji8)).bind fun bt118 => (if x5_1.length < 8796093022208 then (if 0 ≤ (ji8) then (span_Cover.l0 k1 (wrap64 (x0_1 + (shl .i64 1 (ji8)))) ji4 (x5_1 ++ [(⟨bt118.1, bt118.2⟩ : S23)])) else (none)) else (none))) = some r := by first | (rw [hji8] at H; exact H) | (simp only [hji8] at H ⊢; exact H)
        (try rw [hji8] at A6)
        (try rw [hji8] at A7)
        have hji8_ : (if (wrap64 (t117 - 1)) < t116 then (wrap64 (t117 - 1)) else t116) = ji8 := hji8
        replace H := Option.bind_eq_some_iff.mp H
        obtain ⟨⟨t118, t119⟩, A90, H⟩ := H
        replace H : (if x5_1.length < 8796093022208 then (if 0 ≤ (ji8) then (span_Cover.l0 k1 (wrap64 (x0_1 + (shl .i64 1 (ji8)))) ji4 (x5_1 ++ [(⟨t118, t119⟩ : S23)])) else (none)) else (none)) = some r := H
        have A9 := Aside0.mk A90
        clear A90
        by_cases c10 : x5_1.length < 8796093022208
        · rw [if_pos c10] at H
          have LMc10 := Aside0.mk c10
          clear c10
          obtain ⟨y120, hy120⟩ : ∃ y_ : List (S23), y_ = (x5_1 ++ [(⟨t118, t119⟩ : S23)]) := ⟨_, rfl⟩
          replace H : (if 0 ≤ (ji8) then (span_Cover.l0 k1 (wrap64 (x0_1 + (shl .i64 1 (ji8)))) ji4 y120) else (none)) = some r := by first | (rw [hy120]; with_reducible exact H) | (have H2_ := (Option.bind_some _ _).symm.trans H; rw [hy120]; with_reducible exact H2_) | (have H2_ := (Option.bind_some _ _).symm.trans H; with_reducible exact H2_) | with_reducible exact H | (rw [hy120]; exact H) | exact H
          have Ny120 := Aside0.mk hy120
          clear hy120
          by_cases c11 : 0 ≤ (ji8)
          · rw [if_pos c11] at H
            have c11b0 := eq_true c11
            have c11b1 : decide (0 ≤ (ji8)) = true := decide_eq_true c11
            clear c11
            obtain ⟨ji12, hji12⟩ : ∃ j_ : Int, (shl .i64 1 (ji8)) = j_ := ⟨_, rfl⟩
            replace H : (span_Cover.l0 k1 (wrap64 (x0_1 + (ji12))) ji4 y120) = some r := by first | (rw [hji12] at H; exact H) | (simp only [hji12] at H ⊢; exact H)
            (try rw [hji12] at A6)
            (try rw [hji12] at A7)
            (try rw [hji12] at A9)
            have hji12_ : (IntKind.i64.wrap (1 * 2 ^ min (ji8).toNat 64)) = ji12 := hji12
            have hji12z : (ji8) ≤ 64 → (IntKind.i64.wrap (1 * 2 ^ (ji8).toNat)) = ji12 := shl_small hji12
            have hji12u : (IntKind.i64.wrap (2 ^ min (ji8).toNat 64)) = ji12 := by have h_ := hji12_; rw [Int.one_mul] at h_; exact h_
            have hji12v : (ji8) ≤ 64 → (IntKind.i64.wrap (2 ^ (ji8).toNat)) = ji12 := fun hle_ => by have h_ := hji12z hle_; rw [Int.one_mul] at h_; exact h_
            have hji12y : (wrap64 (1 * 2 ^ min (ji8).toNat 64)) = ji12 := (i64_w _).symm.trans hji12_
            have hji12x : (ji8) ≤ 64 → (wrap64 (1 * 2 ^ (ji8).toNat)) = ji12 := fun h_ => (i64_w _).symm.trans (hji12z h_)
            have H' := Aside0.mk H
            clear H
            go_wp2_with (first | ((with_reducible refine gate_callee (f := 35) rfl ?_); refine goesL_ (some 20) rfl rfl Tryd.func35 (by kernel_rfl) rfl #[.int .u64 (Go.bits .or .u64 (IntKind.u64.wrap (wrap64 (x0_1 - (-2147483648)))) 4294967296)] rfl (by (try simp only [List.map_toArray, List.map_cons, List.map_nil]); first | done | rfl | (simp only [List.length_drop, List.length_take]; rfl)) ?_; (with_reducible refine (bits_TrailingZeros64.calls (Go.bits .or .u64 (IntKind.u64.wrap (wrap64 (x0_1 - (-2147483648)))) 4294967296) t116 _ ?side1 A6.out).mono ?_); (case side1 => exact GLaid.below HG.out (by repeat (first | (with_reducible first | exact HB.out | apply below_alloc | apply pw_below_drewN | apply below_drew1) | exact HB.out))); rintro e w' ⟨rfl, ⟨nd, rfl⟩⟩; refine ⟨_, rfl, ?_⟩) | ((with_reducible refine gate_callee (f := 33) rfl ?_); refine goesL_ (some 26) rfl rfl Tryd.func33 (by kernel_rfl) rfl #[.int .u64 (IntKind.u64.wrap (wrap64 ((wrap64 (ji4 - x0_1)) + 1)))] rfl (by (try simp only [List.map_toArray, List.map_cons, List.map_nil]); first | done | (simp only [hji4]; rfl) | rfl | (simp only [List.length_drop, List.length_take]; rfl)) ?_; (with_reducible refine (bits_Len64.calls (IntKind.u64.wrap (wrap64 ((wrap64 (ji4 - x0_1)) + 1))) t117 _ A7.out).mono ?_); rintro e w' ⟨rfl, ⟨nd, rfl⟩⟩; refine ⟨_, rfl, ?_⟩) | ((with_reducible refine gate_callee (f := 28) rfl ?_); refine goesL_ (some 32) rfl rfl Tryd.func28 (by kernel_rfl) rfl #[.int .i64 x0_1, .int .i64 ji8] rfl (by (try simp only [List.map_toArray, List.map_cons, List.map_nil]); first | done | (simp only [hji8]; rfl) | rfl | (simp only [List.length_drop, List.length_take]; rfl)) ?_; (with_reducible refine (span_at.calls x0_1 ji8 t118 t119 _ A9.out).mono ?_); rintro e w13 ⟨rfl, hb⟩; refine ⟨_, rfl, ?_⟩; have n0_ := Aside0.mk (Kd.R_below (by (with_reducible repeat (first | apply Kd.R_alloc | apply Kd.R_drewN | apply Kd.R_drew)); exact HO_5.out) hb); have n1_ := Aside0.mk (below_step (by repeat (first | (with_reducible first | exact HB.out | apply below_alloc | apply pw_below_drewN | apply below_drew1) | exact HB.out)) hb); clear HO_5; clear HB; have HO_5 := n0_; have HB := n1_; clear n0_ n1_; (try clear hb); (try clear hb2); (try clear hk); (try clear hi)) | ((with_reducible refine gate_builtin (b := .append) (xs := #[.tmp 29, .tmp 33]) rfl ?_); at_builtin; refine Kd.R_append k23 (w0 := w) w.heap.size rfl (.tmp 29) (.tmp 33) 38 23 (.agg #[(.int .i64 0), (.int .i64 0)]) 16 rfl Tryd.underlying38 info23 rfl (by decide) (by omega) u5 x5_1 (⟨t118, t119⟩ : S23) [.int .i64 t118, .int .i64 t119] (fun _ => True) (fun _ => False) rfl rfl ?aP (fun _ hk => hk.elim) ?aF ?aO ?aB ?aS ?aL ?_; (case aP => exact k23_mkM _ _ _ (⟨t118, t119⟩ : S23)); (case aB => exact (by repeat (first | (with_reducible first | exact HB.out | apply below_alloc | apply pw_below_drewN | apply below_drew1) | exact HB.out))); (case aF => exact (fun _ _ => trivial)); (case aO => exact (by (with_reducible repeat (first | apply Kd.R_alloc | apply Kd.R_drewN | apply Kd.R_drew)); exact HO_5.out)); (case aS => exact (below_size (by repeat (first | (with_reducible first | exact HB.out | apply below_alloc | apply pw_below_drewN | apply below_drew1) | exact HB.out)))); (case aL => have := LMc10.out; omega); intro v121 w14 ho hb hg hat; rw [← Ny120.out] at ho; have n0_ := Aside0.mk (hb); have n1_ := Aside0.mk (ho); clear HB; clear HO_5; have HB := n0_; have HO122 := n1_; clear n0_ n1_; clear ho hb hg hat))
            go_roundg k1
            case measure => have := HK1.out; omega
            case rel => exact ⟨(wrap64 (x0_1 + (ji12))), (y120), (by first | rfl | (simp; done) | (simp only [← hji12] <;> (first | rfl | simp)) | (simp [*]; done)), H', ⟨by have := HK1.out; omega⟩, ⟨by (with_reducible repeat (first | apply Kd.R_alloc | apply Kd.R_drewN | apply Kd.R_drew)); exact HO122.out⟩, ⟨by repeat (first | (with_reducible first | exact HB.out | apply below_alloc | apply pw_below_drewN | apply below_drew1) | exact HB.out)⟩⟩
          · rw [if_neg c11] at H
            exact absurd H (by simp)
        · rw [if_neg c10] at H
          exact absurd H (by simp)
      · rw [if_neg c5] at H
        have c5b0 : decide (x0_1 ≤ ji4) = false := decide_eq_false c5
        clear c5
        obtain rfl := Option.some.inj H
        go_wp2
        go_ret
        exact ⟨_, by first | rfl | (simp [errW_none, errW_some] <;> rfl) | (simp only [← hji3, ← hji4]; first | rfl | (simp [errW_none, errW_some] <;> rfl)) | (simp [*, errW_none, errW_some] <;> rfl), by (with_reducible repeat (first | apply Kd.R_alloc | apply Kd.R_drewN | apply Kd.R_drew)); exact HO_5.out, by repeat (first | (with_reducible first | exact HB.out | apply below_alloc | apply pw_below_drewN | apply below_drew1) | exact HB.out)⟩

/-! ### span_Path: function 23 -/
def span_Path.l0 : Nat → Int → List (S23) → Int → Option ((List (S23)))
  | 0, _, _, _ => none
  | k + 1, x0, x3, x8 => if x8 < 33 then ((span_at.f x0 x8).bind fun bt124 => (if x3.length < 8796093022208 then (span_Path.l0 k x0 (x3 ++ [(⟨bt124.1, bt124.2⟩ : S23)]) (wrap64 (x8 + 1))) else (none))) else (some x3)
def span_Path.f (k : Nat) (a0 : Int) : Option ((List (S23))) := (span_within.f a0).bind fun t123 => (if t123 = true then (span_Path.l0 k a0 ([] : List (S23)) 0) else (some ([] : List (S23))))
theorem span_Path.mono_l : ∀ k, (∀ y0 y1 y2, LeO (span_Path.l0 k y0 y1 y2) (span_Path.l0 (k + 1) y0 y1 y2))
  | 0 => fun _ _ _ r h => by simp [span_Path.l0] at h
  | k + 1 => by
    have ih0 := span_Path.mono_l k
    · intro y0 y1 y2
      unfold span_Path.l0
      repeat' first
      | (with_reducible exact ih0 _ _ _)
      | (with_reducible exact LeO.refl _)
      | (with_reducible exact LeO.none _)
      | (with_reducible refine LeO.ite ?_ ?_)
      | (with_reducible refine LeO.bind ?_ (fun _ => ?_))
      | exact ih0 _ _ _
      | exact LeO.none _
      | refine LeO.ite ?_ ?_
      | refine LeO.bind ?_ (fun _ => ?_)
theorem span_Path.mono : ∀ a0 k, LeO (span_Path.f k a0) (span_Path.f (k + 1) a0) := by
  intro a0 k
  have ih0 := span_Path.mono_l k
  unfold span_Path.f
  repeat' first
      | (with_reducible exact ih0 _ _ _)
      | (with_reducible exact LeO.refl _)
      | (with_reducible exact LeO.none _)
      | (with_reducible refine LeO.ite ?_ ?_)
      | (with_reducible refine LeO.bind ?_ (fun _ => ?_))
      | exact ih0 _ _ _
      | exact LeO.none _
      | refine LeO.ite ?_ ?_
      | refine LeO.bind ?_ (fun _ => ?_)
set_option maxHeartbeats 8000000 in
set_option maxRecDepth 100000 in
theorem span_Path.calls (k : Nat) (a0 : Int) (r : List (S23)) (w : World) (h : span_Path.f k a0 = some r) :
    Calls Tryd.prog 23 #[.int .i64 a0] w fun e w' => ∃ v0_ : Value, e = .returned (v0_) ∧ Kd.R k23 23 w' w.heap.size (fun _ => True) v0_ r ∧ Below w.heap.size w w' := by
  have HB := Aside0.mk (Below.refl w.heap.size w)
  have H : ((span_within.f a0).bind fun t123 => (if t123 = true then (span_Path.l0 k a0 ([] : List (S23)) 0) else (some ([] : List (S23))))) = some r := h
  clear h
  replace H := Option.bind_eq_some_iff.mp H
  obtain ⟨t123, A20, H⟩ := H
  replace H : (if t123 = true then (span_Path.l0 k a0 ([] : List (S23)) 0) else (some ([] : List (S23)))) = some r := H
  have A2 := Aside0.mk A20
  clear A20
  by_cases c3 : t123 = true
  · subst c3
    have H1 : (span_Path.l0 k a0 ([] : List (S23)) 0) = some r := by rw [if_pos rfl] at H; exact H
    clear H
    have H := H1
    clear H1
    have H' := Aside0.mk H
    clear H
    go_enter Tryd.func23, Tryd.ntmps23
    go_wp2_with (first | ((with_reducible refine gate_callee (f := 27) rfl ?_); refine goesL_ (some 6) rfl rfl Tryd.func27 (by kernel_rfl) rfl #[.int .i64 a0] rfl (by (try simp only [List.map_toArray, List.map_cons, List.map_nil]); first | done | rfl | (simp only [List.length_drop, List.length_take]; rfl)) ?_; (with_reducible refine (span_within.calls a0 true _ A2.out).mono ?_); rintro e w' ⟨rfl, ⟨nd, rfl⟩⟩; refine ⟨_, rfl, ?_⟩))
    go_loopg [3, 8] k (fun kq v3 v8 w' => ∃ (x3_1 : List (S23)) (x8_1 : Int), v8 = .int .i64 x8_1 ∧ Aside0 (span_Path.l0 kq a0 x3_1 x8_1 = some r) ∧ Aside0 (kq ≤ k) ∧ Aside0 (Kd.R k23 23 w' w.heap.size (fun _ => True) v3 x3_1) ∧ Aside0 (Below w.heap.size w w'))
    case atStart => exact ⟨(([] : List (S23))), (0), (by first | rfl | (simp; done) | (simp [*]; done)), H', ⟨Nat.le_refl _⟩, ⟨by first | exact Kd.R_nil _ _ _ _ _ | exact Kd.N_nil _ _ _ _ _ | exact Kd.V_nil _ _ _ _ _ | exact Kd.Q_nil _ _ _ _ _ | exact Kd.S_nil _ _ _ _ _⟩, ⟨by repeat (first | (with_reducible first | exact HB.out | apply below_alloc | apply pw_below_drewN | apply below_drew1) | exact HB.out)⟩⟩
    case round =>
      clear H'
      try clear c2
      try clear p2
      try clear c3
      obtain ⟨x3_1, x8_1, rfl, HA, HK1, HO_3, HB⟩ := hrel
      cases gk with
      | zero => exact absurd HA.out (by simp [span_Path.l0])
      | succ k1 =>
        have H := HA.out
        clear HA
        simp only [span_Path.l0] at H
        by_cases c4 : x8_1 < 33
        · rw [if_pos c4] at H
          have c4b0 : decide (x8_1 < 33) = true := decide_eq_true c4
          clear c4
          replace H := Option.bind_eq_some_iff.mp H
          obtain ⟨⟨t124, t125⟩, A50, H⟩ := H
          replace H : (if x3_1.length < 8796093022208 then (span_Path.l0 k1 a0 (x3_1 ++ [(⟨t124, t125⟩ : S23)]) (wrap64 (x8_1 + 1))) else (none)) = some r := H
          have A5 := Aside0.mk A50
          clear A50
          by_cases c6 : x3_1.length < 8796093022208
          · rw [if_pos c6] at H
            have LMc6 := Aside0.mk c6
            clear c6
            obtain ⟨y126, hy126⟩ : ∃ y_ : List (S23), y_ = (x3_1 ++ [(⟨t124, t125⟩ : S23)]) := ⟨_, rfl⟩
            replace H : (span_Path.l0 k1 a0 y126 (wrap64 (x8_1 + 1))) = some r := by first | (rw [hy126]; with_reducible exact H) | (have H2_ := (Option.bind_some _ _).symm.trans H; rw [hy126]; with_reducible exact H2_) | (have H2_ := (Option.bind_some _ _).symm.trans H; with_reducible exact H2_) | with_reducible exact H | (rw [hy126]; exact H) | exact H
            have Ny126 := Aside0.mk hy126
            clear hy126
            have H' := Aside0.mk H
            clear H
            go_wp2_with (first | ((with_reducible refine gate_callee (f := 28) rfl ?_); refine goesL_ (some 14) rfl rfl Tryd.func28 (by kernel_rfl) rfl #[.int .i64 a0, .int .i64 x8_1] rfl (by (try simp only [List.map_toArray, List.map_cons, List.map_nil]); first | done | rfl | (simp only [List.length_drop, List.length_take]; rfl)) ?_; (with_reducible refine (span_at.calls a0 x8_1 t124 t125 _ A5.out).mono ?_); rintro e w7 ⟨rfl, hb⟩; refine ⟨_, rfl, ?_⟩; have n0_ := Aside0.mk (Kd.R_below (by (with_reducible repeat (first | apply Kd.R_alloc | apply Kd.R_drewN | apply Kd.R_drew)); exact HO_3.out) hb); have n1_ := Aside0.mk (below_step (by repeat (first | (with_reducible first | exact HB.out | apply below_alloc | apply pw_below_drewN | apply below_drew1) | exact HB.out)) hb); clear HO_3; clear HB; have HO_3 := n0_; have HB := n1_; clear n0_ n1_; (try clear hb); (try clear hb2); (try clear hk); (try clear hi)) | ((with_reducible refine gate_builtin (b := .append) (xs := #[.tmp 11, .tmp 15]) rfl ?_); at_builtin; refine Kd.R_append k23 (w0 := w) w.heap.size rfl (.tmp 11) (.tmp 15) 38 23 (.agg #[(.int .i64 0), (.int .i64 0)]) 16 rfl Tryd.underlying38 info23 rfl (by decide) (by omega) u3 x3_1 (⟨t124, t125⟩ : S23) [.int .i64 t124, .int .i64 t125] (fun _ => True) (fun _ => False) rfl rfl ?aP (fun _ hk => hk.elim) ?aF ?aO ?aB ?aS ?aL ?_; (case aP => exact k23_mkM _ _ _ (⟨t124, t125⟩ : S23)); (case aB => exact (by repeat (first | (with_reducible first | exact HB.out | apply below_alloc | apply pw_below_drewN | apply below_drew1) | exact HB.out))); (case aF => exact (fun _ _ => trivial)); (case aO => exact (by (with_reducible repeat (first | apply Kd.R_alloc | apply Kd.R_drewN | apply Kd.R_drew)); exact HO_3.out)); (case aS => exact (below_size (by repeat (first | (with_reducible first | exact HB.out | apply below_alloc | apply pw_below_drewN | apply below_drew1) | exact HB.out)))); (case aL => have := LMc6.out; omega); intro v127 w8 ho hb hg hat; rw [← Ny126.out] at ho; have n0_ := Aside0.mk (hb); have n1_ := Aside0.mk (ho); clear HB; clear HO_3; have HB := n0_; have HO128 := n1_; clear n0_ n1_; clear ho hb hg hat))
            go_roundg k1
            case measure => have := HK1.out; omega
            case rel => exact ⟨(y126), (wrap64 (x8_1 + 1)), (by first | rfl | (simp; done) | (simp [*]; done)), H', ⟨by have := HK1.out; omega⟩, ⟨by (with_reducible repeat (first | apply Kd.R_alloc | apply Kd.R_drewN | apply Kd.R_drew)); exact HO128.out⟩, ⟨by repeat (first | (with_reducible first | exact HB.out | apply below_alloc | apply pw_below_drewN | apply below_drew1) | exact HB.out)⟩⟩
          · rw [if_neg c6] at H
            exact absurd H (by simp)
        · rw [if_neg c4] at H
          have c4b0 : decide (x8_1 < 33) = false := decide_eq_false c4
          clear c4
          obtain rfl := Option.some.inj H
          go_wp2
          go_ret
          exact ⟨_, by first | rfl | (simp [errW_none, errW_some] <;> rfl) | (simp [*, errW_none, errW_some] <;> rfl), by (with_reducible repeat (first | apply Kd.R_alloc | apply Kd.R_drewN | apply Kd.R_drew)); exact HO_3.out, by repeat (first | (with_reducible first | exact HB.out | apply below_alloc | apply pw_below_drewN | apply below_drew1) | exact HB.out)⟩
  · replace c3 := Bool.eq_false_iff.mpr c3
    subst c3
    have H1 : (some ([] : List (S23))) = some r := by rw [if_neg (show ¬ (false = true) by decide)] at H; exact H
    clear H
    have H := H1
    clear H1
    obtain rfl := Option.some.inj H
    go_enter Tryd.func23, Tryd.ntmps23
    go_wp2_with (first | ((with_reducible refine gate_callee (f := 27) rfl ?_); refine goesL_ (some 6) rfl rfl Tryd.func27 (by kernel_rfl) rfl #[.int .i64 a0] rfl (by (try simp only [List.map_toArray, List.map_cons, List.map_nil]); first | done | rfl | (simp only [List.length_drop, List.length_take]; rfl)) ?_; (with_reducible refine (span_within.calls a0 false _ A2.out).mono ?_); rintro e w' ⟨rfl, ⟨nd, rfl⟩⟩; refine ⟨_, rfl, ?_⟩))
    go_ret
    exact ⟨_, by first | rfl | (simp [errW_none, errW_some] <;> rfl) | (simp [*, errW_none, errW_some] <;> rfl), by first | exact Kd.R_nil _ _ _ _ _ | exact Kd.N_nil _ _ _ _ _ | exact Kd.V_nil _ _ _ _ _ | exact Kd.Q_nil _ _ _ _ _ | exact Kd.S_nil _ _ _ _ _, by repeat (first | (with_reducible first | exact HB.out | apply below_alloc | apply pw_below_drewN | apply below_drew1) | exact HB.out)⟩

end Go.Proofs.YtapemeboobcgmaaDoor.Prt
