/- The reference's Decode and Scan answer what the program's answer. Conditions: the bytes are bytes, the lists are ones of memory. -/
import Derived.Test.YtgnhadbadhgdgaaMathF
import Derived.Test.YtgnhadbadhgdgaaPrtS
namespace Go.Proofs.Ytgnhadbadhgdgaa
open Go.RowKit Go.Proofs.YtgnhadbadhgdgaaW.PrintWords Go.Proofs.YtgnhadbadhgdgaaW.PrintLast Go.Proofs.YtgnhadbadhgdgaaW.PrintMore
open Prt Ext
set_option linter.unusedVariables false
set_option linter.unusedSimpArgs false

/-- read, from group j on; d groups may come. -/
def readF (most : Int) (a : Nat) : Nat → List Int → Nat → Nat → Int × Int × Bool
  | 0, _, _, _ => (0, 0, false)
  | _ + 1, [], _, _ => (0, 0, false)
  | d + 1, c :: t, acc, j =>
    if c < 128 then (((acc + c.toNat * 128 ^ j : Nat) : Int), ((a + j + 1 : Nat) : Int), decide (((acc + c.toNat * 128 ^ j : Nat) : Int) ≤ most) && (decide (c > 0) || decide (j = 0)))
    else readF most a d t (acc + c.toNat % 128 * 128 ^ j) (j + 1)
theorem pow_le7 {j : Nat} (h : j ≤ 7) : 128 ^ j ≤ 562949953421312 := by
  have h1 : 128 ^ j ≤ 128 ^ 7 := Nat.pow_le_pow_right (by decide) h
  have h2 : 128 ^ 7 = 562949953421312 := by decide
  rw [h2] at h1
  exact h1
theorem step_small {x P acc : Nat} (hp : P ≤ 562949953421312) (ha : acc < P) : x % 128 * P < 9223372036854775808 ∧ acc + x % 128 * P < 9223372036854775808 ∧ P * 128 < 9223372036854775808 ∧ acc + x % 128 * P < P * 128 := by
  have h : x % 128 * P ≤ 127 * P := Nat.mul_le_mul_right _ (by omega)
  generalize x % 128 * P = z at *
  omega
theorem lt49 {m : Nat} (h : m < 2 ^ 49) : m < 2 ^ (7 * 9 + 7) ∧ m < 2 ^ (7 * 6 + 7) := ⟨Nat.lt_of_lt_of_le h (Nat.pow_le_pow_right (by decide) (by decide)), h⟩
theorem of_most {m : Nat} {most : Int} (h : (m : Int) ≤ most) (hm : most ≤ 1099511627777) : m < 2 ^ 49 := by
  have e : (2 : Nat) ^ 49 = 562949953421312 := by decide
  rw [e]
  omega
theorem tmod_nat (x P : Nat) : Int.tmod (x : Int) 128 * ((P : Nat) : Int) = ((x % 128 * P : Nat) : Int) := by
  rw [Int.tmod_eq_emod_of_nonneg (by omega), show ((x : Int) % 128) = ((x % 128 : Nat) : Int) by omega]
  push_cast
  rfl
theorem j1_step (k : Nat) (l : List Int) (a j acc P x : Nat) (most : Int) (hlt : a + j < l.length) (hl : l.length ≤ 1099511627776) (hx : x < 256) (hr : rd l ((a + j : Nat) : Int) = (x : Int)) (hP : P ≤ 562949953421312) (hacc : acc < P) (hj : j < 8) :
    trommelref17_read.j1 (k + 1) l (a : Int) most (acc : Int) (P : Int) (j : Int) true =
      if (x : Int) < 128 then (if ((acc + x % 128 * P : Nat) : Int) ≤ most then (if (x : Int) > 0 then some (((acc + x % 128 * P : Nat) : Int), ((a + j + 1 : Nat) : Int), true) else some (((acc + x % 128 * P : Nat) : Int), ((a + j + 1 : Nat) : Int), ((j : Int) == 0))) else some (((acc + x % 128 * P : Nat) : Int), ((a + j + 1 : Nat) : Int), false))
      else trommelref17_read.l0 k l (a : Int) most ((acc + x % 128 * P : Nat) : Int) ((P * 128 : Nat) : Int) ((j + 1 : Nat) : Int) := by
  have hb1 : (0 : Int) ≤ ((a + j : Nat) : Int) := Int.natCast_nonneg _
  have hb2 : ((a + j : Nat) : Int) < (l.length : Int) := Int.ofNat_lt.2 hlt
  obtain ⟨s1, s2, s3, _⟩ := step_small (x := x) hP hacc
  have hw : wrap64 ((a : Int) + (j : Int)) = ((a + j : Nat) : Int) := wrap_nat (n := a + j) (Nat.lt_trans hlt (Nat.lt_of_le_of_lt hl (by decide)))
  have e1 : wrap64 (x : Int) = (x : Int) := wrap_nat (Nat.lt_trans hx (by decide))
  have e2 : wrap64 (Int.tmod (x : Int) 128 * (P : Int)) = ((x % 128 * P : Nat) : Int) := by
    rw [tmod_nat]
    exact wrap_nat s1
  have e3 : wrap64 ((acc : Int) + ((x % 128 * P : Nat) : Int)) = ((acc + x % 128 * P : Nat) : Int) := wrap_nat (n := acc + x % 128 * P) s2
  have e4 : wrap64 (((a + j : Nat) : Int) + 1) = ((a + j + 1 : Nat) : Int) := wrap_nat (n := a + j + 1) (Nat.lt_of_le_of_lt (Nat.succ_le_of_lt hlt) (Nat.lt_of_le_of_lt hl (by decide)))
  have e5 : wrap64 ((P : Int) * 128) = ((P * 128 : Nat) : Int) := wrap_nat (n := P * 128) s3
  have e6 : wrap64 ((j : Int) + 1) = ((j + 1 : Nat) : Int) := wrap_nat (n := j + 1) (Nat.lt_of_le_of_lt hj (by decide))
  simp only [trommelref17_read.j1]
  rw [if_pos trivial, hw, if_pos hb1, if_pos hb2, hr, e1, e2, e3, e4, e5, e6]
theorem ev_read_l0 (l : List Int) (hb : isB l) (hl : l.length ≤ 1099511627776) (a : Nat) (ha : a ≤ 10) (most : Int) : ∀ (d j acc P : Nat), P = 128 ^ j → j + d = 8 → acc < P →
    Ev (fun k => trommelref17_read.l0 k l (a : Int) most (acc : Int) (P : Int) (j : Int)) (readF most a d (l.drop (a + j)) acc j)
  | 0, j, acc, P, hP, hj, hacc => by
    obtain rfl : j = 8 := by omega
    refine Ev.step (f := fun k => trommelref17_read.j1 k l (a : Int) most (acc : Int) (P : Int) ((8 : Nat) : Int) false) (fun k => ?_) (ev_now fun k => ?_)
    · simp only [trommelref17_read.l0]
      rw [if_neg (by decide)]
    · simp only [trommelref17_read.j1]
      rw [if_neg (by decide)]
      rfl
  | d + 1, j, acc, P, hP, hj, hacc => by
    have hp : P ≤ 562949953421312 := by rw [hP]; exact pow_le7 (j := j) (by omega)
    have hj8 : j < 8 := by omega
    have hw : wrap64 ((a : Int) + (j : Int)) = ((a + j : Nat) : Int) := wrap_nat (n := a + j) (by omega)
    refine Ev.step (f := fun k => trommelref17_read.j1 k l (a : Int) most (acc : Int) (P : Int) (j : Int) (decide (((a + j : Nat) : Int) < (l.length : Int)))) (fun k => ?_) ?_
    · simp only [trommelref17_read.l0]
      rw [if_pos (show (j : Int) < 8 from Int.ofNat_lt.2 hj8), hw]
    clear hw
    cases hd : l.drop (a + j) with
    | nil =>
      have hle : l.length ≤ a + j := List.drop_eq_nil_iff.1 hd
      rw [decide_eq_false (fun h => absurd (Int.ofNat_lt.1 h) (Nat.not_lt.2 hle))]
      refine ev_now fun k => ?_
      simp only [trommelref17_read.j1]
      rw [if_neg (by decide)]
      rfl
    | cons c t =>
      have hlt := drop_lt hd
      have hc : 0 ≤ c ∧ c < 256 := hb c (List.mem_of_mem_drop (by rw [hd]; exact List.mem_cons_self))
      have hr : rd l ((a + j : Nat) : Int) = c := by
        unfold rd
        rw [Int.toNat_natCast, List.getD_eq_getElem?_getD, List.getElem?_eq_getElem hlt]
        rw [List.drop_eq_getElem_cons hlt] at hd
        injection hd
      obtain ⟨x, rfl⟩ := Int.eq_ofNat_of_zero_le hc.1
      have hx3 : x < 256 := Int.ofNat_lt.1 hc.2
      have hj1 := fun k => j1_step k l a j acc P x most hlt hl hx3 hr hp hacc hj8
      rw [decide_eq_true (Int.ofNat_lt.2 hlt)]
      by_cases hx : x < 128
      · refine ev_now fun k => ?_
        rw [hj1, if_pos (show (x : Int) < 128 from Int.ofNat_lt.2 hx)]
        rw [readF, if_pos (show (x : Int) < 128 from Int.ofNat_lt.2 hx), Int.toNat_natCast, Nat.mod_eq_of_lt hx, ← hP]
        by_cases hm : ((acc + x * P : Nat) : Int) ≤ most
        · rw [if_pos hm, decide_eq_true hm]
          by_cases h0 : (x : Int) > 0
          · rw [if_pos h0, decide_eq_true h0]; rfl
          · rw [if_neg h0, decide_eq_false h0]
            by_cases hj0 : j = 0
            · subst hj0; rfl
            · rw [decide_eq_false hj0, show ((j : Int) == 0) = false from beq_eq_false_iff_ne.2 (fun h => hj0 (by exact_mod_cast h))]; rfl
        · rw [if_neg hm, decide_eq_false hm]; rfl
      · have hxn : ¬ (x : Int) < 128 := fun h => hx (Int.ofNat_lt.1 h)
        have ih := ev_read_l0 l hb hl a ha most d (j + 1) (acc + x % 128 * P) (P * 128) (by rw [hP, Nat.pow_succ]) (by omega) (step_small (x := x) hp hacc).2.2.2
        rw [show l.drop (a + (j + 1)) = t from drop_next hd] at ih
        rw [readF, if_neg hxn, Int.toNat_natCast, ← hP]
        refine Ev.step (fun k => ?_) ih
        rw [hj1, if_neg hxn]
theorem ev_read (l : List Int) (hb : isB l) (hl : l.length ≤ 1099511627776) (a : Nat) (ha : a ≤ 10) (most : Int) : Ev (fun k => trommelref17_read.f k l (a : Int) most) (readF most a 8 (l.drop a) 0 0) := by
  have := ev_read_l0 l hb hl a ha most 8 0 0 1 (by decide) (by omega) (by decide)
  exact this
theorem readF_yes (most : Int) (a : Nat) : ∀ (f m d acc j : Nat) (rest : List Int), m < 2 ^ (7 * f + 7) → f < d → (0 < m ∨ j = 0) → ((acc + m * 128 ^ j : Nat) : Int) ≤ most →
    readF most a d (varF f m ++ rest) acc j = (((acc + m * 128 ^ j : Nat) : Int), ((a + j + (varF f m).length : Nat) : Int), true)
  | f, m, 0, acc, j, rest, hm, hf, h0, hmo => by omega
  | f, m, d + 1, acc, j, rest, hm, hf, h0, hmo => by
    by_cases hlt : m < 128
    · have hv : varF f m = [(m : Int)] := by
        cases f with
        | zero => rfl
        | succ f => rw [varF, if_pos hlt]
      rw [hv]
      show readF most a (d + 1) ((m : Int) :: rest) acc j = _
      rw [readF, if_pos (by omega), Int.toNat_natCast, decide_eq_true hmo]
      have e2 : (decide ((m : Int) > 0) || decide (j = 0)) = true := by
        rcases h0 with h | h
        · simp; omega
        · simp [h]
      rw [e2]
      rfl
    · obtain ⟨f, rfl⟩ : ∃ g, f = g + 1 := by
        cases f with
        | zero => simp at hm; omega
        | succ g => exact ⟨g, rfl⟩
      have hv : varF (f + 1) m = ((m % 128 + 128 : Nat) : Int) :: varF f (m / 128) := by rw [varF, if_neg hlt]
      rw [hv]
      show readF most a (d + 1) (((m % 128 + 128 : Nat) : Int) :: (varF f (m / 128) ++ rest)) acc j = _
      have e3 : acc + m % 128 * 128 ^ j + m / 128 * 128 ^ (j + 1) = acc + m * 128 ^ j := by
        have h2 : 128 ^ (j + 1) = 128 * 128 ^ j := by rw [Nat.pow_succ]; omega
        rw [h2, ← Nat.mul_assoc, Nat.add_assoc, ← Nat.add_mul]
        congr 2
        omega
      rw [readF, if_neg (by omega), Int.toNat_natCast, show (m % 128 + 128) % 128 = m % 128 by omega]
      rw [readF_yes most a f (m / 128) d _ (j + 1) rest (by
        rw [Nat.div_lt_iff_lt_mul (by decide), show (128 : Nat) = 2 ^ 7 from rfl, ← Nat.pow_add]
        exact Nat.lt_of_lt_of_le hm (Nat.pow_le_pow_right (by decide) (by omega))) (by omega) (.inl (by omega)) (by rw [e3]; exact hmo), e3]
      simp only [List.length_cons]
      congr 2
      omega
theorem group_up {f m x : Nat} (hm : m < 2 ^ (7 * f + 7)) (hm0 : 0 < m) (hx : ¬ x < 128) (hx2 : x < 256) : varF (f + 1) (x % 128 + 128 * m) = (x : Int) :: varF f m ∧ x % 128 + 128 * m < 2 ^ (7 * (f + 1) + 7) ∧ 0 < x % 128 + 128 * m ∧ True := by
  refine ⟨?_, ?_, by omega, trivial⟩
  · rw [varF, if_neg (by omega), show (x % 128 + 128 * m) % 128 + 128 = x by omega, show (x % 128 + 128 * m) / 128 = m by omega]
  · rw [show 7 * (f + 1) + 7 = (7 * f + 7) + 7 by omega, Nat.pow_add]; omega
theorem shift_len (a j L : Nat) : a + (j + 1) + L = a + j + (L + 1) := by omega
theorem readF_inv (most : Int) (a : Nat) : ∀ (d : Nat) (t : List Int) (acc j : Nat), isB t → (readF most a d t acc j).2.2 = true →
    ∃ f m rest, f < d ∧ t = varF f m ++ rest ∧ m < 2 ^ (7 * f + 7) ∧ (0 < m ∨ j = 0) ∧ ((acc + m * 128 ^ j : Nat) : Int) ≤ most ∧ readF most a d t acc j = (((acc + m * 128 ^ j : Nat) : Int), ((a + j + (varF f m).length : Nat) : Int), true)
  | 0, t, acc, j, hb, h => by simp [readF] at h
  | d + 1, [], acc, j, hb, h => by simp [readF] at h
  | d + 1, c :: t, acc, j, hb, h => by
    have hc := hb c List.mem_cons_self
    obtain ⟨x, rfl⟩ := Int.eq_ofNat_of_zero_le hc.1
    by_cases hx : (x : Int) < 128
    · have hR : readF most a (d + 1) ((x : Int) :: t) acc j = (((acc + x * 128 ^ j : Nat) : Int), ((a + j + 1 : Nat) : Int), decide (((acc + x * 128 ^ j : Nat) : Int) ≤ most) && (decide ((x : Int) > 0) || decide (j = 0))) := by rw [readF, if_pos hx, Int.toNat_natCast]
      rw [hR] at h ⊢
      simp only [Bool.and_eq_true, Bool.or_eq_true, decide_eq_true_eq] at h
      have hx2 : x < 128 := Int.ofNat_lt.1 hx
      refine ⟨0, x, t, Nat.succ_pos d, rfl, hx2, h.2.imp (fun h => Int.ofNat_lt.1 h) id, h.1, ?_⟩
      rw [decide_eq_true h.1]
      have e2 : (decide ((x : Int) > 0) || decide (j = 0)) = true := by
        rcases h.2 with h | h
        · rw [decide_eq_true h]; rfl
        · rw [decide_eq_true h, Bool.or_true]
      rw [e2]
      rfl
    · have hR : readF most a (d + 1) ((x : Int) :: t) acc j = readF most a d t (acc + x % 128 * 128 ^ j) (j + 1) := by rw [readF, if_neg hx, Int.toNat_natCast]
      rw [hR] at h ⊢
      obtain ⟨f, m, rest, hf, ht, hm, h0, hmo, he⟩ := readF_inv most a d t _ (j + 1) (fun y hy => hb y (List.mem_cons_of_mem _ hy)) h
      have hm0 : 0 < m := h0.resolve_right (Nat.succ_ne_zero j)
      have e3 : acc + x % 128 * 128 ^ j + m * 128 ^ (j + 1) = acc + (x % 128 + 128 * m) * 128 ^ j := by
        rw [Nat.pow_succ, Nat.add_mul, Nat.add_assoc, Nat.mul_comm 128 m, Nat.mul_assoc, Nat.mul_comm 128]
      rw [e3] at hmo he
      have hx2 : ¬ x < 128 := fun h => hx (Int.ofNat_lt.2 h)
      have hx3 : x < 256 := Int.ofNat_lt.1 hc.2
      obtain ⟨g1, g2, g3, g4⟩ := group_up hm hm0 hx2 hx3 (f := f)
      refine ⟨f + 1, x % 128 + 128 * m, rest, Nat.succ_lt_succ hf, ?_, g2, .inl g3, hmo, ?_⟩
      · rw [g1, ht]; rfl
      · rw [he, g1, List.length_cons, shift_len]
/-- A number as the reference reads it. -/
theorem read_yes {t rest : List Int} {m a : Nat} {most : Int} (ht : t = varL m ++ rest) (hm : (m : Int) ≤ most) (h49 : m < 2 ^ 49) : readF most a 8 t 0 0 = ((m : Int), ((a + (varL m).length : Nat) : Int), true) := by
  have e : varL m = varF 6 m := varF_fuel 9 6 m (lt49 h49).1 (lt49 h49).2
  rw [ht, e]
  have := readF_yes most a 6 m 8 0 0 rest (lt49 h49).2 (by omega) (.inr rfl) (by simpa using hm)
  simpa using this
theorem read_inv {t : List Int} {a : Nat} {most : Int} (hb : isB t) (h : (readF most a 8 t 0 0).2.2 = true) (hmo : most ≤ 1099511627777) : ∃ (m : Nat) (rest : List Int), t = varL m ++ rest ∧ (m : Int) ≤ most ∧ m < 2 ^ 49 ∧ readF most a 8 t 0 0 = ((m : Int), ((a + (varL m).length : Nat) : Int), true) := by
  obtain ⟨f, m, rest, hf, ht, hm, h0, h1, he⟩ := readF_inv most a 8 t 0 0 hb h
  have h1' : (m : Int) ≤ most := by simpa using h1
  have h49 : m < 2 ^ 49 := of_most h1' hmo
  have e : varF f m = varL m := varF_fuel f 9 m hm (lt49 h49).1
  rw [e] at ht he
  exact ⟨m, rest, ht, h1', h49, by simpa using he⟩

/-! ### begins -/
theorem ev_begins_l0 (b w : List Int) (hlen : w.length ≤ b.length) (hw : w.length ≤ 1099511627776) : ∀ (d i : Nat), i + d = w.length → b.take i = w.take i → Ev (fun k => trommelref17_begins.l0 k b w (i : Int)) (decide (b.take w.length = w))
  | 0, i, hi, he => by
    refine ev_now fun k => ?_
    simp only [trommelref17_begins.l0]
    rw [if_neg (by omega), decide_eq_true (by rw [show i = w.length by omega, List.take_length] at he; exact he)]
  | d + 1, i, hi, he => by
    have hlt : i < w.length := by omega
    have hlb : i < b.length := by omega
    have h1 : rd b (i : Int) = b[i] := by rw [rd, Int.toNat_natCast, List.getD_eq_getElem?_getD, List.getElem?_eq_getElem hlb]; rfl
    have h2 : rd w (i : Int) = w[i] := by rw [rd, Int.toNat_natCast, List.getD_eq_getElem?_getD, List.getElem?_eq_getElem hlt]; rfl
    by_cases hc : b[i] = w[i]
    · have ih := ev_begins_l0 b w hlen hw d (i + 1) (by omega) (by rw [List.take_succ_eq_append_getElem hlb, List.take_succ_eq_append_getElem hlt, he, hc])
      refine Ev.step (fun k => ?_) ih
      simp only [trommelref17_begins.l0]
      rw [if_pos (by omega), if_pos (by omega), if_pos (by omega), h1, h2, if_pos hc, wrap_add1 (by omega)]
    · refine ev_now fun k => ?_
      simp only [trommelref17_begins.l0]
      rw [if_pos (by omega), if_pos (by omega), if_pos (by omega), h1, h2, if_neg hc, decide_eq_false]
      intro e
      have := congrArg (fun l => l[i]?) e
      simp only [List.getElem?_take_of_lt hlt, List.getElem?_eq_getElem hlb, List.getElem?_eq_getElem hlt, Option.some.injEq] at this
      exact hc this
theorem ev_begins (b w : List Int) (hw : w.length ≤ 1099511627776) : Ev (fun k => trommelref17_begins.f k b w) (decide (b.take w.length = w)) := by
  unfold trommelref17_begins.f
  by_cases h : (b.length : Int) < (w.length : Int)
  · simp only [if_pos h]
    rw [decide_eq_false]
    · exact Ev.now _
    · intro e
      have := congrArg List.length e
      rw [List.length_take] at this
      omega
  · simp only [if_neg h]
    have := ev_begins_l0 b w (by omega) hw w.length 0 (by omega) (by simp)
    exact this
theorem take_begins {b w : List Int} : b.take w.length = w ↔ ∃ rest, b = w ++ rest :=
  ⟨fun h => ⟨b.drop w.length, by conv => lhs; rw [← List.take_append_drop w.length b, h]⟩, fun ⟨r, h⟩ => by rw [h]; exact take_app rfl⟩

/-! ### Decode -/
def decT (b : List Int) : Int × Int × ByteArray × Int × Int := ((decF b).1.1, (decF b).1.2.1, (decF b).1.2.2, (decF b).2.1, (decF b).2.2)
theorem ev_refdec (b : List Int) (hb : isB b) (hl : b.length ≤ 1099511627776) : Ev (fun k => trommelref17_Decode.f k b) (decT b) := by
  have hB1 := drop_isB hb 1
  have h1 := ev_read b hb hl 1 (by omega) 8192
  obtain ⟨X, hX⟩ : ∃ X, readF 8192 1 8 (b.drop 1) 0 0 = X := ⟨_, rfl⟩
  rw [hX] at h1
  have hzero : (decF b).2.2 ≠ 0 → decT b = (0, 0, (⟨#[]⟩ : ByteArray), 0, 30) := fun h => by
    rcases dec_no b with h2 | h2
    · exact absurd h2 h
    · unfold decT; rw [h2]
  have hno : ∀ c : S32, mayS c = true → b.take (oneS c).length = oneS c → decT b = (c.f0, c.f1, c.f2, ((oneS c).length : Int), 0) := fun c hc ht => by
    obtain ⟨rest, hr⟩ := take_begins.1 ht
    unfold decT
    rw [hr, dec_oneS hc]
  unfold trommelref17_Decode.f
  refine Ev.bind h1 ?_
  by_cases hok : X.2.2 = true
  case neg =>
    have hz : (decF b).2.2 ≠ 0 := fun h => by
      obtain ⟨c, hc, _, rest, hr⟩ := dec_inv hb h
      obtain ⟨b0, b1, b2, b3, b4⟩ := may_bounds hc
      have hbl := body_len c.f0.toNat c.f1.toNat c.f2
      have hvl := varL_len c.f1.toNat
      have hd : b.drop 1 = varL (bodyB c.f0.toNat c.f1.toNat c.f2).length ++ (bodyB c.f0.toNat c.f1.toNat c.f2 ++ (sum4 (crcN (recB c.f0.toNat c.f1.toNat c.f2)) ++ rest)) := by
        rw [hr]; unfold oneS; rw [oneB_eq, recB]; simp
      have := read_yes (a := 1) (most := 8192) hd (by omega) (by omega)
      rw [hX] at this
      rw [this] at hok
      exact hok rfl
    rw [hzero hz]
    refine Ev.congr (fun k => if_neg (fun h => hok h.1)) (Ev.congr (fun k => if_neg (fun h => hok h.1)) (Ev.now _))
  case pos =>
    obtain ⟨n, rest, hd, hn1, hn2, he⟩ := read_inv hB1 (by rw [hX]; exact hok) (by omega)
    rw [hX] at he
    have hvl := varL_len n
    have hlen1 : 1 + (varL n).length ≤ b.length := by
      have h2 := congrArg List.length hd
      rw [List.length_drop, List.length_append] at h2
      have := List.length_pos_iff.2 (varL_ne n)
      omega
    have hdr : b.drop (1 + (varL n).length) = rest := by rw [← List.drop_drop, hd]; exact drop_app rfl
    have hrl : rest.length = b.length - (1 + (varL n).length) := by rw [← hdr, List.length_drop]
    rw [he]
    simp only [Int.toNat_natCast]
    by_cases hfit : (n : Int) ≤ (b.length : Int) - ((1 + (varL n).length : Nat) : Int) ∧ 2 ≤ (n : Int)
    case neg =>
      have hz : (decF b).2.2 ≠ 0 := fun h => by
        obtain ⟨c, hc, _, rest2, hr⟩ := dec_inv hb h
        obtain ⟨b0, b1, b2, b3, b4⟩ := may_bounds hc
        have hbl := body_len c.f0.toNat c.f1.toNat c.f2
        have hvl2 := varL_len c.f1.toNat
        have hp1 := List.length_pos_iff.2 (varL_ne c.f1.toNat)
        have hd2 : b.drop 1 = varL (bodyB c.f0.toNat c.f1.toNat c.f2).length ++ (bodyB c.f0.toNat c.f1.toNat c.f2 ++ (sum4 (crcN (recB c.f0.toNat c.f1.toNat c.f2)) ++ rest2)) := by
          rw [hr]; unfold oneS; rw [oneB_eq, recB]; simp
        have := read_yes (a := 1) (most := 8192) hd2 (by omega) (by omega)
        rw [hX, he] at this
        simp only [Prod.mk.injEq, and_true] at this
        have hnn : n = (bodyB c.f0.toNat c.f1.toNat c.f2).length := by omega
        have hlb := congrArg List.length hd2
        rw [List.length_drop, List.length_append, List.length_append, List.length_append, ← hnn] at hlb
        apply hfit
        omega
      rw [hzero hz]
      refine Ev.congr (fun k => if_neg (fun h => hfit ⟨h.2.1, h.2.2.1⟩)) (Ev.congr (fun k => if_neg (fun h => h.2 ⟨by omega, by omega, by omega, by omega⟩)) (Ev.now _))
    case pos =>
      refine Ev.congr (fun k => if_pos ⟨by first | rfl | trivial, hfit.1, hfit.2, by omega, by omega, by omega⟩) ?_
      rw [hdr]
      obtain ⟨body, hbody⟩ : ∃ body, rest.take n = body := ⟨_, rfl⟩
      have hbB : isB body := by rw [← hbody]; exact fun x hx => hb x (List.mem_of_mem_drop (by rw [hd]; exact List.mem_append_right _ (List.mem_of_mem_take hx)))
      have hbl : body.length = n := by rw [← hbody, List.length_take]; omega
      rw [hbody]
      have h2 := ev_read body hbB (by omega) 1 (by omega) 1099511627776
      obtain ⟨Y, hY⟩ : ∃ Y, readF 1099511627776 1 8 (body.drop 1) 0 0 = Y := ⟨_, rfl⟩
      rw [hY] at h2
      refine Ev.bind h2 ?_
      -- if it is a record, the body is the record's
      have hrec : ∀ c : S32, mayS c = true → b.take (oneS c).length = oneS c → body = bodyB c.f0.toNat c.f1.toNat c.f2 := fun c hc ht => by
        obtain ⟨rest2, hr⟩ := take_begins.1 ht
        obtain ⟨b0, b1, b2, b3, b4⟩ := may_bounds hc
        have hbl2 := body_len c.f0.toNat c.f1.toNat c.f2
        have hvl2 := varL_len c.f1.toNat
        have hd2 : b.drop 1 = varL (bodyB c.f0.toNat c.f1.toNat c.f2).length ++ (bodyB c.f0.toNat c.f1.toNat c.f2 ++ (sum4 (crcN (recB c.f0.toNat c.f1.toNat c.f2)) ++ rest2)) := by
          rw [hr]; unfold oneS; rw [oneB_eq, recB]; simp
        have := read_yes (a := 1) (most := 8192) hd2 (by omega) (by omega)
        rw [hX, he] at this
        simp only [Prod.mk.injEq, and_true] at this
        have hnn : n = (bodyB c.f0.toNat c.f1.toNat c.f2).length := by omega
        rw [hd, ← hnn] at hd2
        have := List.append_cancel_left hd2
        rw [← hbody, this]
        exact take_app hnn
      by_cases hok2 : Y.2.2 = true
      case neg =>
        have hz : (decF b).2.2 ≠ 0 := fun h => by
          obtain ⟨c, hc, _, rest2, hr⟩ := dec_inv hb h
          obtain ⟨b0, b1, b2, b3, b4⟩ := may_bounds hc
          have hbe := hrec c hc (take_begins.2 ⟨rest2, hr⟩)
          have hd3 : body.drop 1 = varL c.f1.toNat ++ textL c.f2 := by rw [hbe]; rfl
          have := read_yes (a := 1) (most := 1099511627776) hd3 (by omega) (by omega)
          rw [hY] at this
          rw [this] at hok2
          exact hok2 rfl
        rw [hzero hz]
        exact Ev.congr (fun k => if_neg hok2) (Ev.now _)
      case pos =>
        obtain ⟨id, rest3, hd3, hid1, hid2, he3⟩ := read_inv (drop_isB hbB 1) (by rw [hY]; exact hok2) (by omega)
        rw [hY] at he3
        rw [he3]
        simp only [Int.toNat_natCast, if_true]
        have hfl : 1 + (varL id).length ≤ body.length := by
          have h4 := congrArg List.length hd3
          rw [List.length_drop, List.length_append] at h4
          have := List.length_pos_iff.2 (varL_ne id)
          omega
        refine Ev.congr (fun k => if_pos ⟨by omega, by omega, hb⟩) ?_
        have hdr3 : body.drop (1 + (varL id).length) = rest3 := by rw [← List.drop_drop, hd3]; exact drop_app rfl
        rw [hdr3]
        obtain ⟨c, hc⟩ : ∃ c : S32, c = ⟨rd body 0, (id : Int), strOfNums rest3⟩ := ⟨_, rfl⟩
        have e0 : rd body 0 = c.f0 := by rw [hc]
        have e1 : (id : Int) = c.f1 := by rw [hc]
        have e2 : strOfNums rest3 = c.f2 := by rw [hc]
        rw [e0, e1, e2]
        simp only [refmay_eq, Option.bind_some]
        -- the record that it would be
        have hthis : ∀ c2 : S32, mayS c2 = true → b.take (oneS c2).length = oneS c2 → c2 = c := fun c2 hc2 ht => by
          have hbe := hrec c2 hc2 ht
          obtain ⟨b0, b1, b2, b3, b4⟩ := may_bounds hc2
          have hk : rd body 0 = c2.f0 := by rw [hbe]; show ((c2.f0.toNat : Nat) : Int) = c2.f0; exact Int.toNat_of_nonneg b0
          have hd4 : body.drop 1 = varL c2.f1.toNat ++ textL c2.f2 := by rw [hbe]; rfl
          have := read_yes (a := 1) (most := 1099511627776) hd4 (by omega) (by omega)
          rw [hY, he3] at this
          simp only [Prod.mk.injEq, and_true] at this
          have hii : id = c2.f1.toNat := by omega
          have h5 : rest3 = textL c2.f2 := by
            rw [hd3, hii] at hd4
            exact List.append_cancel_left hd4
          rw [hc, hk, h5, textL_str, hii, Int.toNat_of_nonneg (by omega)]
        by_cases hm : mayS c = true
        case neg =>
          have hz : (decF b).2.2 ≠ 0 := fun h => by
            obtain ⟨c2, hc2, _, rest2, hr⟩ := dec_inv hb h
            have := hthis c2 hc2 (take_begins.2 ⟨rest2, hr⟩)
            rw [this] at hc2
            exact hm hc2
          rw [hzero hz]
          exact Ev.congr (fun k => if_neg hm) (Ev.now _)
        case pos =>
          have hol := one_len hm
          refine Ev.congr (fun k => if_pos hm) ?_
          refine Ev.bind (ev_refone hm) ?_
          refine Ev.bind (ev_begins b (oneS c) (by omega)) ?_
          by_cases ht : b.take (oneS c).length = oneS c
          · rw [decide_eq_true ht, hno c hm ht]
            exact Ev.congr (fun k => if_pos rfl) (Ev.now _)
          · have hz : (decF b).2.2 ≠ 0 := fun h => by
              obtain ⟨c2, hc2, _, rest2, hr⟩ := dec_inv hb h
              have ht2 := take_begins.2 ⟨rest2, hr⟩
              have := hthis c2 hc2 ht2
              rw [this] at ht2
              exact ht ht2
            rw [decide_eq_false ht, hzero hz]
            exact Ev.congr (fun k => if_neg (by decide)) (Ev.now _)
end Go.Proofs.Ytgnhadbadhgdgaa
