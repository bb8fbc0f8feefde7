/- What is written is read back, and what is read is written so: numbers, sums, records. Conditions: the bytes are bytes. -/
import Derived.Test.YtgnhadbadhgdgaaMathB
import Derived.Laws.BitsAllLaws
import Derived.Lib.QuoteBits
namespace Go.Proofs.Ytgnhadbadhgdgaa
open Go.RowKit Go.Proofs.YtgnhadbadhgdgaaW.PrintWords Go.Proofs.YtgnhadbadhgdgaaW.PrintLast Go.Proofs.YtgnhadbadhgdgaaW.PrintMore
open Prt Ext
set_option linter.unusedVariables false
set_option linter.unusedSimpArgs false

/-! ### Bytes off the front -/
theorem drop_lt {b t : List Int} {x : Int} {at_ : Nat} (h : b.drop at_ = x :: t) : at_ < b.length := by
  rcases Nat.lt_or_ge at_ b.length with h1 | h1
  · exact h1
  · rw [List.drop_eq_nil_of_le h1] at h; cases h
theorem drop_next {b t : List Int} {x : Int} {at_ : Nat} (h : b.drop at_ = x :: t) : b.drop (at_ + 1) = t := by
  rw [← List.drop_drop, h]; rfl
theorem rdB_cons {b t : List Int} {x : Int} {at_ : Nat} (h : b.drop at_ = x :: t) : rdB b at_ true = (x, at_ + 1, true) := by
  have hlt := drop_lt h
  unfold rdB
  rw [if_pos ⟨rfl, hlt⟩]
  have e : b.getD at_ 0 = x := by
    rw [List.getD_eq_getElem?_getD, List.getElem?_eq_getElem hlt]
    rw [List.drop_eq_getElem_cons hlt] at h
    injection h
  rw [e]
theorem rdB_nil {b : List Int} {at_ : Nat} (h : b.drop at_ = []) : rdB b at_ true = (0, at_, false) := by
  have hle : b.length ≤ at_ := List.drop_eq_nil_iff.1 h
  unfold rdB
  rw [if_neg (fun h => by omega)]
theorem rdB_false (b : List Int) (at_ : Nat) : rdB b at_ false = (0, at_, false) := by
  unfold rdB
  rw [if_neg (fun h => by cases h.1)]
theorem rdB_ok {b : List Int} {at_ : Nat} {ok : Bool} (h : (rdB b at_ ok).2.2 = true) : ok = true ∧ ∃ x t, b.drop at_ = x :: t ∧ rdB b at_ ok = (x, at_ + 1, true) := by
  cases ok with
  | false => rw [rdB_false] at h; cases h
  | true =>
    cases hd : b.drop at_ with
    | nil => rw [rdB_nil hd] at h; cases h
    | cons x t => exact ⟨rfl, x, t, rfl, rdB_cons hd⟩

/-! ### Numbers -/
theorem i64_or_nat (a b : Nat) (ha : a < 2 ^ 50) (hb : b < 2 ^ 50) : bits .or .i64 (a : Int) (b : Int) = ((a ||| b : Nat) : Int) := by
  have hx : a ||| b < 2 ^ 50 := Nat.or_lt_two_pow ha hb
  show IntKind.i64.wrap ((BitVec.ofInt 64 (a : Int) ||| BitVec.ofInt 64 (b : Int)).toNat : Int) = _
  rw [BitVec.toNat_or, ofInt_u64 a (by omega), ofInt_u64 b (by omega)]
  exact Lib.wrap_i64_small _ (by omega)
theorem or_add (a y : Nat) (s : Nat) (ha : a < 2 ^ s) (hs : s ≤ 42) (hy : y < 128) : bits .or .i64 (a : Int) (wrap64 (wrap64 (y : Int) * 2 ^ (s : Int).toNat)) = ((a + y * 2 ^ s : Nat) : Int) := by
  have hp : (2 : Nat) ^ s ≤ 2 ^ 42 := Nat.pow_le_pow_right (by decide) hs
  have h42 : (2 : Nat) ^ 42 = 4398046511104 := by decide
  have hm : y * 2 ^ s ≤ 127 * 2 ^ 42 := Nat.mul_le_mul (by omega) hp
  have e1 : wrap64 (y : Int) = (y : Int) := by unfold wrap64; omega
  rw [e1, Int.toNat_natCast, show (y : Int) * 2 ^ s = ((y * 2 ^ s : Nat) : Int) by push_cast; rfl]
  generalize hz : y * 2 ^ s = z at *
  have e2 : wrap64 (z : Int) = (z : Int) := by unfold wrap64; omega
  rw [e2]
  have ho : a ||| z = a + z := by
    rw [← hz, Nat.mul_comm, Nat.or_comm, ← Nat.two_pow_add_eq_or_of_lt ha, Nat.add_comm]
  have hlt : a ||| z < 2 ^ 50 := by rw [ho]; omega
  have := i64_or_nat a z (by omega) (by omega)
  rw [this, ho]
theorem and_127 : ∀ x : Fin 256, bits .and .u8 ((x.val : Nat) : Int) 127 = ((x.val % 128 : Nat) : Int) := by decide +kernel
theorem num_step (a : Nat) (x : Int) (s : Nat) (ha : a < 2 ^ s) (hs : s ≤ 42) (hx : 0 ≤ x ∧ x < 256) : bits .or .i64 (a : Int) (wrap64 (wrap64 (bits .and .u8 x 127) * 2 ^ (s : Int).toNat)) = ((a + (x.toNat % 128) * 2 ^ s : Nat) : Int) := by
  obtain ⟨n, rfl⟩ := Int.eq_ofNat_of_zero_le hx.1
  have h := and_127 ⟨n, by omega⟩
  simp only at h
  rw [h, Int.toNat_natCast]
  exact or_add a (n % 128) s ha hs (by omega)
theorem numF_false (b : List Int) : ∀ (r : Nat) (n sh : Int) (at_ : Nat), (numF b r n sh at_ false).2.2 = false
  | 0, _, _, _ => rfl
  | r + 1, n, sh, at_ => by
    simp only [numF, rdB_false]
    rw [if_pos (by decide)]
    rfl
theorem varF_fuel : ∀ (f g m : Nat), m < 2 ^ (7 * f + 7) → m < 2 ^ (7 * g + 7) → varF f m = varF g m
  | 0, 0, _, _, _ => rfl
  | 0, g + 1, m, h, _ => by
    have : m < 128 := by simpa using h
    rw [varF, varF, if_pos this]
  | f + 1, 0, m, _, h => by
    have : m < 128 := by simpa using h
    rw [varF, varF, if_pos this]
  | f + 1, g + 1, m, h1, h2 => by
    rw [varF, varF]
    split
    · rfl
    · rw [varF_fuel f g (m / 128)]
      · rw [Nat.div_lt_iff_lt_mul (by decide), show (128 : Nat) = 2 ^ 7 from rfl, ← Nat.pow_add]; exact Nat.lt_of_lt_of_le h1 (Nat.pow_le_pow_right (by decide) (by omega))
      · rw [Nat.div_lt_iff_lt_mul (by decide), show (128 : Nat) = 2 ^ 7 from rfl, ← Nat.pow_add]; exact Nat.lt_of_lt_of_le h2 (Nat.pow_le_pow_right (by decide) (by omega))
/-- What is written is read: f groups at the most are behind. -/
theorem numF_var (b : List Int) : ∀ (f m r a s at_ : Nat) (rest : List Int), b.drop at_ = varF f m ++ rest → m < 2 ^ (7 * f + 7) → f < r → a < 2 ^ s → s + 7 * f ≤ 42 → (0 < m ∨ s = 0) →
    numF b r (a : Int) (s : Int) at_ true = (((a + m * 2 ^ s : Nat) : Int), at_ + (varF f m).length, true)
  | f, m, 0, a, s, at_, rest, hd, hm, hr, ha, hs, h0 => by omega
  | f, m, r + 1, a, s, at_, rest, hd, hm, hr, ha, hs, h0 => by
    by_cases hlt : m < 128
    · have hv : varF f m = [(m : Int)] := by
        cases f with
        | zero => rfl
        | succ f => rw [varF, if_pos hlt]
      rw [hv] at hd ⊢
      have hx := rdB_cons (show b.drop at_ = (m : Int) :: rest from hd)
      simp only [numF, hx]
      rw [if_pos (by omega), num_step a m s ha (by omega) ⟨by omega, by omega⟩]
      have e : ((m : Int).toNat % 128) = m := by omega
      rw [e]
      have e2 : (decide (0 < (m : Int)) || decide ((s : Int) = 0)) = true := by
        rcases h0 with h | h
        · simp; omega
        · simp [h]
      simp only [e2]
      rfl
    · obtain ⟨f, rfl⟩ : ∃ g, f = g + 1 := by
        cases f with
        | zero => simp at hm; omega
        | succ g => exact ⟨g, rfl⟩
      have hv : varF (f + 1) m = ((m % 128 + 128 : Nat) : Int) :: varF f (m / 128) := by rw [varF, if_neg hlt]
      rw [hv] at hd ⊢
      have hx := rdB_cons (show b.drop at_ = ((m % 128 + 128 : Nat) : Int) :: (varF f (m / 128) ++ rest) from hd)
      have hd2 := drop_next (show b.drop at_ = ((m % 128 + 128 : Nat) : Int) :: (varF f (m / 128) ++ rest) from hd)
      have ih := numF_var b f (m / 128) r (a + m % 128 * 2 ^ s) (s + 7) (at_ + 1) rest hd2 (by
        rw [Nat.div_lt_iff_lt_mul (by decide), show (128 : Nat) = 2 ^ 7 from rfl, ← Nat.pow_add]
        exact Nat.lt_of_lt_of_le hm (Nat.pow_le_pow_right (by decide) (by omega))) (by omega) (by
        have h1 : m % 128 * 2 ^ s ≤ 127 * 2 ^ s := Nat.mul_le_mul_right _ (by omega)
        have h2 : 2 ^ (s + 7) = 128 * 2 ^ s := by rw [Nat.pow_add]; omega
        omega) (by omega) (.inl (by omega))
      simp only [numF, hx]
      rw [if_neg (by omega), num_step a _ s ha (by omega) ⟨by omega, by omega⟩]
      have e : (((m % 128 + 128 : Nat) : Int).toNat % 128) = m % 128 := by omega
      rw [e, show (s : Int) + 7 = ((s + 7 : Nat) : Int) by omega, ih]
      have e3 : a + m % 128 * 2 ^ s + m / 128 * 2 ^ (s + 7) = a + m * 2 ^ s := by
        have h2 : 2 ^ (s + 7) = 128 * 2 ^ s := by rw [Nat.pow_add]; omega
        rw [h2, ← Nat.mul_assoc, Nat.add_assoc, ← Nat.add_mul]
        congr 2
        omega
      rw [e3]
      simp only [List.length_cons]
      congr 2
      omega
/-- What is read is written so. -/
theorem numF_inv (b : List Int) (hb : isB b) : ∀ (r a s at_ : Nat) (ok : Bool) (n : Int) (at2 : Nat), numF b r (a : Int) (s : Int) at_ ok = (n, at2, true) → a < 2 ^ s → s + 7 * r ≤ 49 →
    ok = true ∧ ∃ f m, f < r ∧ n = ((a + m * 2 ^ s : Nat) : Int) ∧ m < 2 ^ (7 * f + 7) ∧ b.drop at_ = varF f m ++ b.drop at2 ∧ at2 = at_ + (varF f m).length ∧ at2 ≤ b.length ∧ (0 < m ∨ s = 0)
  | 0, a, s, at_, ok, n, at2, h, ha, hs => by simp [numF] at h
  | r + 1, a, s, at_, ok, n, at2, h, ha, hs => by
    cases ok with
    | false =>
      have h1 := numF_false b (r + 1) a s at_
      rw [h] at h1
      cases h1
    | true =>
      refine ⟨rfl, ?_⟩
      cases hd : b.drop at_ with
      | nil =>
        simp only [numF, rdB_nil hd] at h
        rw [if_pos (by decide)] at h
        simp at h
      | cons x t =>
        have hlt := drop_lt hd
        have hx : 0 ≤ x ∧ x < 256 := hb x (List.mem_of_mem_drop (by rw [hd]; exact List.mem_cons_self))
        simp only [numF, rdB_cons hd] at h
        rw [num_step a x s ha (by omega) hx] at h
        obtain ⟨c, rfl⟩ := Int.eq_ofNat_of_zero_le hx.1
        simp only [Int.toNat_natCast] at h
        by_cases hc : c < 128
        · rw [if_pos (by omega)] at h
          simp only [Prod.mk.injEq, Bool.true_and, Bool.or_eq_true, decide_eq_true_eq] at h
          obtain ⟨rfl, rfl, h3⟩ := h
          refine ⟨0, c, by omega, by rw [show c % 128 = c by omega], by simpa using hc, ?_, rfl, by omega, by omega⟩
          rw [drop_next hd]
          rfl
        · rw [if_neg (by omega), show (s : Int) + 7 = ((s + 7 : Nat) : Int) by omega] at h
          have hp : 2 ^ (s + 7) = 128 * 2 ^ s := by rw [Nat.pow_add]; omega
          obtain ⟨_, f, m, hf, hn, hm, hdr, hat, hle, h0⟩ := numF_inv b hb r _ (s + 7) (at_ + 1) true n at2 h (by
            have h1 : c % 128 * 2 ^ s ≤ 127 * 2 ^ s := Nat.mul_le_mul_right _ (by omega)
            omega) (by omega)
          have hm0 : 0 < m := by omega
          have hv : varF (f + 1) (c % 128 + 128 * m) = (c : Int) :: varF f m := by
            rw [varF, if_neg (by omega), show (c % 128 + 128 * m) % 128 + 128 = c by omega, show (c % 128 + 128 * m) / 128 = m by omega]
          refine ⟨f + 1, c % 128 + 128 * m, by omega, ?_, ?_, ?_, ?_, hle, .inl (by omega)⟩
          · rw [hn, hp]
            congr 1
            rw [Nat.add_mul, Nat.add_assoc, Nat.mul_comm 128 m, Nat.mul_assoc]
          · rw [show 7 * (f + 1) + 7 = (7 * f + 7) + 7 by omega, Nat.pow_add]
            omega
          · rw [hv, ← drop_next hd] at *
            rw [List.cons_append, ← hdr]
          · rw [hv, List.length_cons, hat]; omega
/-- A number as Decode reads it. -/
theorem num_read {b : List Int} {at_ m : Nat} {rest : List Int} (h : b.drop at_ = varL m ++ rest) (hm : m < 2 ^ 49) : numF b 7 0 0 at_ true = ((m : Int), at_ + (varL m).length, true) := by
  have e : varL m = varF 6 m := varF_fuel 9 6 m (by omega) (by omega)
  rw [e] at h ⊢
  have := numF_var b 6 m 7 0 0 at_ rest h (by omega) (by omega) (by decide) (by omega) (.inr rfl)
  simpa using this
theorem num_inv {b : List Int} (hb : isB b) {at_ at2 : Nat} {ok : Bool} {n : Int} (h : numF b 7 0 0 at_ ok = (n, at2, true)) : ok = true ∧ ∃ m : Nat, n = (m : Int) ∧ m < 2 ^ 49 ∧ b.drop at_ = varL m ++ b.drop at2 ∧ at2 = at_ + (varL m).length ∧ at2 ≤ b.length := by
  obtain ⟨h1, f, m, hf, hn, hm, hd, ha, hle, _⟩ := numF_inv b hb 7 0 0 at_ ok n at2 h (by decide) (by omega)
  have h49 : m < 2 ^ 49 := Nat.lt_of_lt_of_le hm (Nat.pow_le_pow_right (by decide) (by omega))
  have e : varF f m = varL m := varF_fuel f 9 m hm (by omega)
  rw [e] at hd ha
  exact ⟨h1, m, by simpa using hn, h49, hd, ha, hle⟩

/-! ### Sums -/
theorem sumF_false (b : List Int) (s : Int) : ∀ (r at_ : Nat), (sumF b s r at_ false).2 = false
  | 0, _ => rfl
  | r + 1, at_ => by
    simp only [sumF, rdB_false]
    have := sumF_false b s r at_
    split <;> exact this
theorem sumF_step {b t : List Int} {s x : Int} {r at_ : Nat} (h : b.drop at_ = x :: t) (hx : x = IntKind.u8.wrap (shB s r)) : sumF b s (r + 1) at_ true = sumF b s r (at_ + 1) true := by
  simp only [sumF, rdB_cons h]
  rw [if_pos hx]
theorem sum4_eq (s : Int) : sum4 s = [IntKind.u8.wrap (shB s 3), IntKind.u8.wrap (shB s 2), IntKind.u8.wrap (shB s 1), IntKind.u8.wrap (shB s 0)] := rfl
theorem sum_read' {b : List Int} {at_ : Nat} {s : Int} {rest : List Int} (h : b.drop at_ = sum4 s ++ rest) : sumF b s 4 at_ true = (at_ + 4, true) := by
  rw [sum4_eq] at h
  have h1 := drop_next (show b.drop at_ = _ :: _ from h)
  have h2 := drop_next (show b.drop (at_ + 1) = _ :: _ from h1)
  have h3 := drop_next (show b.drop (at_ + 1 + 1) = _ :: _ from h2)
  rw [sumF_step (show b.drop at_ = _ :: _ from h) rfl, sumF_step (show b.drop (at_ + 1) = _ :: _ from h1) rfl, sumF_step (show b.drop (at_ + 1 + 1) = _ :: _ from h2) rfl, sumF_step (show b.drop (at_ + 1 + 1 + 1) = _ :: _ from h3) rfl]
  rfl
theorem sumF_ok {b : List Int} {s : Int} {r at_ : Nat} {ok : Bool} (h : (sumF b s (r + 1) at_ ok).2 = true) : ok = true ∧ ∃ t, b.drop at_ = IntKind.u8.wrap (shB s r) :: t ∧ sumF b s (r + 1) at_ ok = sumF b s r (at_ + 1) true := by
  simp only [sumF] at h ⊢
  by_cases hk : (rdB b at_ ok).2.2 = true
  · obtain ⟨rfl, x, t, hd, he⟩ := rdB_ok hk
    rw [he] at h ⊢
    simp only at h ⊢
    by_cases hx : x = IntKind.u8.wrap (shB s r)
    · rw [if_pos hx]
      exact ⟨by first | rfl | trivial, t, by rw [hd, hx], rfl⟩
    · rw [if_neg hx, sumF_false] at h
      cases h
  · have hk' : (rdB b at_ ok).2.2 = false := by simpa using hk
    rw [hk'] at h
    have e : (if (rdB b at_ ok).1 = IntKind.u8.wrap (shB s r) then false else false) = false := by split <;> rfl
    rw [e, sumF_false] at h
    cases h
theorem sum_inv {b : List Int} {s : Int} {at_ : Nat} {ok : Bool} (h : (sumF b s 4 at_ ok).2 = true) : ok = true ∧ ∃ rest, b.drop at_ = sum4 s ++ rest ∧ sumF b s 4 at_ ok = (at_ + 4, true) := by
  obtain ⟨rfl, t1, h1, e1⟩ := sumF_ok h
  rw [e1] at h
  obtain ⟨_, t2, h2, e2⟩ := sumF_ok h
  rw [e2] at h
  obtain ⟨_, t3, h3, e3⟩ := sumF_ok h
  rw [e3] at h
  obtain ⟨_, t4, h4, e4⟩ := sumF_ok h
  have k1 := drop_next h1
  have k2 := drop_next h2
  have k3 := drop_next h3
  have hd : b.drop at_ = sum4 s ++ t4 := by
    rw [h1, ← k1, h2, ← k2, h3, ← k3, h4, sum4_eq]
    rfl
  exact ⟨rfl, t4, hd, sum_read' hd⟩
end Go.Proofs.Ytgnhadbadhgdgaa
