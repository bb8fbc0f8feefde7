/- The greedy cut of a range into spans, as a relation on numbers from 0 on; what it leaves; that span.Cover comes to it. Conditions: the range ends at 2^32 at the latest. -/
import Derived.Test.YtapemeboobcgmaaDoorPrt3
import Derived.Test.YtapemeboobcgmaaDoorMathA
namespace Go.Proofs.YtapemeboobcgmaaDoor.Prt
open Go.RowKit Go.Proofs.YtapemeboobcgmaaDoorW.PrintWords Go.Proofs.YtapemeboobcgmaaDoorW.PrintLast Go.Proofs.YtapemeboobcgmaaDoorW.PrintMore

/-- How often 2 divides a; 32 of 0. -/
def tzA (a : Nat) : Nat := Lib.ctz 64 (a ||| 4294967296)
/-- The greatest power of 2 that is at most n: its exponent. -/
def lgN (n : Nat) : Nat := Lib.bitLen n - 1

theorem or_top (a : Nat) (h : a < 4294967296) : a ||| 4294967296 = a + 4294967296 := by
  have := Nat.two_pow_add_eq_or_of_lt (i := 32) (b := a) h 1
  rw [Nat.mul_one] at this
  rw [Nat.or_comm]
  have e : (2 : Nat) ^ 32 = 4294967296 := rfl
  rw [e] at this
  omega

theorem tzA_spec (a : Nat) (h : a < 4294967296) : tzA a ≤ 32 ∧ (a = 0 → tzA a = 32) ∧ (tzA a = 32 → a = 0) ∧ ∃ q, a = q * 2 ^ tzA a ∧ (tzA a < 32 → q % 2 = 1) := by
  unfold tzA
  rw [or_top a h]
  have hx0 : a + 4294967296 ≠ 0 := by omega
  unfold Lib.ctz
  rw [if_neg hx0]
  obtain ⟨m, hm, hf⟩ := Lib.ctzFrom_spec 64 (a + 4294967296) (by omega) (by omega)
  generalize Lib.ctzFrom 64 (a + 4294967296) = t at hm hf ⊢
  by_cases ht : t ≤ 32
  · obtain ⟨d, hd⟩ : ∃ d, 32 = t + d := ⟨32 - t, by omega⟩
    have e : 4294967296 = 2 ^ t * 2 ^ d := by rw [← Nat.pow_add, ← hd]
    have hq : a = (2 * m + 1 - 2 ^ d) * 2 ^ t := by
      rw [Nat.mul_comm, Nat.mul_sub, ← hm, ← e]; omega
    refine ⟨ht, fun ha => ?_, fun h32 => ?_, 2 * m + 1 - 2 ^ d, hq, fun hlt => ?_⟩
    · subst ha
      rw [Nat.zero_add] at hm
      have : 2 ^ d = 2 * m + 1 := by
        have h1 : 2 ^ t * 2 ^ d = 2 ^ t * (2 * m + 1) := by rw [← e]; exact hm
        exact Nat.eq_of_mul_eq_mul_left (Nat.two_pow_pos t) h1
      cases d with
      | zero => omega
      | succ d => rw [Nat.pow_succ] at this; omega
    · subst h32
      have hd0 : d = 0 := by omega
      subst hd0
      have e32 : (2 : Nat) ^ 32 = 4294967296 := rfl
      rw [e32] at hq
      rcases Nat.eq_zero_or_pos (2 * m + 1 - 2 ^ 0) with hz | hz
      · rw [hz, Nat.zero_mul] at hq; exact hq
      · have : 4294967296 ≤ (2 * m + 1 - 2 ^ 0) * 4294967296 := Nat.le_mul_of_pos_left _ hz
        omega
    · obtain ⟨d', rfl⟩ : ∃ d', d = d' + 1 := ⟨d - 1, by omega⟩
      have h1 : 2 ^ t * 2 ^ (d' + 1) ≤ 2 ^ t * (2 * m + 1) := by rw [← e, ← hm]; omega
      have h2 := Nat.le_of_mul_le_mul_left h1 (Nat.two_pow_pos t)
      rw [Nat.pow_succ] at h2 ⊢
      omega
  · exfalso
    obtain ⟨d, rfl⟩ : ∃ d, t = 33 + d := ⟨t - 33, by omega⟩
    rw [Nat.pow_add] at hm
    have h1 : 2 ^ 33 * 1 ≤ 2 ^ 33 * 2 ^ d * (2 * m + 1) := by
      rw [Nat.mul_assoc]
      exact Nat.mul_le_mul_left _ (Nat.mul_pos (Nat.two_pow_pos d) (by omega))
    rw [← hm] at h1
    have e33 : (2 : Nat) ^ 33 = 8589934592 := rfl
    omega

theorem lgN_spec (n : Nat) (h0 : 0 < n) (h : n ≤ 4294967296) : 2 ^ lgN n ≤ n ∧ n < 2 ^ (lgN n + 1) ∧ lgN n ≤ 32 ∧ lgN n + 1 = Lib.bitLen n := by
  obtain ⟨h1, h2, h3⟩ := Lib.bitLenAux_bounds 64 n (by omega) (by omega)
  have hle := Lib.bitLen_le n 33 (by decide) (by omega)
  unfold lgN Lib.bitLen at *
  refine ⟨h2, ?_, by omega, by omega⟩
  rw [Nat.sub_add_cancel h1]; exact h3

theorem lt_of_pow {i j : Nat} (h : 2 ^ i < 2 ^ j) : i < j := (Nat.pow_lt_pow_iff_right (by decide)).1 h
theorem le_of_pow {i j : Nat} (h : 2 ^ i ≤ 2 ^ j) : i ≤ j := (Nat.pow_le_pow_iff_right (by decide)).1 h

/-- The greedy cut of n numbers from a on. -/
inductive Cov : Nat → Nat → List (Nat × Nat) → Prop
  | nil (a : Nat) : Cov a 0 []
  | cons (a n : Nat) (L : List (Nat × Nat)) : 0 < n → Cov (a + 2 ^ min (tzA a) (lgN n)) (n - 2 ^ min (tzA a) (lgN n)) L → Cov a n ((min (tzA a) (lgN n), a) :: L)

theorem pow_min_le {a n : Nat} (h0 : 0 < n) (h : n ≤ 4294967296) : 2 ^ min (tzA a) (lgN n) ≤ n :=
  Nat.le_trans (Nat.pow_le_pow_right (by decide) (Nat.min_le_right _ _)) (lgN_spec n h0 h).1

theorem cov_exists : ∀ (n a : Nat), a + n ≤ 4294967296 → ∃ L, Cov a n L := by
  intro n
  induction n using Nat.strongRecOn with
  | _ n ih =>
    intro a ha
    rcases Nat.eq_zero_or_pos n with rfl | h0
    · exact ⟨[], .nil a⟩
    · have hp := pow_min_le (a := a) h0 (by omega)
      have hpos := Nat.two_pow_pos (min (tzA a) (lgN n))
      obtain ⟨L, hL⟩ := ih (n - 2 ^ min (tzA a) (lgN n)) (by omega) (a + 2 ^ min (tzA a) (lgN n)) (by omega)
      exact ⟨_, .cons a n L h0 hL⟩

/-- One step on: how often 2 divides the next place. -/
theorem tz_up {a : Nat} (h : a < 4294967296) (ht : tzA a < 32) (h2 : a + 2 ^ tzA a < 4294967296) : tzA a + 1 ≤ tzA (a + 2 ^ tzA a) := by
  obtain ⟨_, _, _, q, hq, hodd⟩ := tzA_spec a h
  obtain ⟨g1, g2, g3, q2, hq2, hodd2⟩ := tzA_spec _ h2
  have ho := hodd ht
  generalize tzA a = t at *
  generalize tzA (a + 2 ^ t) = t2 at *
  apply Nat.lt_of_not_le
  intro hle
  have ho2 := hodd2 (by omega)
  obtain ⟨d, rfl⟩ : ∃ d, t = t2 + d := ⟨t - t2, by omega⟩
  have e : (q + 1) * 2 ^ d * 2 ^ t2 = q2 * 2 ^ t2 := by
    rw [← hq2, hq, Nat.mul_assoc, ← Nat.pow_add, Nat.add_comm d, ← Nat.succ_mul]
  have e2 := Nat.eq_of_mul_eq_mul_right (Nat.two_pow_pos t2) e
  obtain ⟨r, hr⟩ : ∃ r, q + 1 = 2 * r := ⟨(q + 1) / 2, by omega⟩
  rw [hr, Nat.mul_assoc] at e2
  omega

theorem tz_down {a l : Nat} (h : a < 4294967296) (hl : l < tzA a) (h2 : a + 2 ^ l < 4294967296) : tzA (a + 2 ^ l) = l := by
  obtain ⟨g0, _, _, q, hq, _⟩ := tzA_spec a h
  obtain ⟨g1, g2, g3, q2, hq2, hodd2⟩ := tzA_spec _ h2
  obtain ⟨d, hd⟩ : ∃ d, tzA a = l + 1 + d := ⟨tzA a - l - 1, by omega⟩
  rw [hd] at hq
  have ha : a = 2 * (q * 2 ^ d) * 2 ^ l := by
    rw [hq, Nat.pow_add, Nat.pow_succ]; ac_rfl
  generalize q * 2 ^ d = r at ha
  have hs : a + 2 ^ l = (2 * r + 1) * 2 ^ l := by rw [Nat.add_mul, Nat.one_mul, ← ha]
  generalize htt : tzA (a + 2 ^ l) = t2 at *
  rcases Nat.lt_trichotomy t2 l with hlt | heq | hgt
  · exfalso
    have ho2 := hodd2 (by omega)
    obtain ⟨c, rfl⟩ : ∃ c, l = t2 + 1 + c := ⟨l - t2 - 1, by omega⟩
    have e : (2 * r + 1) * (2 * 2 ^ c) * 2 ^ t2 = q2 * 2 ^ t2 := by
      rw [← hq2, hs, Nat.pow_add, Nat.pow_succ]; ac_rfl
    have e2 := Nat.eq_of_mul_eq_mul_right (Nat.two_pow_pos t2) e
    have : q2 = 2 * ((2 * r + 1) * 2 ^ c) := by rw [← e2]; ac_rfl
    omega
  · exact heq
  · exfalso
    obtain ⟨c, rfl⟩ : ∃ c, t2 = l + 1 + c := ⟨t2 - l - 1, by omega⟩
    have e : (2 * r + 1) * 2 ^ l = (2 * (q2 * 2 ^ c)) * 2 ^ l := by
      rw [← hs, hq2, Nat.pow_add, Nat.pow_succ]; ac_rfl
    have e2 := Nat.eq_of_mul_eq_mul_right (Nat.two_pow_pos l) e
    omega

theorem min_low {a n : Nat} (h0 : 0 < n) (h : n ≤ 4294967296) (hlt : n < 2 ^ tzA a) : min (tzA a) (lgN n) = lgN n ∧ lgN n < tzA a := by
  have h1 := lgN_spec n h0 h
  have : lgN n < tzA a := lt_of_pow (Nat.lt_of_le_of_lt h1.1 hlt)
  exact ⟨Nat.min_eq_right (by omega), this⟩

theorem min_high {a n : Nat} (h0 : 0 < n) (h : n ≤ 4294967296) (hle : 2 ^ tzA a ≤ n) : min (tzA a) (lgN n) = tzA a := by
  have h1 := lgN_spec n h0 h
  have : tzA a < lgN n + 1 := lt_of_pow (Nat.lt_of_le_of_lt hle h1.2.1)
  exact Nat.min_eq_left (by omega)

/-- Going down: as many spans as bits. -/
theorem len_down : ∀ {a n : Nat} {L : List (Nat × Nat)}, Cov a n L → a + n ≤ 4294967296 → (n = 0 ∨ n < 2 ^ tzA a) → ∀ j, n < 2 ^ j → L.length ≤ j := by
  intro a n L hc
  induction hc with
  | nil a => intro _ _ j _; simp
  | cons a n L h0 _ ih =>
    intro ha hn j hj
    obtain ⟨e, hlt⟩ := min_low (a := a) h0 (by omega) (by omega)
    obtain ⟨h1, h2, h3, _⟩ := lgN_spec n h0 (by omega)
    rw [e] at ih
    have hlj : lgN n < j := lt_of_pow (Nat.lt_of_le_of_lt h1 hj)
    rw [Nat.pow_succ] at h2
    have hr : n - 2 ^ lgN n < 2 ^ lgN n := by omega
    have := ih (by omega) (by
      rcases Nat.eq_zero_or_pos (n - 2 ^ lgN n) with hz | hz
      · exact .inl hz
      · right; rw [tz_down (by omega) hlt (by omega)]; exact hr) (lgN n) hr
    simp only [List.length_cons]
    omega

theorem len_up : ∀ {a n : Nat} {L : List (Nat × Nat)}, Cov a n L → a + n ≤ 4294967296 → 0 < a → a < 4294967296 → L.length ≤ 62 - tzA a ∧ tzA a ≤ 31 := by
  intro a n L hc
  induction hc with
  | nil a =>
    intro _ h0 h
    obtain ⟨s1, _, s3, _⟩ := tzA_spec a h
    exact ⟨by simp, by omega⟩
  | cons a n L h0 hrec ih =>
    intro ha hpos hlt
    obtain ⟨s1, _, s3, _⟩ := tzA_spec a hlt
    have ht : tzA a ≤ 31 := by omega
    have hp2 := Nat.two_pow_pos (tzA a)
    refine ⟨?_, ht⟩
    rcases Nat.lt_or_ge n (2 ^ tzA a) with hn | hn
    · have := len_down (.cons a n L h0 hrec) ha (.inr hn) (tzA a) hn
      omega
    · have e := min_high (a := a) h0 (by omega) hn
      rw [e] at ih hrec
      simp only [List.length_cons]
      rcases Nat.eq_zero_or_pos (n - 2 ^ tzA a) with hz | hz
      · rw [hz] at hrec
        cases hrec with
        | nil => simp; omega
        | cons _ _ _ hh _ => omega
      · have h2 : a + 2 ^ tzA a < 4294967296 := by omega
        have := ih (by omega) (by omega) h2
        have := tz_up hlt (by omega) h2
        omega

theorem cov_len {a n : Nat} {L : List (Nat × Nat)} (hc : Cov a n L) (ha : a + n ≤ 4294967296) (hlt : a < 4294967296) : L.length ≤ 62 := by
  rcases Nat.eq_zero_or_pos a with rfl | hpos
  · have ht := (tzA_spec 0 (by decide)).2.1 rfl
    rcases Nat.lt_or_ge n 4294967296 with hn | hn
    · have := len_down hc ha (by right; rw [ht]; exact hn) 32 hn
      omega
    · have hn' : n = 4294967296 := by omega
      subst hn'
      cases hc with
      | cons _ _ L h0 hrec =>
        have e := min_high (a := 0) h0 (by omega) (by rw [ht]; decide)
        rw [e, ht] at hrec
        have e32 : (4294967296 : Nat) - 2 ^ 32 = 0 := rfl
        rw [e32] at hrec
        cases hrec with
        | nil => simp
        | cons _ _ _ hh _ => omega
  · have := len_up hc ha hpos hlt
    omega

/-- Spans one behind the other from a to E; none has a parent that lies from A to E. -/
def Chain (A E : Nat) : Nat → List (Nat × Nat) → Prop
  | a, [] => a = E
  | a, (l, p) :: L => p = a ∧ l ≤ 32 ∧ a % 2 ^ l = 0 ∧ a + 2 ^ l ≤ E ∧ (l < 32 → ¬ (A ≤ a / 2 ^ (l + 1) * 2 ^ (l + 1) ∧ a / 2 ^ (l + 1) * 2 ^ (l + 1) + 2 ^ (l + 1) ≤ E)) ∧ Chain A E (a + 2 ^ l) L

theorem cov_chain (A : Nat) : ∀ {a n : Nat} {L : List (Nat × Nat)}, Cov a n L → a + n ≤ 4294967296 → ((tzA a < 32 → a < A + 2 ^ tzA a) ∨ n < 2 ^ tzA a) → Chain A (a + n) a L := by
  intro a n L hc
  induction hc with
  | nil a => intro _ _; simp [Chain]
  | cons a n L h0 _ ih =>
    intro ha hinv
    have hlt : a < 4294967296 := by omega
    obtain ⟨s1, s2, s3, q, hq, hodd⟩ := tzA_spec a hlt
    obtain ⟨h1, h2, h3, _⟩ := lgN_spec n h0 (by omega)
    rcases Nat.lt_or_ge n (2 ^ tzA a) with hn | hn
    · obtain ⟨e, hl⟩ := min_low (a := a) h0 (by omega) hn
      rw [e] at ih ⊢
      obtain ⟨d, hd⟩ : ∃ d, tzA a = lgN n + 1 + d := ⟨tzA a - lgN n - 1, by omega⟩
      have hdiv : a = (q * 2 ^ d) * 2 ^ (lgN n + 1) := by
        rw [hd] at hq; rw [hq, Nat.pow_add]; ac_rfl
      have hr : n - 2 ^ lgN n < 2 ^ lgN n := by rw [Nat.pow_succ] at h2; omega
      have hE : a + 2 ^ lgN n + (n - 2 ^ lgN n) = a + n := by omega
      have hnext := ih (by omega) (by
        rcases Nat.eq_zero_or_pos (n - 2 ^ lgN n) with hz | hz
        · right; rw [hz]; exact Nat.two_pow_pos _
        · right; rw [tz_down hlt hl (by omega)]; exact hr)
      rw [hE] at hnext
      refine ⟨rfl, h3, ?_, by omega, fun _ => ?_, hnext⟩
      · rw [hdiv, Nat.pow_succ, ← Nat.mul_assoc, Nat.mul_right_comm]; exact Nat.mul_mod_left _ _
      · have : a / 2 ^ (lgN n + 1) * 2 ^ (lgN n + 1) = a := by
          have h4 : a / 2 ^ (lgN n + 1) = q * 2 ^ d := by
            rw [hdiv]; exact Nat.mul_div_cancel _ (Nat.two_pow_pos _)
          rw [h4, ← hdiv]
        rw [this]
        omega
    · have e := min_high (a := a) h0 (by omega) hn
      have hin : tzA a < 32 → a < A + 2 ^ tzA a := by
        rcases hinv with h | h
        · exact h
        · omega
      rw [e] at ih ⊢
      have hE : a + 2 ^ tzA a + (n - 2 ^ tzA a) = a + n := by omega
      have hnext := ih (by omega) (by
        rcases Nat.eq_zero_or_pos (n - 2 ^ tzA a) with hz | hz
        · right; rw [hz]; exact Nat.two_pow_pos _
        · left
          intro h32
          have h5 : tzA a < 32 := by
            rcases Nat.lt_or_ge (tzA a) 32 with h | h
            · exact h
            · have : tzA a = 32 := by omega
              have e32 : (2 : Nat) ^ 32 = 4294967296 := rfl
              rw [this] at hz
              omega
          have h6 := tz_up hlt h5 (by omega)
          have h7 := hin h5
          have h8 : 2 ^ (tzA a + 1) ≤ 2 ^ tzA (a + 2 ^ tzA a) := Nat.pow_le_pow_right (by decide) h6
          rw [Nat.pow_succ] at h8
          omega)
      rw [hE] at hnext
      refine ⟨rfl, s1, ?_, by omega, fun h32 => ?_, hnext⟩
      · rw [Nat.mod_eq_zero_of_dvd]; exact ⟨q, by rw [Nat.mul_comm]; exact hq⟩
      · have ho := hodd h32
        have h7 := hin h32
        obtain ⟨r, hr⟩ : ∃ r, q = 2 * r + 1 := ⟨q / 2, by omega⟩
        have hp := Nat.two_pow_pos (tzA a)
        have ha2 : a = r * 2 ^ (tzA a + 1) + 2 ^ tzA a := by
          rw [hr] at hq
          conv => lhs; rw [hq]
          rw [Nat.succ_mul, Nat.pow_succ]; ac_rfl
        have h4 : a / 2 ^ (tzA a + 1) = r := by
          generalize hP : 2 ^ (tzA a + 1) = P at *
          have hlt2 : 2 ^ tzA a < P := by rw [← hP, Nat.pow_succ]; omega
          rw [ha2, Nat.mul_comm, Nat.mul_add_div (by omega), Nat.div_eq_of_lt hlt2, Nat.add_zero]
        rw [h4]
        omega
end Go.Proofs.YtapemeboobcgmaaDoor.Prt
