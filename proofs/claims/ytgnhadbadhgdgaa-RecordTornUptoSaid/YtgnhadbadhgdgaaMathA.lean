/- The journal's sum in plain numbers, and that record.Sum comes to it. Conditions: the bytes are bytes, the lists are ones of memory. -/
import Derived.Test.YtgnhadbadhgdgaaPrA1
import Derived.Laws.BitsAllLaws
namespace Go.Proofs.Ytgnhadbadhgdgaa
open Go.RowKit Go.Proofs.YtgnhadbadhgdgaaW.PrintWords Go.Proofs.YtgnhadbadhgdgaaW.PrintLast Go.Proofs.YtgnhadbadhgdgaaW.PrintMore

def bitStep (n : Nat) : Nat := n / 2 ^^^ (if n % 2 = 1 then 3988292384 else 0)
def byteStep (n c : Nat) : Nat := bitStep (bitStep (bitStep (bitStep (bitStep (bitStep (bitStep (bitStep (n ^^^ c))))))))
def crcFrom (n : Nat) (l : List Int) : Nat := l.foldl (fun m c => byteStep m c.toNat) n
def crcN (l : List Int) : Nat := crcFrom 4294967295 l ^^^ 4294967295
/-- They are bytes. -/
def isB (l : List Int) : Prop := ∀ x ∈ l, 0 ≤ x ∧ x < 256
instance (l : List Int) : Decidable (isB l) := by unfold isB; infer_instance

theorem bitStep_lt {n : Nat} (h : n < 4294967296) : bitStep n < 4294967296 := by
  unfold bitStep
  have : n / 2 ^^^ (if n % 2 = 1 then 3988292384 else 0) < 2 ^ 32 := Nat.xor_lt_two_pow (by omega) (by split <;> omega)
  omega
theorem byteStep_lt {n c : Nat} (h : n < 4294967296) (hc : c < 256) : byteStep n c < 4294967296 := by
  have h0 : n ^^^ c < 4294967296 := by
    have : n ^^^ c < 2 ^ 32 := Nat.xor_lt_two_pow (by omega) (by omega)
    omega
  exact bitStep_lt (bitStep_lt (bitStep_lt (bitStep_lt (bitStep_lt (bitStep_lt (bitStep_lt (bitStep_lt h0)))))))
theorem crcFrom_lt {l : List Int} (hl : isB l) : ∀ {n : Nat}, n < 4294967296 → crcFrom n l < 4294967296 := by
  induction l with
  | nil => intro n h; exact h
  | cons x r ih =>
    intro n h
    have hx := hl x List.mem_cons_self
    exact ih (fun y hy => hl y (List.mem_cons_of_mem _ hy)) (byteStep_lt h (by omega))
theorem crcN_lt {l : List Int} (hl : isB l) : crcN l < 4294967296 := by
  have h := crcFrom_lt hl (n := 4294967295) (by decide)
  have : crcN l < 2 ^ 32 := Nat.xor_lt_two_pow (by omega) (by decide)
  omega
theorem crcFrom_append (n : Nat) (a b : List Int) : crcFrom n (a ++ b) = crcFrom (crcFrom n a) b := by simp [crcFrom]

theorem and_one (n : Nat) (h : n < 4294967296) : bits .and .u32 (n : Int) 1 = ((n % 2 : Nat) : Int) := by
  have := u32_and_nat n 1 h (by decide)
  rw [show ((1 : Nat) : Int) = 1 from rfl] at this
  rw [this, Nat.and_one_is_mod]
theorem and_poly (n : Nat) (h : n < 4294967296) : bits .and .u32 3988292384 ((-(bits .and .u32 (n : Int) 1)) % 4294967296) = (((if n % 2 = 1 then 3988292384 else 0) : Nat) : Int) := by
  rw [and_one n h]
  by_cases h1 : n % 2 = 1
  · rw [h1, if_pos rfl]; decide +kernel
  · rw [show n % 2 = 0 by omega, if_neg (by decide)]; decide +kernel
theorem bit_step (n : Nat) (h : n < 4294967296) : bits .xor .u32 ((n : Int) / 2) (bits .and .u32 3988292384 ((-(bits .and .u32 (n : Int) 1)) % 4294967296)) = (bitStep n : Int) := by
  rw [and_poly n h, show (n : Int) / 2 = ((n / 2 : Nat) : Int) by omega, u32_xor_nat _ _ (by omega) (by split <;> decide)]
  rfl
theorem not_all (n : Nat) (h : n < 4294967296) : bits .xor .u32 (-1) (n : Int) = ((n ^^^ 4294967295 : Nat) : Int) := by
  have e := u32_xor_nat 4294967295 n (by decide) h
  rw [Nat.xor_comm] at e
  rw [← e]
  show IntKind.u32.wrap _ = IntKind.u32.wrap _
  rfl

def iter : Nat → Nat → Nat
  | 0, n => n
  | d + 1, n => iter d (bitStep n)
theorem byteStep_iter (n c : Nat) : byteStep n c = iter 8 (n ^^^ c) := rfl
theorem iter_lt : ∀ (d : Nat) {n : Nat}, n < 4294967296 → iter d n < 4294967296
  | 0, _, h => h
  | d + 1, _, h => iter_lt d (bitStep_lt h)

theorem sum_l2 (l8 : List (List Int)) (p q : Int) (l : List Int) (a b : Int) : ∀ (d j k n : Nat), j + d = 8 → d < k → n < 4294967296 →
    ∃ k', k = d + 1 + k' ∧ PrA.record_Sum.l2 k (n : Int) l8 p q l a b (j : Int) = PrA.record_Sum.l1 k' (iter d n : Int) l8 p q l a (wrap64 (b + 1)) := by
  intro d
  induction d with
  | zero =>
    intro j k n hj hk hn
    obtain ⟨k, rfl⟩ : ∃ m, k = m + 1 := ⟨k - 1, by omega⟩
    refine ⟨k, by omega, ?_⟩
    rw [PrA.record_Sum.l2, if_neg (by omega)]
    rfl
  | succ d ih =>
    intro j k n hj hk hn
    obtain ⟨k, rfl⟩ : ∃ m, k = m + 1 := ⟨k - 1, by omega⟩
    obtain ⟨k', hk', e⟩ := ih (j + 1) k (bitStep n) (by omega) (by omega) (bitStep_lt hn)
    refine ⟨k', by omega, ?_⟩
    rw [PrA.record_Sum.l2, if_pos (by omega), bit_step n hn, show wrap64 ((j : Int) + 1) = ((j + 1 : Nat) : Int) by unfold wrap64; omega, e]
    rfl

theorem sum_l1 (l8 : List (List Int)) (p q : Int) (l : List Int) (hl : isB l) (hlen : l.length ≤ 140737488355328) : ∀ (d i k n : Nat), i + d = l.length → 10 * d < k → n < 4294967296 →
    ∃ k', k = 10 * d + 1 + k' ∧ PrA.record_Sum.l1 k (n : Int) l8 p q l (l.length : Int) (i : Int) = PrA.record_Sum.l0 k' (crcFrom n (l.drop i) : Int) l8 p (wrap64 (q + 1)) := by
  intro d
  induction d with
  | zero =>
    intro i k n hi hk hn
    obtain ⟨k, rfl⟩ : ∃ m, k = m + 1 := ⟨k - 1, by omega⟩
    refine ⟨k, by omega, ?_⟩
    rw [PrA.record_Sum.l1, if_neg (by omega), show i = l.length by omega, List.drop_length]
    rfl
  | succ d ih =>
    intro i k n hi hk hn
    obtain ⟨k, rfl⟩ : ∃ m, k = m + 1 := ⟨k - 1, by omega⟩
    have hlt : i < l.length := by omega
    have hx := hl l[i] (List.getElem_mem hlt)
    obtain ⟨c, hc⟩ := Int.eq_ofNat_of_zero_le hx.1
    have hr : rd l (i : Int) = (c : Int) := by simp [rd, List.getD, hlt]; exact hc
    have h0 : n ^^^ c < 4294967296 := by
      have : n ^^^ c < 2 ^ 32 := Nat.xor_lt_two_pow (by omega) (by omega)
      omega
    obtain ⟨k1, hk1, e1⟩ := sum_l2 l8 p q l (l.length : Int) (i : Int) 8 0 k (n ^^^ c) (by omega) (by omega) h0
    obtain ⟨k', hk', e⟩ := ih (i + 1) k1 (iter 8 (n ^^^ c)) (by omega) (by omega) (iter_lt 8 h0)
    refine ⟨k', by omega, ?_⟩
    rw [PrA.record_Sum.l1, if_pos (by omega), if_pos (by omega), if_pos (by omega), hr, show (c : Int) % 4294967296 = ((c : Nat) : Int) by omega, u32_xor_nat n c hn (by omega)]
    rw [show ((0 : Nat) : Int) = 0 from rfl] at e1
    rw [e1, show wrap64 ((i : Int) + 1) = ((i + 1 : Nat) : Int) by unfold wrap64; omega, e]
    congr 2
    rw [List.drop_eq_getElem_cons hlt]
    show crcFrom (iter 8 (n ^^^ c)) (l.drop (i + 1)) = crcFrom (byteStep n l[i].toNat) (l.drop (i + 1))
    rw [hc, Int.toNat_natCast, byteStep_iter]

theorem sum_l0 (ls : List (List Int)) (hls : ∀ l ∈ ls, isB l ∧ l.length ≤ 140737488355328) (hlen : ls.length ≤ 1000000) : ∀ (d i k n : Nat), i + d = ls.length → 10 * (ls.drop i).flatten.length + 2 * d < k → n < 4294967296 →
    PrA.record_Sum.l0 k (n : Int) ls (ls.length : Int) (i : Int) = some ((crcFrom n (ls.drop i).flatten ^^^ 4294967295 : Nat) : Int) := by
  intro d
  induction d with
  | zero =>
    intro i k n hi hk hn
    obtain ⟨k, rfl⟩ : ∃ m, k = m + 1 := ⟨k - 1, by omega⟩
    rw [PrA.record_Sum.l0, if_neg (by omega), not_all n hn, show i = ls.length by omega, List.drop_length]
    rfl
  | succ d ih =>
    intro i k n hi hk hn
    obtain ⟨k, rfl⟩ : ∃ m, k = m + 1 := ⟨k - 1, by omega⟩
    have hlt : i < ls.length := by omega
    have hm := hls ls[i] (List.getElem_mem hlt)
    have hr : PrA.rd_L1 ls (i : Int) = ls[i] := by simp [PrA.rd_L1, List.getD, hlt]
    rw [List.drop_eq_getElem_cons hlt, List.flatten_cons, List.length_append] at hk
    obtain ⟨k1, hk1, e1⟩ := sum_l1 ls (ls.length : Int) (i : Int) ls[i] hm.1 hm.2 ls[i].length 0 k n (by omega) (by omega) hn
    rw [PrA.record_Sum.l0, if_pos (by omega), if_pos (by omega), if_pos (by omega), hr]
    rw [show ((0 : Nat) : Int) = 0 from rfl] at e1
    rw [e1, show wrap64 ((i : Int) + 1) = ((i + 1 : Nat) : Int) by unfold wrap64; omega, List.drop_zero]
    rw [ih (i + 1) k1 _ (by omega) (by omega) (crcFrom_lt hm.1 hn)]
    rw [List.drop_eq_getElem_cons hlt, List.flatten_cons, crcFrom_append]

/-- record.Sum: the sum of all parts. -/
theorem sum_f (ls : List (List Int)) (hls : ∀ l ∈ ls, isB l ∧ l.length ≤ 140737488355328) (hlen : ls.length ≤ 1000000) : PrA.record_Sum.f (10 * ls.flatten.length + 2 * ls.length + 1) ls = some (crcN ls.flatten : Int) := by
  unfold PrA.record_Sum.f
  have := sum_l0 ls hls hlen ls.length 0 (10 * ls.flatten.length + 2 * ls.length + 1) 4294967295 (by omega) (by simp) (by decide)
  rw [show ((0 : Nat) : Int) = 0 from rfl, show ((4294967295 : Nat) : Int) = 4294967295 from rfl] at this
  rw [this]
  rfl
end Go.Proofs.Ytgnhadbadhgdgaa
