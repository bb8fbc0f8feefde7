/- What the functions of the journal's records come to, in plain numbers: numbers in groups of seven bits, sums, records, rows of records. Conditions: the numbers are in their ranges, the lists are ones of memory. -/
import Derived.Test.YtgnhadbadhgdgaaPrt4
namespace Go.Proofs.Ytgnhadbadhgdgaa
open Go.RowKit Go.Proofs.YtgnhadbadhgdgaaW.PrintWords Go.Proofs.YtgnhadbadhgdgaaW.PrintLast Go.Proofs.YtgnhadbadhgdgaaW.PrintMore
open Prt
set_option linter.unusedVariables false
set_option linter.unusedSimpArgs false

theorem ev_now {α : Type} {g : Nat → Option α} {r : α} (h : ∀ k, g (k + 1) = some r) : Ev g r := ⟨1, fun k hk => by obtain ⟨m, rfl⟩ : ∃ m, k = m + 1 := ⟨k - 1, by omega⟩; exact h m⟩
theorem ev_all {α : Type} {g : Nat → Option α} {r : α} (h : ∀ k, g k = some r) : Ev g r := ⟨0, fun k _ => h k⟩
theorem wrap_nat {n : Nat} (h : n < 9223372036854775808) : wrap64 (n : Int) = n := by unfold wrap64; omega
theorem wrap_add1 {n : Nat} (h : n < 9223372036854775807) : wrap64 ((n : Int) + 1) = ((n + 1 : Nat) : Int) := by unfold wrap64; omega

/-! ### Numbers -/
theorem ev_varint_l0 : ∀ (f n : Nat) (acc : List Int), n < 2 ^ (7 * f + 7) → n < 9223372036854775808 → acc.length + f ≤ 1000000 → Ev (fun k => trommelref17_Varint.l0 k (n : Int) acc) (acc ++ Ext.varF f n)
  | 0, n, acc, h, h2, hl => by
    refine ev_now fun k => ?_
    simp only [trommelref17_Varint.l0]
    rw [if_neg (by omega), if_pos (by omega), show (n : Int) % 256 = (n : Int) by omega]
    rfl
  | f + 1, n, acc, h, h2, hl => by
    by_cases hn : n < 128
    · refine ev_now fun k => ?_
      simp only [trommelref17_Varint.l0]
      rw [if_neg (by omega), if_pos (by omega), show (n : Int) % 256 = (n : Int) by omega, Ext.varF, if_pos hn]
    · have ih := ev_varint_l0 f (n / 128) (acc ++ [((n % 128 + 128 : Nat) : Int)]) (by
        rw [Nat.div_lt_iff_lt_mul (by decide), show (128 : Nat) = 2 ^ 7 from rfl, ← Nat.pow_add]
        exact Nat.lt_of_lt_of_le h (Nat.pow_le_pow_right (by decide) (by omega))) (by omega) (by simp; omega)
      refine Ev.step (fun k => ?_) (by rw [Ext.varF, if_neg hn, show acc ++ ((n % 128 + 128 : Nat) : Int) :: Ext.varF f (n / 128) = (acc ++ [((n % 128 + 128 : Nat) : Int)]) ++ Ext.varF f (n / 128) by simp]; exact ih)
      simp only [trommelref17_Varint.l0]
      rw [if_pos (by omega), if_pos (by omega)]
      rw [show wrap64 (Int.tdiv (n : Int) 128) = ((n / 128 : Nat) : Int) by rw [Int.tdiv_eq_ediv_of_nonneg (by omega)]; unfold wrap64; omega]
      rw [show wrap64 (Int.tmod (n : Int) 128 + 128) % 256 = ((n % 128 + 128 : Nat) : Int) by rw [Int.tmod_eq_emod_of_nonneg (by omega)]; unfold wrap64; omega]
theorem ev_varint (n : Nat) (h : n < 9223372036854775808) : Ev (fun k => trommelref17_Varint.f k (n : Int)) (Ext.varL n) := by
  have := ev_varint_l0 9 n [] (by omega) h (by simp)
  exact this

/-! ### Sums -/
theorem ref_bit (n : Nat) (h : n < 4294967296) : (if Int.tmod (n : Int) 2 = 1 then Go.bits .xor .u32 ((Int.tdiv (n : Int) 2) % 4294967296) 3988292384 else (Int.tdiv (n : Int) 2) % 4294967296) = (bitStep n : Int) := by
  rw [Int.tmod_eq_emod_of_nonneg (by omega), Int.tdiv_eq_ediv_of_nonneg (by omega), show ((n : Int) / 2) % 4294967296 = ((n / 2 : Nat) : Int) by omega]
  unfold bitStep
  by_cases h1 : n % 2 = 1
  · rw [if_pos (by omega), if_pos h1]
    exact u32_xor_nat _ _ (by omega) (by decide)
  · rw [if_neg (by omega), if_neg h1, Nat.xor_zero]
theorem ev_sum_l1 (l : List Int) (i : Int) (r : Int) : ∀ (d j n : Nat), j + d = 8 → n < 4294967296 → Ev (fun k => trommelref17_Sum.l0 k l (iter d n : Int) (wrap64 (i + 1))) r → Ev (fun k => trommelref17_Sum.l1 k l (n : Int) i (j : Int)) r
  | 0, j, n, hj, hn, h => Ev.step (fun k => by simp only [trommelref17_Sum.l1]; rw [if_neg (by omega)]; rfl) h
  | d + 1, j, n, hj, hn, h => by
    have ih := ev_sum_l1 l i r d (j + 1) (bitStep n) (by omega) (bitStep_lt hn) h
    refine Ev.step (fun k => ?_) ih
    simp only [trommelref17_Sum.l1]
    rw [if_pos (by omega), show wrap64 ((j : Int) + 1) = ((j + 1 : Nat) : Int) by unfold wrap64; omega, ← ref_bit n hn]
    split <;> rfl
theorem ev_sum_l0 (l : List Int) (hl : isB l) (hlen : l.length ≤ 140737488355328) : ∀ (d i n : Nat), i + d = l.length → n < 4294967296 → Ev (fun k => trommelref17_Sum.l0 k l (n : Int) (i : Int)) ((crcFrom n (l.drop i) ^^^ 4294967295 : Nat) : Int)
  | 0, i, n, hi, hn => by
    refine ev_now fun k => ?_
    simp only [trommelref17_Sum.l0]
    rw [if_neg (by omega), show i = l.length by omega, List.drop_length, show (4294967295 : Int) = ((4294967295 : Nat) : Int) from rfl, u32_xor_nat n 4294967295 hn (by decide)]
    rfl
  | d + 1, i, n, hi, hn => by
    have hlt : i < l.length := by omega
    have hx := hl l[i] (List.getElem_mem hlt)
    obtain ⟨c, hc⟩ := Int.eq_ofNat_of_zero_le hx.1
    have hr : rd l (i : Int) = (c : Int) := by simp [rd, List.getD, hlt]; exact hc
    have h0 : n ^^^ c < 4294967296 := by
      have : n ^^^ c < 2 ^ 32 := Nat.xor_lt_two_pow (by omega) (by omega)
      omega
    have ih := ev_sum_l0 l hl hlen d (i + 1) (iter 8 (n ^^^ c)) (by omega) (iter_lt 8 h0)
    have e : crcFrom n (l.drop i) = crcFrom (iter 8 (n ^^^ c)) (l.drop (i + 1)) := by
      rw [List.drop_eq_getElem_cons hlt]
      show crcFrom (byteStep n l[i].toNat) (l.drop (i + 1)) = _
      rw [hc, Int.toNat_natCast, byteStep_iter]
    rw [e]
    refine Ev.step (fun k => ?_) (ev_sum_l1 l (i : Int) _ 8 0 (n ^^^ c) (by omega) h0 (by rw [wrap_add1 (by omega)]; exact ih))
    simp only [trommelref17_Sum.l0]
    rw [if_pos (by omega), if_pos (by omega), hr, show (c : Int) % 4294967296 = ((c : Nat) : Int) by omega, u32_xor_nat n c hn (by omega)]
    rfl
theorem ev_sum (l : List Int) (hl : isB l) (hlen : l.length ≤ 140737488355328) : Ev (fun k => trommelref17_Sum.f k l) (crcN l : Int) := by
  have := ev_sum_l0 l hl hlen l.length 0 4294967295 (by omega) (by decide)
  exact this
theorem ev_sealed (l : List Int) (hl : isB l) (hlen : l.length ≤ 140737488350000) : Ev (fun k => trommelref17_sealed.f k l) (Ext.sealB l) := by
  unfold trommelref17_sealed.f
  refine Ev.bind (ev_sum l hl (by omega)) (ev_all fun k => ?_)
  simp only [Option.bind_some, List.length_nil, List.nil_append]
  rw [if_pos (by omega), if_pos (by simp only [List.length_cons, List.length_nil]; omega)]
  rfl

/-! ### Records -/
theorem varL_ne (n : Nat) : Ext.varL n ≠ [] := by
  unfold Ext.varL Ext.varF
  split <;> simp
theorem crc_seal_len (l : List Int) : (Ext.sealB l).length = l.length + 4 := by simp [Ext.sealB, Ext.sum4]
theorem body_len (k id : Nat) (s : ByteArray) : (Ext.bodyB k id s).length = 1 + (Ext.varL id).length + s.size := by
  simp [Ext.bodyB, Ext.textL_len]; omega
theorem body_isB (k id : Nat) (s : ByteArray) (hk : k < 256) (hid : id < 9223372036854775808) : isB (Ext.bodyB k id s) :=
  Ext.isB_app (fun x hx => by
    rcases List.mem_cons.1 hx with rfl | hx
    · omega
    · exact Ext.varL_isB id hid x hx) (Ext.textL_isB s)
theorem rec_isB (k id : Nat) (s : ByteArray) (hk : k < 256) (hid : id < 9223372036854775808) (hs : s.size ≤ 1000000) : isB (67 :: Ext.varL (Ext.bodyB k id s).length ++ Ext.bodyB k id s) := by
  have hb := body_len k id s
  have hv := Ext.varL_len id
  refine Ext.isB_app (fun x hx => ?_) (body_isB k id s hk hid)
  rcases List.mem_cons.1 hx with rfl | hx
  · omega
  · exact Ext.varL_isB _ (by omega) x hx
theorem ev_one (k id : Nat) (s : ByteArray) (hk : k < 256) (hid : id < 9223372036854775808) (hs : s.size ≤ 1000000) : Ev (fun n => trommelref17_one.f n (k : Int) (id : Int) s) (Ext.oneB k id s) := by
  have hb := body_len k id s
  have hv := Ext.varL_len id
  have hv2 := Ext.varL_len (Ext.bodyB k id s).length
  have hn0 := List.length_pos_iff.2 (varL_ne id)
  unfold trommelref17_one.f
  refine Ev.bind (ev_varint id hid) ?_
  rw [show (fun n => if Ext.varL id = [] ∨ 1000000 < (Ext.varL id).length ∨ 1000000 < s.size then none else (trommelref17_Varint.f n ((IntKind.u8.wrap (k : Int) :: Ext.varL id ++ Ext.textL s).length : Int)).bind fun t2 => if t2 = [] ∨ 1000000 < t2.length then none else trommelref17_sealed.f n (67 :: t2 ++ (IntKind.u8.wrap (k : Int) :: Ext.varL id ++ Ext.textL s)))
    = (fun n => (trommelref17_Varint.f n ((Ext.bodyB k id s).length : Int)).bind fun t2 => if t2 = [] ∨ 1000000 < t2.length then none else trommelref17_sealed.f n (67 :: t2 ++ Ext.bodyB k id s)) from by
      funext n
      have e : IntKind.u8.wrap (k : Int) = (k : Int) := by
        show (k : Int) % 256 = k
        omega
      rw [if_neg (fun h => by
        rcases h with h | h | h
        · exact varL_ne id h
        · omega
        · omega), e]
      rfl]
  refine Ev.bind (ev_varint _ (by omega)) ?_
  refine Ev.congr (fun n => if_neg (fun h => by
    rcases h with h | h
    · exact varL_ne _ h
    · omega)) ?_
  exact ev_sealed _ (rec_isB k id s hk hid hs) (by simp only [List.length_append, List.length_cons]; omega)

/-- May a change be? -/
def mayS (c : S32) : Bool := (record_May.f c.f0 c.f1 c.f2) == some true
theorem may_eq (c : S32) : record_May.f c.f0 c.f1 c.f2 = some (mayS c) := by
  obtain ⟨r, hr⟩ : ∃ r, record_May.f c.f0 c.f1 c.f2 = some r := Ext.may_some c.f0 c.f1 c.f2
  rw [mayS, hr]
  cases r <;> rfl
theorem refmay_eq (c : S32) : trommelref16_May.f c.f0 c.f1 c.f2 = some (mayS c) := by
  rw [← may_eq]
  unfold trommelref16_May.f record_May.f
  by_cases h1 : c.f1 < 1
  · simp [h1, show ¬ c.f1 ≥ 1 by omega]
  have h1' : c.f1 ≥ 1 := by omega
  by_cases h2 : c.f1 > 1099511627776
  · simp [h1, h1', h2, show ¬ c.f1 ≤ 1099511627776 by omega]
  have h2' : c.f1 ≤ 1099511627776 := by omega
  by_cases h3 : (c.f2.size : Int) > 4096
  · simp [h1, h1', h2, h2', h3, show ¬ (c.f2.size : Int) ≤ 4096 by omega]
  have h3' : (c.f2.size : Int) ≤ 4096 := by omega
  by_cases k1 : c.f0 = 1
  · simp [h1, h1', h2, h2', h3, h3', k1]
  by_cases k2 : c.f0 = 2
  · simp [h1, h1', h2, h2', h3, h3', k1, k2]
  simp [h1, h1', h2, h2', h3, h3', k1, k2]
/-- What a change that may be has. -/
theorem may_bounds {c : S32} (h : mayS c = true) : 0 ≤ c.f0 ∧ c.f0 ≤ 3 ∧ 1 ≤ c.f1 ∧ c.f1 ≤ 1099511627776 ∧ c.f2.size ≤ 4096 := by
  have h2 := may_eq c
  rw [h] at h2
  unfold record_May.f at h2
  split at h2
  · cases h2
  split at h2
  · cases h2
  split at h2
  · cases h2
  split at h2
  · omega
  split at h2
  · omega
  split at h2
  · omega
  · cases h2
/-- A change's record. -/
def oneS (c : S32) : List Int := Ext.oneB c.f0.toNat c.f1.toNat c.f2
theorem one_eq {c : S32} (h : mayS c = true) : record_one.f c.f0 c.f1 c.f2 = some (oneS c) := by
  obtain ⟨h0, h1, h2, h3, h4⟩ := may_bounds h
  unfold record_one.f
  rw [if_pos ⟨by omega, by omega, by omega, by omega, by omega⟩]
  rfl
theorem ev_refone {c : S32} (h : mayS c = true) : Ev (fun n => trommelref17_one.f n c.f0 c.f1 c.f2) (oneS c) := by
  obtain ⟨h0, h1, h2, h3, h4⟩ := may_bounds h
  have e := ev_one c.f0.toNat c.f1.toNat c.f2 (by omega) (by omega) (by omega)
  rw [Int.toNat_of_nonneg (by omega), Int.toNat_of_nonneg (by omega)] at e
  exact e
theorem one_len {c : S32} (h : mayS c = true) : 8 ≤ (oneS c).length ∧ (oneS c).length ≤ 5000 := by
  obtain ⟨h0, h1, h2, h3, h4⟩ := may_bounds h
  have hb := body_len c.f0.toNat c.f1.toNat c.f2
  have hv := Ext.varL_len c.f1.toNat
  have hv2 := Ext.varL_len (Ext.bodyB c.f0.toNat c.f1.toNat c.f2).length
  have p1 := List.length_pos_iff.2 (varL_ne c.f1.toNat)
  have p2 := List.length_pos_iff.2 (varL_ne (Ext.bodyB c.f0.toNat c.f1.toNat c.f2).length)
  unfold oneS Ext.oneB
  rw [crc_seal_len, List.length_append, List.length_cons]
  omega
/-- Records, or the error. -/
def encF (l : List S32) : List Int × Int := if l.all mayS then (l.flatMap oneS, 0) else ([], 1)
theorem flat_len : ∀ {l : List S32}, l.all mayS = true → (l.flatMap oneS).length ≤ 5000 * l.length
  | [], _ => by simp
  | c :: r, h => by
    simp only [List.all_cons, Bool.and_eq_true] at h
    have h1 := (one_len h.1).2
    have h2 := flat_len h.2
    simp only [List.flatMap_cons, List.length_append, List.length_cons]
    omega
theorem rd_at (l : List S32) (i : Nat) (h : i < l.length) : rd_T32 l (i : Int) = l[i] := by
  unfold rd_T32
  rw [Int.toNat_natCast, List.getD_eq_getElem?_getD, List.getElem?_eq_getElem h]
  rfl
theorem ev_enc_l0 (l : List S32) (hlen : l.length ≤ 1000000000) : ∀ (d i : Nat), i + d = l.length → (l.take i).all mayS = true →
    Ev (fun k => record_Encode.l0 k ((l.take i).flatMap oneS) l (l.length : Int) (i : Int)) (encF l)
  | 0, i, hi, ha => by
    refine ev_now fun k => ?_
    have e : l.take i = l := by rw [show i = l.length by omega, List.take_length]
    rw [e] at ha
    simp only [record_Encode.l0]
    rw [if_neg (by omega), e, encF, ha]
    rfl
  | d + 1, i, hi, ha => by
    have hlt : i < l.length := by omega
    have hr := rd_at l i hlt
    by_cases hm : mayS l[i] = true
    · have hts : l.take (i + 1) = l.take i ++ [l[i]] := List.take_succ_eq_append_getElem hlt
      have ha2 : (l.take (i + 1)).all mayS = true := by rw [hts, List.all_append, ha]; simp [hm]
      have ih := ev_enc_l0 l hlen d (i + 1) (by omega) ha2
      have hl1 := flat_len ha
      have hl2 := (one_len hm).2
      have hl3 : (l.take i).length ≤ 1000000000 := by rw [List.length_take]; omega
      refine Ev.step (fun k => ?_) ih
      simp only [record_Encode.l0]
      rw [if_pos (by omega), if_pos (by omega), if_pos (by omega), hr, may_eq, hm, Option.bind_some, if_pos rfl, one_eq hm, Option.bind_some, if_pos (by omega), wrap_add1 (by omega), hts, List.flatMap_append]
      simp
    · refine ev_now fun k => ?_
      have hm' : mayS l[i] = false := by simpa using hm
      have hall : l.all mayS = false := by
        rw [List.all_eq_false]
        exact ⟨l[i], List.getElem_mem hlt, by simp [hm']⟩
      simp only [record_Encode.l0]
      rw [if_pos (by omega), if_pos (by omega), if_pos (by omega), hr, may_eq, hm', Option.bind_some, if_neg (by decide), encF, hall]
      rfl
theorem ev_enc (l : List S32) (hlen : l.length ≤ 1000000000) : Ev (fun k => record_Encode.f k l) (encF l) := by
  have := ev_enc_l0 l hlen l.length 0 (by omega) rfl
  exact this
theorem ev_refenc_l0 (l : List S32) (hlen : l.length ≤ 1000000000) : ∀ (d i : Nat), i + d = l.length → (l.take i).all mayS = true →
    Ev (fun k => trommelref17_Encode.l0 k l ((l.take i).flatMap oneS) (i : Int)) (encF l)
  | 0, i, hi, ha => by
    refine ev_now fun k => ?_
    have e : l.take i = l := by rw [show i = l.length by omega, List.take_length]
    rw [e] at ha
    simp only [trommelref17_Encode.l0]
    rw [if_neg (by omega), e, encF, ha]
    rfl
  | d + 1, i, hi, ha => by
    have hlt : i < l.length := by omega
    have hr := rd_at l i hlt
    by_cases hm : mayS l[i] = true
    · have hts : l.take (i + 1) = l.take i ++ [l[i]] := List.take_succ_eq_append_getElem hlt
      have ha2 : (l.take (i + 1)).all mayS = true := by rw [hts, List.all_append, ha]; simp [hm]
      have ih := ev_refenc_l0 l hlen d (i + 1) (by omega) ha2
      have hl1 := flat_len ha
      have hl2 := (one_len hm).2
      have hl3 : (l.take i).length ≤ 1000000000 := by rw [List.length_take]; omega
      refine Ev.step (f := fun k => (trommelref17_one.f k l[i].f0 l[i].f1 l[i].f2).bind fun t => if ((l.take i).flatMap oneS).length + t.length < 140737488355328 then trommelref17_Encode.l0 k l ((l.take i).flatMap oneS ++ t) ((i + 1 : Nat) : Int) else none) (fun k => ?_) ?_
      · simp only [trommelref17_Encode.l0]
        rw [if_pos (by omega), if_pos (by omega), hr, refmay_eq, hm, Option.bind_some, if_pos rfl, wrap_add1 (by omega)]
      · refine Ev.bind (ev_refone hm) ?_
        refine Ev.congr (fun k => if_pos (by omega)) ?_
        rw [hts, List.flatMap_append] at ih
        simpa using ih
    · refine ev_now fun k => ?_
      have hm' : mayS l[i] = false := by simpa using hm
      have hall : l.all mayS = false := by
        rw [List.all_eq_false]
        exact ⟨l[i], List.getElem_mem hlt, by simp [hm']⟩
      simp only [trommelref17_Encode.l0]
      rw [if_pos (by omega), if_pos (by omega), hr, refmay_eq, hm', Option.bind_some, if_neg (by decide), encF, hall]
      rfl
theorem ev_refenc (l : List S32) (hlen : l.length ≤ 1000000000) : Ev (fun k => trommelref17_Encode.f k l) (encF l) := by
  have := ev_refenc_l0 l hlen l.length 0 (by omega) rfl
  exact this

/-! ### Heads -/
def headF (n : Int) : List Int × Int := if 1 ≤ n ∧ n ≤ 1099511627777 then (Ext.sealB (Ext.headB n.toNat), 0) else ([], 2)
theorem head_eq (n : Int) : record_Head.f n = some (headF n) := by
  unfold record_Head.f headF
  split <;> rfl
theorem head_isB (n : Nat) (h : n < 9223372036854775808) : isB (Ext.headB n) := fun x hx => by
  rcases List.mem_cons.1 hx with rfl | hx
  · omega
  · exact Ext.varL_isB n h x hx
theorem head_len (n : Nat) : (Ext.headB n).length ≤ 11 := by
  have := Ext.varL_len n
  simp [Ext.headB]; omega
theorem ev_refhead (n : Int) : Ev (fun k => trommelref17_Head.f k n) (headF n) := by
  unfold trommelref17_Head.f
  by_cases h1 : n < 1
  · simp only [if_pos h1]
    refine ev_now fun k => ?_
    simp only [trommelref17_Head.j0, if_pos]
    rw [headF, if_neg (by omega)]
  · simp only [if_neg h1]
    by_cases h2 : n > 1099511627777
    · simp only [decide_eq_true h2]
      refine ev_now fun k => ?_
      simp only [trommelref17_Head.j0, if_pos]
      rw [headF, if_neg (by omega)]
    · simp only [decide_eq_false h2]
      obtain ⟨m, rfl⟩ := Int.eq_ofNat_of_zero_le (show 0 ≤ n by omega)
      have hv := Ext.varL_len m
      refine Ev.step (f := fun k => (trommelref17_Varint.f k (m : Int)).bind fun t => if ([72] : List Int).length + t.length < 140737488355328 then (trommelref17_sealed.f k ([72] ++ t)).bind fun u => some (u, 0) else none) (fun k => ?_) ?_
      · simp only [trommelref17_Head.j0, Option.bind_some]
        rw [if_neg (by decide)]
      · refine Ev.bind (ev_varint m (by omega)) ?_
        refine Ev.congr (fun k => if_pos (by simp; omega)) ?_
        rw [headF, if_pos ⟨by omega, by omega⟩, Int.toNat_natCast]
        have hs := ev_sealed (Ext.headB m) (head_isB m (by omega)) (by have := head_len m; omega)
        exact Ev.bind hs (Ev.now _)

/-! ### What is written over -/
theorem ev_over_l0 : ∀ (d : Nat) (l : List Int) (i : Nat), i + d = l.length → l.length ≤ 140737488350000 → Ev (fun k => trommellaw17_over.l0 k l (l.length : Int) (i : Int)) ()
  | 0, l, i, hi, hl => by
    refine ev_now fun k => ?_
    simp only [trommellaw17_over.l0]
    rw [if_neg (by omega), Option.bind_some, if_pos (by simp; omega), if_pos (by omega), if_pos (by simp; omega)]
  | d + 1, l, i, hi, hl => by
    have ih := ev_over_l0 d (l.set i 238) (i + 1) (by simp; omega) (by simpa using hl)
    refine Ev.step (fun k => ?_) ih
    simp only [trommellaw17_over.l0]
    rw [if_pos (by omega), if_pos (by omega), if_pos (by omega), wrap_add1 (by omega), Int.toNat_natCast, List.length_set]
theorem ev_over (l : List Int) (hl : l.length ≤ 140737488350000) : Ev (fun k => trommellaw17_over.f k l) () := by
  have := ev_over_l0 l.length l 0 (by omega) hl
  exact this
theorem enc_len (l : List S32) (hlen : l.length ≤ 1000000000) : (encF l).1.length ≤ 5000000000000 := by
  unfold encF
  split
  · rename_i h
    have := flat_len h
    show (l.flatMap oneS).length ≤ _
    omega
  · simp
theorem headF_len (n : Int) : (headF n).1.length ≤ 15 := by
  unfold headF
  split
  · have := head_len n.toNat
    simp only [crc_seal_len]; omega
  · simp
end Go.Proofs.Ytgnhadbadhgdgaa
