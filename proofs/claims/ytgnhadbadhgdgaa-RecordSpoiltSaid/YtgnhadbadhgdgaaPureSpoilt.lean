/- The plain statement of RecordSpoilt: at every change, every place and every turn of a byte the law's function answers true: the sum sees each single byte that is turned. Conditions: the change's cells are in their kinds. -/
import Derived.Test.YtgnhadbadhgdgaaMathF
import Derived.Test.YtgnhadbadhgdgaaMathX
import Derived.Test.YtgnhadbadhgdgaaPrt8
namespace Go.Proofs.Ytgnhadbadhgdgaa
open Go.RowKit Go.Proofs.YtgnhadbadhgdgaaW.PrintWords Go.Proofs.YtgnhadbadhgdgaaW.PrintLast Go.Proofs.YtgnhadbadhgdgaaW.PrintMore
open Prt Ext
set_option linter.unusedVariables false
set_option linter.unusedSimpArgs false

theorem bitStep_odd {a b : Nat} (ha : a < 4294967296) (hb : b < 4294967296) (h : bitStep a = bitStep b) : a % 2 = b % 2 := by
  have t : ∀ n, n < 4294967296 → (bitStep n).testBit 31 = decide (n % 2 = 1) := by
    intro n hn
    have h1 : (n / 2).testBit 31 = false := Nat.testBit_lt_two_pow (by omega)
    unfold bitStep
    rw [Nat.testBit_xor, h1]
    split
    · rename_i ho; simp [ho]; decide
    · rename_i ho; simp [ho]
  have h1 := t a ha
  have h2 := t b hb
  rw [h, h2] at h1
  by_cases ho : a % 2 = 1
  · rw [decide_eq_true ho] at h1
    have := of_decide_eq_true h1
    omega
  · rw [decide_eq_false ho] at h1
    have := of_decide_eq_false h1
    omega
theorem bitStep_inj {a b : Nat} (ha : a < 4294967296) (hb : b < 4294967296) (h : bitStep a = bitStep b) : a = b := by
  have ho := bitStep_odd ha hb h
  have hh : a / 2 = b / 2 := by
    unfold bitStep at h
    rw [ho] at h
    have h2 := congrArg (fun z => z ^^^ (if b % 2 = 1 then 3988292384 else 0)) h
    simpa [Nat.xor_assoc] using h2
  omega
theorem iter_inj : ∀ (d : Nat) {a b : Nat}, a < 4294967296 → b < 4294967296 → iter d a = iter d b → a = b
  | 0, _, _, _, _, h => h
  | d + 1, _, _, ha, hb, h => bitStep_inj ha hb (iter_inj d (bitStep_lt ha) (bitStep_lt hb) h)
theorem xor_lt {a c : Nat} (ha : a < 4294967296) (hc : c < 4294967296) : a ^^^ c < 4294967296 := by
  have : a ^^^ c < 2 ^ 32 := Nat.xor_lt_two_pow (by omega) (by omega)
  omega
theorem xor_cancel {a b c : Nat} (h : a ^^^ c = b ^^^ c) : a = b := by
  have h2 := congrArg (fun z => z ^^^ c) h
  simpa [Nat.xor_assoc] using h2
theorem xor_cancel_left {a b c : Nat} (h : c ^^^ a = c ^^^ b) : a = b := by
  rw [Nat.xor_comm c a, Nat.xor_comm c b] at h
  exact xor_cancel h
theorem byteStep_inj {a b c : Nat} (ha : a < 4294967296) (hb : b < 4294967296) (hc : c < 256) (h : byteStep a c = byteStep b c) : a = b := by
  rw [byteStep_iter, byteStep_iter] at h
  exact xor_cancel (iter_inj 8 (xor_lt ha (by omega)) (xor_lt hb (by omega)) h)
theorem crcFrom_inj : ∀ {l : List Int}, isB l → ∀ {a b : Nat}, a < 4294967296 → b < 4294967296 → crcFrom a l = crcFrom b l → a = b
  | [], _, _, _, _, _, h => h
  | x :: r, hl, a, b, ha, hb, h => by
    have hx := hl x List.mem_cons_self
    have := crcFrom_inj (l := r) (fun y hy => hl y (List.mem_cons_of_mem _ hy)) (byteStep_lt ha (by omega)) (byteStep_lt hb (by omega)) h
    exact byteStep_inj ha hb (by omega) this
/-- A single byte that is turned turns the sum. -/
theorem crc_sees {p q : List Int} {c c' : Int} (hp : isB p) (hq : isB q) (hc : 0 ≤ c ∧ c < 256) (hc' : 0 ≤ c' ∧ c' < 256) (h : crcN (p ++ c :: q) = crcN (p ++ c' :: q)) : c = c' := by
  unfold crcN at h
  have h1 := xor_cancel h
  rw [crcFrom_append, crcFrom_append] at h1
  have hs := crcFrom_lt hp (n := 4294967295) (by decide)
  have h2 : byteStep (crcFrom 4294967295 p) c.toNat = byteStep (crcFrom 4294967295 p) c'.toNat := crcFrom_inj hq (byteStep_lt hs (by omega)) (byteStep_lt hs (by omega)) h1
  rw [byteStep_iter, byteStep_iter] at h2
  have h3 := iter_inj 8 (xor_lt hs (by omega)) (xor_lt hs (by omega)) h2
  have h4 := xor_cancel_left h3
  omega
theorem sum4_inj {a b : Nat} (ha : a < 4294967296) (hb : b < 4294967296) (h : sum4 (a : Int) = sum4 (b : Int)) : a = b := by
  simp only [sum4, List.cons.injEq, and_true] at h
  omega
theorem sum4_isB (a : Int) : isB (sum4 a) := by
  intro x hx
  simp only [sum4, List.mem_cons, List.not_mem_nil, or_false] at hx
  omega
theorem var_same {m n : Nat} {r t : List Int} (hm : m < 2 ^ 49) (hn : n < 2 ^ 49) (h : varL m ++ r = varL n ++ t) : m = n ∧ r = t := by
  have e1 := num_read (b := varL m ++ r) (at_ := 0) (m := m) (rest := r) rfl hm
  have e2 := num_read (b := varL m ++ r) (at_ := 0) (m := n) (rest := t) h hn
  rw [e1] at e2
  simp only [Prod.mk.injEq, and_true] at e2
  have hmn : m = n := by omega
  subst hmn
  exact ⟨rfl, List.append_cancel_left h⟩
/-- A record with one byte of its body or its sum turned is none. -/
theorem spoilt (k id : Nat) (s : ByteArray) (hk : k < 256) (hid : id < 2 ^ 49) (hs : s.size ≤ 4096) (j : Nat) (y : Int) (hy : 0 ≤ y ∧ y < 256) (hj1 : 1 + (varL (bodyB k id s).length).length ≤ j) (hj2 : j < (oneB k id s).length) (hne : (oneB k id s).getD j 0 ≠ y) :
    decF ((oneB k id s).set j y) = ((0, 0, { data := #[] }), 0, 30) := by
  have hbl := body_len k id s
  have hvl := varL_len id
  have hRB := rec_isB k id s hk (by omega) (by omega)
  have hcl := crcN_lt (l := recB k id s) hRB
  have hone : isB (oneB k id s) := by rw [oneB_eq]; exact isB_app hRB (sum4_isB _)
  have hset : isB ((oneB k id s).set j y) := fun x hx => by
    rcases List.mem_or_eq_of_mem_set hx with h | h
    · exact hone x h
    · rw [h]; exact hy
  rcases dec_no ((oneB k id s).set j y) with h | h
  · exfalso
    obtain ⟨c, hc, _, rest, hr⟩ := dec_inv hset h
    obtain ⟨b0, b1, b2, b3, b4⟩ := may_bounds hc
    have hRB2 := rec_isB c.f0.toNat c.f1.toNat c.f2 (by omega) (by omega) (by omega)
    have hcl2 := crcN_lt (l := recB c.f0.toNat c.f1.toNat c.f2) hRB2
    have hbl2 := body_len c.f0.toNat c.f1.toNat c.f2
    have hvl2 := varL_len c.f1.toNat
    unfold oneS at hr
    rw [oneB_eq c.f0.toNat c.f1.toNat c.f2] at hr
    -- the old record, and its head
    obtain ⟨n, hn⟩ : ∃ n, (bodyB k id s).length = n := ⟨_, rfl⟩
    obtain ⟨n2, hn2⟩ : ∃ n2, (bodyB c.f0.toNat c.f1.toNat c.f2).length = n2 := ⟨_, rfl⟩
    have hold : oneB k id s = (67 :: varL n) ++ (bodyB k id s ++ sum4 (crcN (recB k id s))) := by rw [oneB_eq, recB, hn]; simp
    rw [hn] at hj1
    have hhl : (67 :: varL n : List Int).length = 1 + (varL n).length := by simp; omega
    have hset2 : (oneB k id s).set j y = (67 :: varL n) ++ (bodyB k id s ++ sum4 (crcN (recB k id s))).set (j - (1 + (varL n).length)) y := by
      rw [hold, List.set_append_right _ _ (by rw [hhl]; exact hj1), hhl]
    rw [hset2] at hr
    have hr2 : varL n ++ (bodyB k id s ++ sum4 (crcN (recB k id s))).set (j - (1 + (varL n).length)) y = varL n2 ++ (bodyB c.f0.toNat c.f1.toNat c.f2 ++ (sum4 (crcN (recB c.f0.toNat c.f1.toNat c.f2)) ++ rest)) := by
      have hrc : ∀ Z, recB c.f0.toNat c.f1.toNat c.f2 ++ Z = 67 :: (varL n2 ++ (bodyB c.f0.toNat c.f1.toNat c.f2 ++ Z)) := fun Z => by rw [recB, hn2]; simp
      have h' := hr
      rw [List.append_assoc, hrc] at h'
      exact (List.cons.inj h').2
    obtain ⟨rfl, hr3⟩ := var_same (by omega) (by omega) hr2
    have hol : (oneB k id s).length = 1 + (varL n).length + n + 4 := by
      rw [hold, List.length_append, hhl, List.length_append, hn]
      simp only [sum4, List.length_cons, List.length_nil]
      omega
    by_cases hjb : j - (1 + (varL n).length) < n
    · -- in the body
      rw [List.set_append_left _ _ (by rw [hn]; exact hjb)] at hr3
      have hb : (bodyB k id s).set (j - (1 + (varL n).length)) y = bodyB c.f0.toNat c.f1.toNat c.f2 := by
        have := congrArg (List.take n) hr3
        rw [take_app (by rw [List.length_set, hn]), take_app hn2.symm] at this
        exact this
      have hsm : sum4 (crcN (recB k id s)) = sum4 (crcN (recB c.f0.toNat c.f1.toNat c.f2)) ++ rest := by
        have := congrArg (List.drop n) hr3
        rw [drop_app (by rw [List.length_set, hn]), drop_app hn2.symm] at this
        exact this
      have hsm2 : sum4 (crcN (recB k id s) : Int) = sum4 (crcN (recB c.f0.toNat c.f1.toNat c.f2) : Int) := by
        have := congrArg (List.take 4) hsm
        exact this
      have hcrc := sum4_inj hcl hcl2 hsm2
      have hlt : j - (1 + (varL n).length) < (bodyB k id s).length := by omega
      have hget : (oneB k id s).getD j 0 = (bodyB k id s)[j - (1 + (varL n).length)] := by
        rw [hold, List.getD_eq_getElem?_getD, List.getElem?_append_right (by rw [hhl]; exact hj1), hhl, List.getElem?_append_left hlt, List.getElem?_eq_getElem hlt]
        rfl
      have hBB := body_isB k id s hk (by omega)
      have e1 : recB k id s = ((67 :: varL n) ++ (bodyB k id s).take (j - (1 + (varL n).length))) ++ (bodyB k id s)[j - (1 + (varL n).length)] :: (bodyB k id s).drop (j - (1 + (varL n).length) + 1) := by
        rw [recB, hn]
        conv => lhs; rw [← List.take_append_drop (j - (1 + (varL n).length)) (bodyB k id s), List.drop_eq_getElem_cons hlt]
        simp [List.append_assoc]
      have e2 : recB c.f0.toNat c.f1.toNat c.f2 = ((67 :: varL n) ++ (bodyB k id s).take (j - (1 + (varL n).length))) ++ y :: (bodyB k id s).drop (j - (1 + (varL n).length) + 1) := by
        rw [recB, hn2, ← hb, List.set_eq_take_append_cons_drop, if_pos hlt]
        simp [List.append_assoc]
      rw [e1, e2] at hcrc
      have hPB : isB ((67 :: varL n) ++ (bodyB k id s).take (j - (1 + (varL n).length))) := by
        refine isB_app (fun x hx => ?_) (fun x hx => hBB x (List.mem_of_mem_take hx))
        rcases List.mem_cons.1 hx with rfl | hx
        · omega
        · exact varL_isB n (by omega) x hx
      have := crc_sees hPB (fun x hx => hBB x (List.mem_of_mem_drop hx)) (hBB _ (List.getElem_mem hlt)) hy hcrc
      rw [hget] at hne
      exact hne this
    · -- in the sum
      rw [List.set_append_right _ _ (by rw [hn]; omega), hn] at hr3
      have hb : bodyB k id s = bodyB c.f0.toNat c.f1.toNat c.f2 := by
        have := congrArg (List.take n) hr3
        rw [take_app hn.symm, take_app hn2.symm] at this
        exact this
      have hsm : (sum4 (crcN (recB k id s))).set (j - (1 + (varL n).length) - n) y = sum4 (crcN (recB c.f0.toNat c.f1.toNat c.f2)) ++ rest := by
        have := congrArg (List.drop n) hr3
        rw [drop_app hn.symm, drop_app hn2.symm] at this
        exact this
      have hrec : recB c.f0.toNat c.f1.toNat c.f2 = recB k id s := by rw [recB, recB, ← hb]
      rw [hrec] at hsm
      have hlt : j - (1 + (varL n).length) - n < (sum4 (crcN (recB k id s) : Int)).length := by
        show _ < 4
        omega
      have h1 := congrArg (fun l => l.getD (j - (1 + (varL n).length) - n) 0) hsm
      rw [List.getD_eq_getElem?_getD, List.getElem?_set_self hlt, List.getD_eq_getElem?_getD, List.getElem?_append_left hlt] at h1
      have hget : (oneB k id s).getD j 0 = ((sum4 (crcN (recB k id s) : Int))[j - (1 + (varL n).length) - n]?).getD 0 := by
        rw [hold, List.getD_eq_getElem?_getD, List.getElem?_append_right (by rw [hhl]; exact hj1), hhl, List.getElem?_append_right (by rw [hn]; omega), hn]
      rw [hget] at hne
      exact hne h1.symm
  · exact h
theorem rd_nat (l : List Int) (i : Nat) : rd l (i : Int) = l.getD i 0 := by unfold rd; rw [Int.toNat_natCast]
theorem dec_turned {c : S32} (h : mayS c = true) (K : Nat) (x : Int) (hx : 0 ≤ x ∧ x < 256) (hx0 : x ≠ 0) (h1 : 1 + (varL (bodyB c.f0.toNat c.f1.toNat c.f2).length).length ≤ K) (h2 : K < (oneS c).length) :
    record_Decode.f ((oneS c).set K (Go.bits .xor .u8 (rd (oneS c) (K : Int)) x)) = some (0, 0, { data := #[] }, 0, 30) := by
  obtain ⟨b0, b1, b2, b3, b4⟩ := may_bounds h
  have hB := one_isB h
  have hl := one_len h
  have hr : rd (oneS c) (K : Int) = (oneS c)[K] := by rw [rd_nat, List.getD_eq_getElem?_getD, List.getElem?_eq_getElem h2]; rfl
  have hrb := hB _ (List.getElem_mem h2)
  obtain ⟨a, ha⟩ := Int.eq_ofNat_of_zero_le hrb.1
  obtain ⟨x, rfl⟩ := Int.eq_ofNat_of_zero_le hx.1
  have hy : Go.bits .xor .u8 (rd (oneS c) (K : Int)) (x : Int) = ((a ^^^ x : Nat) : Int) := by
    rw [hr, ha]
    exact u8_xor_nat a x (by omega) (by omega)
  have hlt : a ^^^ x < 256 := by
    have : a ^^^ x < 2 ^ 8 := Nat.xor_lt_two_pow (by omega) (by omega)
    omega
  rw [hy]
  have hne : (oneS c).getD K 0 ≠ ((a ^^^ x : Nat) : Int) := by
    rw [List.getD_eq_getElem?_getD, List.getElem?_eq_getElem h2]
    show (oneS c)[K] ≠ _
    rw [ha]
    intro e
    have e2 : a = a ^^^ x := by omega
    have e3 : a ^^^ 0 = a ^^^ x := by rw [Nat.xor_zero]; exact e2
    have := xor_cancel_left e3
    omega
  have hd := spoilt c.f0.toNat c.f1.toNat c.f2 (by omega) (by omega) b4 K ((a ^^^ x : Nat) : Int) ⟨by omega, by omega⟩ h1 h2 hne
  have hIB : isB ((oneS c).set K ((a ^^^ x : Nat) : Int)) := fun z hz => by
    rcases List.mem_or_eq_of_mem_set hz with h | h
    · exact hB z h
    · rw [h]; omega
  rw [dec_fn hIB (by rw [List.length_set]; omega)]
  show some ((decF ((oneB c.f0.toNat c.f1.toNat c.f2).set K ((a ^^^ x : Nat) : Int))).1.1, _) = _
  unfold oneS
  rw [hd]
theorem u64_small {x : Int} (h0 : 0 ≤ x) (h1 : x < 1000000) : IntKind.u64.wrap x = x := by
  show x % 2 ^ 64 = x
  omega
theorem place (at_ : Int) (m sk : Nat) (hm : 0 < m) (hm2 : m ≤ 5000) (hs : sk ≤ 3) : ∃ r : Nat, r < m ∧ wrap64 ((sk : Int) + wrap64 (Int.tmod (IntKind.u64.wrap at_) (IntKind.u64.wrap (m : Int)))) = ((sk + r : Nat) : Int) := by
  have h1 : IntKind.u64.wrap at_ = at_ % 2 ^ 64 := rfl
  have h0 : 0 ≤ at_ % 2 ^ 64 := by omega
  rw [u64_small (x := (m : Int)) (by omega) (by omega), h1, Int.tmod_eq_emod_of_nonneg h0]
  have h2 : 0 ≤ at_ % 2 ^ 64 % (m : Int) := Int.emod_nonneg _ (by omega)
  have h3 : at_ % 2 ^ 64 % (m : Int) < (m : Int) := Int.emod_lt_of_pos _ (by omega)
  obtain ⟨r, hr⟩ := Int.eq_ofNat_of_zero_le h2
  rw [hr] at h3 ⊢
  refine ⟨r, by omega, ?_⟩
  unfold wrap64
  omega
theorem nil_toList : (({ data := #[] } : ByteArray).toList == ([] : List UInt8)) = true := by decide +kernel
theorem ev_spoilt (a0 a1 : Int) (s : ByteArray) (at_ x : Int) (hx : 0 ≤ x ∧ x < 256) : Ev (fun k => trommellaw17_RecordSpoilt.f k a0 a1 s at_ x) true := by
  unfold trommellaw17_RecordSpoilt.f
  refine Ev.bind ev_fixed ?_
  simp only [if_true]
  refine Ev.bind (ev_enc [⟨a0, a1, s⟩] (by simp)) ?_
  obtain ⟨c, hc⟩ : ∃ c : S32, c = ⟨a0, a1, s⟩ := ⟨_, rfl⟩
  rw [← hc]
  by_cases hm : mayS c = true
  · have he : encF [c] = (oneS c, 0) := by simp [encF, hm]
    have hl := one_len hm
    rw [he]
    simp only [if_true]
    by_cases hx0 : x = 0
    · subst hx0
      refine ev_now fun k => ?_
      simp only [trommellaw17_RecordSpoilt.j0]
      rw [if_pos (by decide), if_pos trivial]
    · have hb : (x == 0) = false := by simp [hx0]
      rw [hb]
      obtain ⟨b0, b1, b2, b3, b4⟩ := may_bounds hm
      obtain ⟨n, hn⟩ : ∃ n, (bodyB c.f0.toNat c.f1.toNat c.f2).length = n := ⟨_, rfl⟩
      have hbl := body_len c.f0.toNat c.f1.toNat c.f2
      have hvl := varL_len c.f1.toNat
      have hold : oneS c = 67 :: (varL n ++ (bodyB c.f0.toNat c.f1.toNat c.f2 ++ sum4 (crcN (recB c.f0.toNat c.f1.toNat c.f2)))) := by
        unfold oneS; rw [oneB_eq, recB, hn]; simp
      have hol : (oneS c).length = 1 + (varL n).length + n + 4 := by
        rw [hold]
        simp only [List.length_cons, List.length_append, hn, sum4, List.length_nil]
        omega
      have hstep : Ev (fun k => trommellaw17_RecordSpoilt.j1 k at_ x (oneS c) 2 (decide (rd (oneS c) 1 ≥ 128))) true := by
        by_cases hn1 : n < 128
        · have hv : varL n = [(n : Int)] := by unfold varL varF; rw [if_pos hn1]
          have hr1 : rd (oneS c) 1 = (n : Int) := by rw [hold, hv]; rfl
          rw [hr1, decide_eq_false (by omega)]
          rw [hv] at hol
          simp only [List.length_cons, List.length_nil] at hol
          obtain ⟨r, hr, hp⟩ := place at_ ((oneS c).length - 2) 2 (by omega) (by omega) (by omega)
          have hw : wrap64 (((oneS c).length : Int) - 2) = (((oneS c).length - 2 : Nat) : Int) := by unfold wrap64; omega
          have hd := dec_turned hm (2 + r) x hx hx0 (by rw [hn, hv]; simp only [List.length_cons, List.length_nil]; omega) (by omega)
          refine ev_now fun k => ?_
          simp only [trommellaw17_RecordSpoilt.j1]
          have hp2 : wrap64 (2 + wrap64 (Int.tmod (IntKind.u64.wrap at_) (IntKind.u64.wrap (((oneS c).length - 2 : Nat) : Int)))) = ((2 + r : Nat) : Int) := hp
          rw [if_neg (by decide), if_neg (by omega), hw, if_neg (by rw [u64_small (by omega) (by omega)]; omega), hp2, if_pos (by omega), if_pos (by omega), Int.toNat_natCast, hd, Option.bind_some]
          show (if (30 : Int) = 30 then (if (0 : Int) = 0 then some ((0 : Int) == 0 && ((0 : Int) == 0 && (({ data := #[] } : ByteArray).toList == []))) else some false) else some false) = some true
          rw [nil_toList]
          rfl
        · have hv : varL n = [((n % 128 + 128 : Nat) : Int), ((n / 128 : Nat) : Int)] := by
            unfold varL
            rw [varF, if_neg hn1, varF, if_pos (by omega)]
          have hr1 : rd (oneS c) 1 = ((n % 128 + 128 : Nat) : Int) := by rw [hold, hv]; rfl
          rw [hr1, decide_eq_true (by omega)]
          rw [hv] at hol
          simp only [List.length_cons, List.length_nil] at hol
          obtain ⟨r, hr, hp⟩ := place at_ ((oneS c).length - 3) 3 (by omega) (by omega) (by omega)
          have hw : wrap64 (((oneS c).length : Int) - 3) = (((oneS c).length - 3 : Nat) : Int) := by unfold wrap64; omega
          have hd := dec_turned hm (3 + r) x hx hx0 (by rw [hn, hv]; simp only [List.length_cons, List.length_nil]; omega) (by omega)
          have hp2 : wrap64 (3 + wrap64 (Int.tmod (IntKind.u64.wrap at_) (IntKind.u64.wrap (((oneS c).length - 3 : Nat) : Int)))) = ((3 + r : Nat) : Int) := hp
          refine ev_now fun k => ?_
          simp only [trommellaw17_RecordSpoilt.j1]
          rw [if_pos trivial, if_neg (by omega), hw, if_neg (by rw [u64_small (by omega) (by omega)]; omega), hp2, if_pos (by omega), if_pos (by omega), Int.toNat_natCast, hd, Option.bind_some]
          show (if (30 : Int) = 30 then (if (0 : Int) = 0 then some ((0 : Int) == 0 && ((0 : Int) == 0 && (({ data := #[] } : ByteArray).toList == []))) else some false) else some false) = some true
          rw [nil_toList]
          rfl
      refine Ev.step (fun k => ?_) hstep
      simp only [trommellaw17_RecordSpoilt.j0]
      rw [if_neg (by decide), if_pos (by omega), if_pos (by omega)]
  · have he : encF [c] = ([], 1) := by simp [encF, hm]
    rw [he]
    refine ev_now fun k => ?_
    simp only [trommellaw17_RecordSpoilt.j0]
    rw [if_neg (by decide)]
    rfl
end Go.Proofs.Ytgnhadbadhgdgaa
