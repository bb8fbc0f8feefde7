/- What Scan finds: the whole records. Conditions: the bytes are bytes, the lists are ones of memory. -/
import Derived.Test.YtgnhadbadhgdgaaMathE
import Derived.Test.YtgnhadbadhgdgaaPrt6
namespace Go.Proofs.Ytgnhadbadhgdgaa
open Go.RowKit Go.Proofs.YtgnhadbadhgdgaaW.PrintWords Go.Proofs.YtgnhadbadhgdgaaW.PrintLast Go.Proofs.YtgnhadbadhgdgaaW.PrintMore
open Prt Ext
set_option linter.unusedVariables false
set_option linter.unusedSimpArgs false

theorem dec_oneS {c : S32} (h : mayS c = true) (rest : List Int) : decF (oneS c ++ rest) = ((c.f0, c.f1, c.f2), ((oneS c).length : Int), 0) := by
  obtain ⟨h0, h1, h2, h3, h4⟩ := may_bounds h
  have hm := may_eq c
  rw [h] at hm
  have e0 : ((c.f0.toNat : Nat) : Int) = c.f0 := Int.toNat_of_nonneg (by omega)
  have e1 : ((c.f1.toNat : Nat) : Int) = c.f1 := Int.toNat_of_nonneg (by omega)
  have := dec_one c.f0.toNat c.f1.toNat c.f2 rest (by omega) (by omega) (by rw [e0, e1]; exact hm)
  rw [e0, e1] at this
  exact this
theorem one_isB {c : S32} (h : mayS c = true) : isB (oneS c) := by
  obtain ⟨h0, h1, h2, h3, h4⟩ := may_bounds h
  unfold oneS
  rw [oneB_eq]
  refine isB_app (rec_isB _ _ _ (by omega) (by omega) (by omega)) ?_
  intro x hx
  have hc := crcN_lt (l := recB c.f0.toNat c.f1.toNat c.f2) (rec_isB _ _ _ (by omega) (by omega) (by omega))
  simp only [sum4, List.mem_cons, List.not_mem_nil, or_false] at hx
  omega
theorem flat_isB : ∀ {l : List S32}, l.all mayS = true → isB (l.flatMap oneS)
  | [], _ => by simp [isB]
  | c :: r, h => by
    simp only [List.all_cons, Bool.and_eq_true] at h
    simp only [List.flatMap_cons]
    exact isB_app (one_isB h.1) (flat_isB h.2)
/-- Any bytes are whole records, and what begins with none. -/
theorem parts : ∀ (n : Nat) (t : List Int), t.length ≤ n → isB t → ∃ (L : List S32) (tail : List Int), t = L.flatMap oneS ++ tail ∧ L.all mayS = true ∧ (decF tail).2.2 ≠ 0
  | 0, t, hn, hb => by
    have : t = [] := List.length_eq_zero_iff.1 (by omega)
    subst this
    refine ⟨[], [], rfl, rfl, ?_⟩
    intro h
    obtain ⟨c, hc, _, rest, hr⟩ := dec_inv hb h
    have := congrArg List.length hr
    have := (one_len hc).1
    simp at *
    omega
  | n + 1, t, hn, hb => by
    by_cases h : (decF t).2.2 = 0
    · obtain ⟨c, hc, _, rest, rfl⟩ := dec_inv hb h
      have hl := (one_len hc).1
      obtain ⟨L, tail, h1, h2, h3⟩ := parts n rest (by rw [List.length_append] at hn; omega) (fun x hx => hb x (List.mem_append_right _ hx))
      exact ⟨c :: L, tail, by rw [h1, List.flatMap_cons, List.append_assoc], by simp [hc, h2], h3⟩
    · exact ⟨[], t, rfl, rfl, h⟩
theorem dec_fn {t : List Int} (hb : isB t) (hl : t.length ≤ 1099511627776) : record_Decode.f t = some ((decF t).1.1, (decF t).1.2.1, (decF t).1.2.2, (decF t).2.1, (decF t).2.2) := by
  unfold record_Decode.f
  rw [if_pos ⟨hb, hl⟩]
theorem drop_isB {b : List Int} (h : isB b) (n : Nat) : isB (b.drop n) := fun x hx => h x (List.mem_of_mem_drop hx)
theorem flat_count : ∀ {l : List S32}, l.all mayS = true → 8 * l.length ≤ (l.flatMap oneS).length
  | [], _ => by simp
  | c :: r, h => by
    simp only [List.all_cons, Bool.and_eq_true] at h
    have h1 := (one_len h.1).1
    have h2 := flat_count h.2
    simp only [List.flatMap_cons, List.length_append, List.length_cons]
    omega
theorem ev_scan_l0 (b : List Int) (hb : isB b) (hl : b.length ≤ 1099511627776) (next : Int) (tail : List Int) (ht : (decF tail).2.2 ≠ 0) : ∀ (L : List S32) (out : List S32) (at_ : Nat), b.drop at_ = L.flatMap oneS ++ tail → at_ ≤ b.length → L.all mayS = true → out.length + L.length ≤ 1099511627776 →
    Ev (fun k => record_Scan.l0 k b next out (at_ : Int)) (next, out ++ L, ((at_ + (L.flatMap oneS).length : Nat) : Int), 0)
  | [], out, at_, hd, ha, hm, hn => by
    refine ev_now fun k => ?_
    simp only [record_Scan.l0, Int.toNat_natCast]
    rw [if_pos (by omega), if_pos (by omega), dec_fn (drop_isB hb _) (by rw [List.length_drop]; omega), Option.bind_some]
    simp only
    rw [if_neg (by rw [hd]; exact ht)]
    simp
  | c :: L, out, at_, hd, ha, hm, hn => by
    simp only [List.all_cons, Bool.and_eq_true] at hm
    have hd' : b.drop at_ = oneS c ++ (L.flatMap oneS ++ tail) := by rw [hd, List.flatMap_cons, List.append_assoc]
    have hone := one_len hm.1
    have hlen : at_ + (oneS c).length ≤ b.length := by
      have h1 := congrArg List.length hd'
      rw [List.length_drop, List.length_append] at h1
      omega
    have hd2 : b.drop (at_ + (oneS c).length) = L.flatMap oneS ++ tail := by rw [← List.drop_drop, hd']; exact drop_app rfl
    simp only [List.length_cons] at hn
    have ih := ev_scan_l0 b hb hl next tail ht L (out ++ [c]) (at_ + (oneS c).length) hd2 hlen hm.2 (by simp; omega)
    have e : (next, out ++ c :: L, ((at_ + ((c :: L).flatMap oneS).length : Nat) : Int), (0 : Int)) = (next, (out ++ [c]) ++ L, ((at_ + (oneS c).length + (L.flatMap oneS).length : Nat) : Int), (0 : Int)) := by
      rw [List.flatMap_cons, List.length_append, Nat.add_assoc]
      simp
    rw [e]
    refine Ev.step (fun k => ?_) ih
    simp only [record_Scan.l0, Int.toNat_natCast]
    rw [if_pos (by omega), if_pos (by omega), dec_fn (drop_isB hb _) (by rw [List.length_drop]; omega), Option.bind_some]
    simp only
    rw [hd', dec_oneS hm.1]
    simp only
    rw [if_pos trivial, if_pos (by omega)]
    rw [show wrap64 ((at_ : Int) + ((oneS c).length : Int)) = ((at_ + (oneS c).length : Nat) : Int) by unfold wrap64; omega]
/-- A head that was written is read. -/
theorem head_read (n : Nat) (hn : n < 2 ^ 49) (t : List Int) : (rdB (sealB (headB n) ++ t) 0 true) = (72, 1, true) ∧ numS (sealB (headB n) ++ t) = ((n : Int), 1 + (varL n).length, true) ∧ sumF' (sealB (headB n) ++ t) = ((sealB (headB n)).length, true) := by
  have hb : sealB (headB n) ++ t = 72 :: (varL n ++ (sum4 (crcN (headB n)) ++ t)) := by simp [sealB, headB]
  have h0 : (sealB (headB n) ++ t).drop 0 = 72 :: (varL n ++ (sum4 (crcN (headB n)) ++ t)) := by rw [hb]; rfl
  have h1 := drop_next h0
  have e1 := rdB_cons h0
  have e2 := num_read (at_ := 1) h1 hn
  have h2 : (sealB (headB n) ++ t).drop (1 + (varL n).length) = sum4 (crcN (headB n)) ++ t := by rw [← List.drop_drop, h1]; exact drop_app rfl
  have ht : (sealB (headB n) ++ t).take (1 + (varL n).length) = headB n := by
    rw [sealB, List.append_assoc]
    exact take_app (by simp [headB]; omega)
  have hs : numS (sealB (headB n) ++ t) = ((n : Int), 1 + (varL n).length, true) := by
    unfold numS
    rw [e1]
    exact e2
  refine ⟨e1, hs, ?_⟩
  unfold sumF'
  rw [hs]
  simp only
  rw [ht, sum_read' h2]
  congr 1
  rw [crc_seal_len]
  simp [headB]; omega
theorem ev_scan (n : Nat) (h1 : 1 ≤ n) (h2 : n ≤ 1099511627777) (L : List S32) (tail : List Int) (hm : L.all mayS = true) (htB : isB tail) (ht : (decF tail).2.2 ≠ 0) (hl : (sealB (headB n) ++ (L.flatMap oneS ++ tail)).length ≤ 1099511627776) :
    Ev (fun k => record_Scan.f k (sealB (headB n) ++ (L.flatMap oneS ++ tail))) ((n : Int), L, (((sealB (headB n)).length + (L.flatMap oneS).length : Nat) : Int), 0) := by
  obtain ⟨e1, e2, e3⟩ := head_read n (by omega) (L.flatMap oneS ++ tail)
  have hB : isB (sealB (headB n) ++ (L.flatMap oneS ++ tail)) := by
    refine isB_app ?_ (isB_app (flat_isB hm) htB)
    refine isB_app (head_isB n (by omega)) ?_
    intro x hx
    simp only [sum4, List.mem_cons, List.not_mem_nil, or_false] at hx
    omega
  have hc := flat_count hm
  have hb2 : L.length ≤ 1099511627776 := by rw [List.length_append, List.length_append] at hl; omega
  unfold record_Scan.f
  refine Ev.congr (fun k => if_pos ⟨hB, hl⟩) ?_
  rw [e2, e3]
  refine Ev.congr (fun k => if_pos ⟨rfl, by rw [e1], by omega, by omega⟩) ?_
  have := ev_scan_l0 (sealB (headB n) ++ (L.flatMap oneS ++ tail)) hB hl (n : Int) tail ht L [] (sealB (headB n)).length (drop_app rfl) (by rw [List.length_append]; omega) hm (by simpa using hb2)
  exact this
/-- The same changes are the same. -/
theorem ev_same_l0 (l : List S32) (hl : l.length ≤ 1099511627776) : ∀ (d i : Nat), i + d = l.length → Ev (fun k => trommellaw17_sameChanges.l0 k l l (l.length : Int) (i : Int)) true
  | 0, i, hi => by
    refine ev_now fun k => ?_
    simp only [trommellaw17_sameChanges.l0]
    rw [if_neg (by omega)]
  | d + 1, i, hi => by
    have ih := ev_same_l0 l hl d (i + 1) (by omega)
    refine Ev.step (fun k => ?_) ih
    simp only [trommellaw17_sameChanges.l0]
    rw [if_pos (by omega), if_pos (by omega), if_pos (by omega), if_pos (by omega), if_neg (by simp), wrap_add1 (by omega)]
theorem ev_same (l : List S32) (hl : l.length ≤ 1099511627776) : Ev (fun k => trommellaw17_sameChanges.f k l l) true := by
  unfold trommellaw17_sameChanges.f
  refine Ev.congr (fun k => if_pos rfl) ?_
  have := ev_same_l0 l hl l.length 0 (by omega)
  exact this
end Go.Proofs.Ytgnhadbadhgdgaa
