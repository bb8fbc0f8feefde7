/- The plain statement of RecordBack: at every row of changes, every number and all bytes behind, the law's function answers true. Conditions: the row and the bytes are ones of memory. -/
import Derived.Test.YtgnhadbadhgdgaaMathF
import Derived.Test.YtgnhadbadhgdgaaMathX
import Derived.Test.YtgnhadbadhgdgaaPrt7
namespace Go.Proofs.Ytgnhadbadhgdgaa
open Go.RowKit Go.Proofs.YtgnhadbadhgdgaaW.PrintWords Go.Proofs.YtgnhadbadhgdgaaW.PrintLast Go.Proofs.YtgnhadbadhgdgaaW.PrintMore
open Prt Ext
set_option linter.unusedVariables false
set_option linter.unusedSimpArgs false

theorem ev_back_l0 (l : List S32) (more : List Int) (hl : l.length ≤ 1000000000) (hm : l.all mayS = true) (hB : isB more) (hml : more.length ≤ 1048576) (hfl : (l.flatMap oneS).length ≤ 10000000000) : ∀ (d i at_ : Nat), i + d = l.length → (l.flatMap oneS).drop at_ = (l.drop i).flatMap oneS → at_ ≤ (l.flatMap oneS).length →
    Ev (fun k => trommellaw17_RecordBack.l0 k more (l.flatMap oneS) (at_ : Int) l (l.length : Int) (i : Int)) true
  | 0, i, at_, hi, hd, ha => by
    refine ev_now fun k => ?_
    simp only [trommellaw17_RecordBack.l0]
    rw [if_neg (by omega)]
    have h1 := congrArg List.length hd
    rw [show i = l.length by omega, List.drop_length, List.length_drop] at h1
    simp only [List.flatMap_nil, List.length_nil] at h1
    have e : at_ = (l.flatMap oneS).length := by omega
    rw [e]
    simp
  | d + 1, i, at_, hi, hd, ha => by
    have hlt : i < l.length := by omega
    have hmi : mayS l[i] = true := List.all_eq_true.1 hm _ (List.getElem_mem hlt)
    have hdi : l.drop i = l[i] :: l.drop (i + 1) := List.drop_eq_getElem_cons hlt
    have hone := one_len hmi
    have hd1 : (l.flatMap oneS).drop at_ = oneS l[i] ++ (l.drop (i + 1)).flatMap oneS := by rw [hd, hdi, List.flatMap_cons]
    have hlen : at_ + (oneS l[i]).length ≤ (l.flatMap oneS).length := by
      have h1 := congrArg List.length hd1
      rw [List.length_drop, List.length_append] at h1
      omega
    have hd2 : (l.flatMap oneS).drop (at_ + (oneS l[i]).length) = (l.drop (i + 1)).flatMap oneS := by rw [← List.drop_drop, hd1]; exact drop_app rfl
    have ih := ev_back_l0 l more hl hm hB hml hfl d (i + 1) (at_ + (oneS l[i]).length) (by omega) hd2 hlen
    have hIB : isB ((l.flatMap oneS).drop at_ ++ more) := isB_app (drop_isB (flat_isB hm) _) hB
    have hdl : ((l.flatMap oneS).drop at_).length ≤ 10000000000 := by rw [List.length_drop]; omega
    refine Ev.step (fun k => ?_) ih
    simp only [trommellaw17_RecordBack.l0, Option.bind_some, Int.toNat_natCast, List.length_nil, List.nil_append]
    rw [if_pos (by omega), if_pos (by omega), if_pos (by omega), if_pos (by omega), if_pos (by omega), if_pos (by omega), if_pos (by omega)]
    rw [dec_fn hIB (by rw [List.length_append]; omega), Option.bind_some]
    simp only
    rw [hd1, List.append_assoc, dec_oneS hmi]
    simp only
    rw [if_pos trivial, rd_at l i hlt, if_neg (by simp)]
    have hw : wrap64 (((l.flatMap oneS).length : Int) - (at_ : Int)) = ((l.flatMap oneS).length : Int) - (at_ : Int) := by unfold wrap64; omega
    have hw2 : wrap64 ((at_ : Int) + ((oneS l[i]).length : Int)) = ((at_ + (oneS l[i]).length : Nat) : Int) := by unfold wrap64; omega
    rw [hw, hw2, wrap_add1 (by omega)]
    by_cases h9 : ((oneS l[i]).length : Int) < 9
    · rw [if_pos h9, if_neg (by omega), if_neg (by omega)]
    · rw [if_neg h9, if_neg (by omega)]
theorem ev_back (l : List S32) (n : Int) (more : List Int) (hl : l.length ≤ 1048576) (hB : isB more) (hml : more.length ≤ 1048576) : Ev (fun k => trommellaw17_RecordBack.f k l n more) true := by
  unfold trommellaw17_RecordBack.f
  refine Ev.bind ev_fixed ?_
  simp only [if_pos, head_eq, Option.bind_some]
  refine Ev.bind (ev_enc l (by omega)) ?_
  by_cases hn : 1 ≤ n ∧ n ≤ 1099511627777
  · have hh : headF n = (sealB (headB n.toNat), 0) := by rw [headF, if_pos hn]
    have hhl : 1 ≤ (sealB (headB n.toNat)).length := by rw [crc_seal_len]; omega
    have hhl2 := headF_len n
    rw [hh] at hhl2 ⊢
    simp only at hhl2 ⊢
    simp only [if_pos]
    by_cases hm : l.all mayS = true
    · have he : encF l = (l.flatMap oneS, 0) := by rw [encF, if_pos hm]
      have hfl := flat_len hm
      rw [he]
      simp only
      obtain ⟨L, tail, hp, hLm, htl⟩ := parts more.length more (Nat.le_refl _) hB
      have hcat : ((l ++ L).flatMap oneS ++ tail) = l.flatMap oneS ++ more := by rw [hp, List.flatMap_append, List.append_assoc]
      have hLc := flat_count hLm
      have hLl : (L.flatMap oneS).length + tail.length = more.length := by rw [← List.length_append, ← hp]
      have hall : (l ++ L).all mayS = true := by rw [List.all_append, hm, hLm]; rfl
      have htB : isB tail := by rw [hp] at hB; exact fun x hx => hB x (List.mem_append_right _ hx)
      obtain ⟨m, rfl⟩ := Int.eq_ofNat_of_zero_le (show 0 ≤ n by omega)
      simp only [Int.toNat_natCast] at hhl hhl2 ⊢
      have hsc := ev_scan m (by omega) (by omega) (l ++ L) tail hall htB htl (by rw [hcat]; simp only [List.length_append]; omega)
      rw [hcat] at hsc
      have hend : Ev (fun k => trommellaw17_RecordBack.j2 k l more (l.flatMap oneS) false) true := by
        refine Ev.step (fun k => ?_) (ev_back_l0 l more (by omega) hm hB hml (by omega) l.length 0 0 (by omega) rfl (by omega))
        simp only [trommellaw17_RecordBack.j2]
        rw [if_neg (by decide)]
        rfl
      have hflat : ((l ++ L).flatMap oneS).length = (l.flatMap oneS).length + (L.flatMap oneS).length := by rw [List.flatMap_append, List.length_append]
      have hj1 : Ev (fun k => trommellaw17_RecordBack.j1 k l more (sealB (headB m)) (l.flatMap oneS) (sealB (headB m) ++ (l.flatMap oneS ++ more)) (l ++ L) ((((sealB (headB m)).length + ((l ++ L).flatMap oneS).length : Nat) : Int)) false) true := by
        refine Ev.step (f := fun k => (record_Encode.f k (l ++ L)).bind fun bt => if bt.2 = 0 then (if (((sealB (headB m)).length + ((l ++ L).flatMap oneS).length : Nat) : Int) = wrap64 (((sealB (headB m)).length : Int) + (bt.1.length : Int)) then (trommellaw17_sameBytes.f (((sealB (headB m) ++ (l.flatMap oneS ++ more)).take ((sealB (headB m)).length + ((l ++ L).flatMap oneS).length)).drop (sealB (headB m)).length) bt.1).bind fun t => trommellaw17_RecordBack.j2 k l more (l.flatMap oneS) (!t) else trommellaw17_RecordBack.j2 k l more (l.flatMap oneS) true) else trommellaw17_RecordBack.j2 k l more (l.flatMap oneS) true) (fun k => ?_) ?_
        · simp only [trommellaw17_RecordBack.j1, Int.toNat_natCast]
          rw [if_neg (by decide)]
          congr 1
          funext bt
          rw [if_pos (show (0 : Int) ≤ ((sealB (headB m)).length : Int) by omega), if_pos (show ((sealB (headB m)).length : Int) ≤ (((sealB (headB m)).length + ((l ++ L).flatMap oneS).length : Nat) : Int) by omega), if_pos (show (((sealB (headB m)).length + ((l ++ L).flatMap oneS).length : Nat) : Int) ≤ ((sealB (headB m) ++ (l.flatMap oneS ++ more)).length : Int) by simp only [List.length_append, hflat]; omega)]
        · refine Ev.bind (ev_enc (l ++ L) (by rw [List.length_append]; omega)) ?_
          have he2 : encF (l ++ L) = ((l ++ L).flatMap oneS, 0) := by rw [encF, if_pos hall]
          rw [he2]
          simp only
          refine Ev.congr (fun k => if_pos trivial) ?_
          refine Ev.congr (fun k => if_pos (by unfold wrap64; omega)) ?_
          have hs : ((sealB (headB m) ++ (l.flatMap oneS ++ more)).take ((sealB (headB m)).length + ((l ++ L).flatMap oneS).length)).drop (sealB (headB m)).length = (l ++ L).flatMap oneS := by
            rw [← hcat, ← List.append_assoc, List.take_append_of_le_length (by rw [List.length_append]; omega), List.take_of_length_le (by rw [List.length_append]; omega)]
            exact drop_app rfl
          rw [hs, same_self]
          exact hend
      refine Ev.step (f := fun k => (record_Scan.f k (sealB (headB m) ++ (l.flatMap oneS ++ more))).bind fun bt => if bt.2.2.2 = 0 then (if bt.1 = (m : Int) then (if (bt.2.1.length : Int) < (l.length : Int) then trommellaw17_RecordBack.j1 k l more (sealB (headB m)) (l.flatMap oneS) (sealB (headB m) ++ (l.flatMap oneS ++ more)) bt.2.1 bt.2.2.1 true else (if 0 ≤ (l.length : Int) then (if (l.length : Int) ≤ (bt.2.1.length : Int) then (trommellaw17_sameChanges.f k (bt.2.1.take l.length) l).bind fun t => if t = true then trommellaw17_RecordBack.j1 k l more (sealB (headB m)) (l.flatMap oneS) (sealB (headB m) ++ (l.flatMap oneS ++ more)) bt.2.1 bt.2.2.1 (decide (bt.2.2.1 < wrap64 (((sealB (headB m)).length : Int) + ((l.flatMap oneS).length : Int)))) else trommellaw17_RecordBack.j1 k l more (sealB (headB m)) (l.flatMap oneS) (sealB (headB m) ++ (l.flatMap oneS ++ more)) bt.2.1 bt.2.2.1 true else none) else none)) else trommellaw17_RecordBack.j1 k l more (sealB (headB m)) (l.flatMap oneS) (sealB (headB m) ++ (l.flatMap oneS ++ more)) bt.2.1 bt.2.2.1 true) else trommellaw17_RecordBack.j1 k l more (sealB (headB m)) (l.flatMap oneS) (sealB (headB m) ++ (l.flatMap oneS ++ more)) bt.2.1 bt.2.2.1 true) (fun k => ?_) ?_
      · simp only [trommellaw17_RecordBack.j0, Option.bind_some, List.nil_append, Int.toNat_natCast, List.length_nil, bne_self_eq_false]
        rw [if_neg (by decide), if_pos (by omega), if_pos (by omega), if_pos (by simp only [List.length_append]; omega), List.append_assoc]
      · refine Ev.bind hsc ?_
        simp only
        refine Ev.congr (fun k => if_pos trivial) (Ev.congr (fun k => if_pos trivial) (Ev.congr (fun k => if_neg (by simp only [List.length_append]; omega)) (Ev.congr (fun k => if_pos (by omega)) (Ev.congr (fun k => if_pos (by simp only [List.length_append]; omega)) ?_))))
        rw [show (l ++ L).take l.length = l from by simp]
        refine Ev.bind (ev_same l (by omega)) ?_
        simp only [if_true]
        rw [decide_eq_false (by rw [hflat]; unfold wrap64; omega)]
        exact hj1
    · have he : encF l = ([], 1) := by rw [encF, if_neg hm]
      rw [he]
      refine ev_now fun k => ?_
      simp only [trommellaw17_RecordBack.j0]
      rw [if_pos (by decide), if_pos (by simp; intro h; rw [h] at hhl; simp at hhl), if_neg (by decide)]
      rfl
  · have hh : headF n = ([], 2) := by rw [headF, if_neg hn]
    rw [hh]
    simp only
    refine Ev.congr (fun k => if_neg (by decide)) ?_
    refine ev_now fun k => ?_
    simp only [trommellaw17_RecordBack.j0]
    rw [if_pos trivial, if_pos (by decide)]
    unfold encF
    split
    · rfl
    · rfl
end Go.Proofs.Ytgnhadbadhgdgaa
