/- The reference's Scan answers what the program's answers, at any bytes. Conditions: the bytes are bytes, the lists are ones of memory. -/
import Derived.Test.YtgnhadbadhgdgaaMathG
namespace Go.Proofs.Ytgnhadbadhgdgaa
open Go.RowKit Go.Proofs.YtgnhadbadhgdgaaW.PrintWords Go.Proofs.YtgnhadbadhgdgaaW.PrintLast Go.Proofs.YtgnhadbadhgdgaaW.PrintMore
open Prt Ext
set_option linter.unusedVariables false
set_option linter.unusedSimpArgs false

theorem ev_refscan_l0 (b : List Int) (hb : isB b) (hl : b.length ≤ 1099511627776) (next : Int) (tail : List Int) (ht : (decF tail).2.2 ≠ 0) : ∀ (L : List S32) (out : List S32) (at_ : Nat), b.drop at_ = L.flatMap oneS ++ tail → at_ ≤ b.length → L.all mayS = true → out.length + L.length ≤ 1099511627776 →
    Ev (fun k => trommelref17_Scan.l0 k b next out (at_ : Int)) (next, out ++ L, ((at_ + (L.flatMap oneS).length : Nat) : Int), 0)
  | [], out, at_, hd, ha, hm, hn => by
    have hdec := ev_refdec (b.drop at_) (drop_isB hb _) (by rw [List.length_drop]; omega)
    rw [hd] at hdec
    have htz : decT ([].flatMap oneS ++ tail) = (0, 0, (⟨#[]⟩ : ByteArray), 0, 30) := by
      rcases dec_no tail with h2 | h2
      · exact absurd h2 ht
      · unfold decT
        rw [List.flatMap_nil, List.nil_append, h2]
    rw [htz] at hdec
    refine Ev.step (f := fun k => (trommelref17_Decode.f k ([].flatMap oneS ++ tail)).bind fun bt => if bt.2.2.2.2 = 0 then (if out.length < 4398046511104 then trommelref17_Scan.l0 k b next (out ++ [⟨bt.1, bt.2.1, bt.2.2.1⟩]) (wrap64 ((at_ : Int) + bt.2.2.2.1)) else none) else some (next, out, (at_ : Int), 0)) (fun k => ?_) ?_
    · simp only [trommelref17_Scan.l0, Int.toNat_natCast]
      rw [if_pos (by omega), if_pos (by omega), hd]
    · refine Ev.bind hdec ?_
      refine ev_all fun k => ?_
      simp
  | c :: L, out, at_, hd, ha, hm, hn => by
    simp only [List.all_cons, Bool.and_eq_true] at hm
    have hd' : b.drop at_ = oneS c ++ (L.flatMap oneS ++ tail) := by rw [hd, List.flatMap_cons, List.append_assoc]
    have hone := one_len hm.1
    have hlen : at_ + (oneS c).length ≤ b.length := by
      have h1 := congrArg List.length hd'
      rw [List.length_drop, List.length_append] at h1
      omega
    have hd2 : b.drop (at_ + (oneS c).length) = L.flatMap oneS ++ tail := by rw [← List.drop_drop, hd']; exact drop_app rfl
    simp only [List.length_cons] at hn
    have ih := ev_refscan_l0 b hb hl next tail ht L (out ++ [c]) (at_ + (oneS c).length) hd2 hlen hm.2 (by simp; omega)
    have e : (next, out ++ c :: L, ((at_ + ((c :: L).flatMap oneS).length : Nat) : Int), (0 : Int)) = (next, (out ++ [c]) ++ L, ((at_ + (oneS c).length + (L.flatMap oneS).length : Nat) : Int), (0 : Int)) := by
      rw [List.flatMap_cons, List.length_append, Nat.add_assoc]
      simp
    rw [e]
    have hdec := ev_refdec (b.drop at_) (drop_isB hb _) (by rw [List.length_drop]; omega)
    have htz : decT (b.drop at_) = (c.f0, c.f1, c.f2, ((oneS c).length : Int), 0) := by
      unfold decT
      rw [hd', dec_oneS hm.1]
    rw [htz] at hdec
    refine Ev.step (f := fun k => (trommelref17_Decode.f k (b.drop at_)).bind fun bt => if bt.2.2.2.2 = 0 then (if out.length < 4398046511104 then trommelref17_Scan.l0 k b next (out ++ [⟨bt.1, bt.2.1, bt.2.2.1⟩]) (wrap64 ((at_ : Int) + bt.2.2.2.1)) else none) else some (next, out, (at_ : Int), 0)) (fun k => ?_) ?_
    · simp only [trommelref17_Scan.l0, Int.toNat_natCast]
      rw [if_pos (by omega), if_pos (by omega)]
    · refine Ev.bind hdec ?_
      simp only [if_true]
      refine Ev.congr (fun k => if_pos (by omega)) ?_
      rw [show wrap64 ((at_ : Int) + ((oneS c).length : Int)) = ((at_ + (oneS c).length : Nat) : Int) from wrap_nat (n := at_ + (oneS c).length) (by omega)]
      exact ih
theorem headF_nat {n : Nat} (h1 : 1 ≤ n) (h2 : n ≤ 1099511627777) : headF (n : Int) = (sealB (headB n), 0) := by rw [headF, if_pos ⟨by omega, by omega⟩, Int.toNat_natCast]
theorem head_drop1 (n : Nat) (t : List Int) : (sealB (headB n) ++ t).drop 1 = varL n ++ (sum4 (crcN (headB n)) ++ t) := by simp [sealB, headB]
/-- Any bytes: a head and records behind it, or no head; the program and the reference say the same. -/
theorem ev_scans (b : List Int) (hb : isB b) (hl : b.length ≤ 1099511627776) : ∃ r : Int × List S32 × Int × Int, Ev (fun k => record_Scan.f k b) r ∧ Ev (fun k => trommelref17_Scan.f k b) r ∧ 8 * r.2.1.length ≤ b.length ∧
    ((∃ (n : Nat) (L : List S32) (tail : List Int), 1 ≤ n ∧ n ≤ 1099511627777 ∧ b = sealB (headB n) ++ (L.flatMap oneS ++ tail) ∧ L.all mayS = true ∧ (decF tail).2.2 ≠ 0 ∧ r = ((n : Int), L, (((sealB (headB n)).length + (L.flatMap oneS).length : Nat) : Int), 0)) ∨ r = (0, [], 0, 31)) := by
  have hread := ev_read b hb hl 1 (by omega) 1099511627777
  by_cases hh : ∃ n rest, 1 ≤ n ∧ n ≤ 1099511627777 ∧ b = sealB (headB n) ++ rest
  · obtain ⟨n, rest, h1, h2, rfl⟩ := hh
    have hrB : isB rest := fun x hx => hb x (List.mem_append_right _ hx)
    obtain ⟨L, tail, hp, hm, ht⟩ := parts rest.length rest (Nat.le_refl _) hrB
    subst hp
    have htB : isB tail := fun x hx => hrB x (List.mem_append_right _ hx)
    have hfc := flat_count hm
    have hc8 : 8 * L.length ≤ (sealB (headB n) ++ (L.flatMap oneS ++ tail)).length := by simp only [List.length_append]; omega
    refine ⟨_, ev_scan n h1 h2 L tail hm htB ht hl, ?_, hc8, .inl ⟨n, L, tail, h1, h2, rfl, hm, ht, rfl⟩⟩
    have hr := read_yes (a := 1) (most := 1099511627777) (head_drop1 n (L.flatMap oneS ++ tail)) (by omega) (of_most (most := 1099511627777) (by omega) (Int.le_refl _))
    rw [hr] at hread
    have hhl := headF_len (n : Int)
    rw [headF_nat h1 h2] at hhl
    simp only at hhl
    unfold trommelref17_Scan.f
    refine Ev.bind hread ?_
    refine Ev.bind (ev_refhead (n : Int)) ?_
    rw [headF_nat h1 h2]
    simp only [if_true]
    refine Ev.bind (ev_begins _ (sealB (headB n)) (by omega)) ?_
    rw [decide_eq_true (take_app rfl)]
    have hs := ev_refscan_l0 (sealB (headB n) ++ (L.flatMap oneS ++ tail)) hb hl (n : Int) tail ht L [] (sealB (headB n)).length (drop_app rfl) (by rw [List.length_append]; omega) hm (by simp; omega)
    refine Ev.step (fun k => ?_) hs
    simp only [trommelref17_Scan.j0]
    rw [if_neg (by decide)]
  · refine ⟨(0, [], 0, 31), ?_, ?_, by simp, .inr rfl⟩
    · unfold record_Scan.f
      refine Ev.congr (fun k => if_pos ⟨hb, hl⟩) ?_
      refine Ev.congr (fun k => if_neg (fun h => hh ?_)) (Ev.now _)
      obtain ⟨g1, g2, g3, g4⟩ := h
      obtain ⟨Y, hY⟩ : ∃ Y, numS b = Y := ⟨_, rfl⟩
      rw [hY] at g3 g4
      unfold sumF' at g1
      rw [hY] at g1
      obtain ⟨hy, rest, hr, _⟩ := sum_inv g1
      obtain ⟨X, hX⟩ : ∃ X, rdB b 0 true = X := ⟨_, rfl⟩
      rw [hX] at g2
      have hY2 : numF b 7 0 0 X.2.1 X.2.2 = (Y.1, Y.2.1, true) := by
        have h2 := hY
        unfold numS at h2
        rw [hX] at h2
        rw [h2]
        exact Prod.ext rfl (Prod.ext rfl hy)
      obtain ⟨hxo, n, hn1, hn2, hn3, hn4, hn5⟩ := num_inv hb hY2
      obtain ⟨_, x, t, hx1, hx2⟩ := rdB_ok (b := b) (at_ := 0) (ok := true) (by rw [hX]; exact hxo)
      rw [hX] at hx2
      have ex1 : X.1 = x := by rw [hx2]
      have ex2 : X.2.1 = 1 := by rw [hx2]
      rw [ex2] at hn3 hn4
      rw [ex1] at g2
      have hb0 : b = 72 :: t := by have h5 := hx1; rw [List.drop_zero, g2] at h5; exact h5
      have hb1 : b.drop 1 = t := by rw [hb0]; rfl
      have htake : b.take Y.2.1 = headB n := by
        have e : b = headB n ++ b.drop Y.2.1 := by
          conv => lhs; rw [hb0, ← hb1, hn3]
          rfl
        have el : Y.2.1 = (headB n).length := by
          rw [hn4]
          simp [headB]; omega
        conv => lhs; rw [e]
        exact take_app el
      refine ⟨n, rest, by omega, by omega, ?_⟩
      rw [sealB, ← htake, List.append_assoc, ← hr]
      exact (List.take_append_drop _ _).symm
    · unfold trommelref17_Scan.f
      refine Ev.bind hread (Ev.bind (ev_refhead _) ?_)
      have hj : ∀ (u : Int) (v : List Int), Ev (fun k => trommelref17_Scan.j0 k b u v true) (0, [], 0, 31) := fun u v => ev_now fun k => by
        simp only [trommelref17_Scan.j0, if_true]
      by_cases hok : (readF 1099511627777 1 8 (b.drop 1) 0 0).2.2 = true
      · obtain ⟨n, rest, hd, hn1, hn2, he⟩ := read_inv (drop_isB hb 1) hok (Int.le_refl _)
        rw [he]
        simp only [if_true]
        by_cases h1 : 1 ≤ n
        · have h2 : n ≤ 1099511627777 := by omega
          have hhl := headF_len (n : Int)
          rw [headF_nat h1 h2] at hhl ⊢
          simp only at hhl
          simp only [if_true]
          refine Ev.bind (ev_begins b (sealB (headB n)) (by omega)) ?_
          rw [decide_eq_false (fun h => hh ?_)]
          · exact hj _ _
          · obtain ⟨r, hr⟩ := take_begins.1 h
            exact ⟨n, r, h1, h2, hr⟩
        · have hz : headF (n : Int) = ([], 2) := by rw [headF, if_neg (by omega)]
          rw [hz]
          exact Ev.congr (fun k => if_neg (by decide)) (hj _ _)
      · exact Ev.congr (fun k => if_neg hok) (hj _ _)
end Go.Proofs.Ytgnhadbadhgdgaa
