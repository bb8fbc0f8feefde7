/- Of a beginning just the whole records are found: what Scan says of the first bytes of a head and of records behind it. Conditions: the head's number is in its bounds, each change is one that may be written. -/
import Derived.Test.YtgnhadbadhgdgaaMathH
namespace Go.Proofs.Ytgnhadbadhgdgaa
open Go.RowKit Go.Proofs.YtgnhadbadhgdgaaW.PrintWords Go.Proofs.YtgnhadbadhgdgaaW.PrintLast Go.Proofs.YtgnhadbadhgdgaaW.PrintMore
open Prt Ext
set_option linter.unusedVariables false
set_option linter.unusedSimpArgs false

theorem headS_isB (m : Nat) (hm : m ≤ 1099511627777) : isB (sealB (headB m)) := by
  refine isB_app (head_isB m (by omega)) ?_
  intro x hx
  simp only [sum4, List.mem_cons, List.not_mem_nil, or_false] at hx
  omega
/-- Less than a head is no head. -/
theorem head_short (m : Nat) (hm : 1 ≤ m) (hm2 : m ≤ 1099511627777) (t : List Int) (k : Nat) (hk : k < (sealB (headB m)).length) : Ev (fun kk => record_Scan.f kk ((sealB (headB m) ++ t).take k)) (0, [], 0, 31) := by
  obtain ⟨H, hH⟩ : ∃ H, sealB (headB m) = H := ⟨_, rfl⟩
  have hB := headS_isB m hm2
  have hlen := headF_len (m : Int)
  rw [headF_nat hm hm2] at hlen
  simp only at hlen
  have h3 := (head_read m (by omega) []).2.1
  rw [List.append_nil] at h3
  rw [hH] at hB hk hlen h3 ⊢
  rw [List.take_append_of_le_length (by omega)]
  obtain ⟨r, h1, _, _, h⟩ := ev_scans (H.take k) (fun x hx => hB x (List.mem_of_mem_take hx)) (by rw [List.length_take]; omega)
  rcases h with ⟨n, L, tail, hn1, hn2, hb, _⟩ | rfl
  · exfalso
    have e : H = sealB (headB n) ++ ((L.flatMap oneS ++ tail) ++ H.drop k) := by
      rw [← List.append_assoc, ← hb]
      exact (List.take_append_drop k H).symm
    have h2 := (head_read n (by omega) ((L.flatMap oneS ++ tail) ++ H.drop k)).2.1
    rw [← e, h3] at h2
    have hnm : (m : Int) = (n : Int) := congrArg (fun x => x.1) h2
    have hnm2 : m = n := by omega
    subst hnm2
    have h4 := congrArg List.length hb
    rw [List.length_take, List.length_append, hH] at h4
    omega
  · exact h1
theorem dec_nil : (decF []).2.2 ≠ 0 := by
  intro h
  obtain ⟨c, hc, _, rest, hr⟩ := dec_inv (b := []) (by simp [isB]) h
  have := congrArg List.length hr
  have := (one_len hc).1
  simp at *
  omega
/-- A beginning of a record that is not all of it is decoded by none. -/
theorem dec_short {c : S32} (hc : mayS c = true) (k : Nat) (hk : k < (oneS c).length) : (decF ((oneS c).take k)).2.2 ≠ 0 := by
  intro h
  obtain ⟨c2, hc2, _, rest, hr⟩ := dec_inv (fun x hx => one_isB hc x (List.mem_of_mem_take hx)) h
  have e : oneS c = oneS c2 ++ (rest ++ (oneS c).drop k) := by
    rw [← List.append_assoc, ← hr]
    exact (List.take_append_drop k (oneS c)).symm
  have h1 := dec_oneS hc []
  have h2 := dec_oneS hc2 (rest ++ (oneS c).drop k)
  rw [List.append_nil] at h1
  rw [← e, h1] at h2
  have h3 : ((oneS c).length : Int) = ((oneS c2).length : Int) := congrArg (fun x => x.2.1) h2
  have h4 := congrArg List.length hr
  rw [List.length_take, List.length_append] at h4
  omega
theorem torn : ∀ (l : List S32) (kk : Nat), l.all mayS = true → kk ≤ (l.flatMap oneS).length → ∃ (j : Nat) (tail : List Int), j ≤ l.length ∧ ((l.take j).flatMap oneS).length ≤ kk ∧ (∀ h : j < l.length, kk < ((l.take j).flatMap oneS).length + (oneS l[j]).length) ∧ (l.flatMap oneS).take kk = (l.take j).flatMap oneS ++ tail ∧ isB tail ∧ (decF tail).2.2 ≠ 0
  | [], kk, _, hk => ⟨0, [], by simp, by simp, fun h => by simp at h, by simp, by simp [isB], dec_nil⟩
  | c :: r, kk, hm, hk => by
    simp only [List.all_cons, Bool.and_eq_true] at hm
    by_cases h : kk < (oneS c).length
    · refine ⟨0, (oneS c).take kk, by simp, by simp, fun _ => by simpa using h, ?_, fun x hx => one_isB hm.1 x (List.mem_of_mem_take hx), dec_short hm.1 kk h⟩
      rw [List.flatMap_cons, List.take_append_of_le_length (by omega)]
      rfl
    · rw [List.flatMap_cons, List.length_append] at hk
      obtain ⟨j, tail, h1, h2, h3, h4, h5, h6⟩ := torn r (kk - (oneS c).length) hm.2 (by omega)
      refine ⟨j + 1, tail, by simpa using h1, ?_, fun hj => ?_, ?_, h5, h6⟩
      · rw [List.take_succ_cons, List.flatMap_cons, List.length_append]; omega
      · rw [List.take_succ_cons, List.flatMap_cons, List.length_append]
        have := h3 (by simpa using hj)
        simp only [List.getElem_cons_succ]
        omega
      · rw [List.take_succ_cons, List.flatMap_cons, List.flatMap_cons, List.append_assoc, ← h4, List.take_append]
        rw [List.take_of_length_le (by omega)]
/-- All that the law's function needs of a beginning. -/
theorem torn_scan (m : Nat) (hm : 1 ≤ m) (hm2 : m ≤ 1099511627777) (l : List S32) (ha : l.all mayS = true) (hl : l.length ≤ 1048576) (k : Nat) (hk : k ≤ (sealB (headB m) ++ l.flatMap oneS).length) (hk2 : ¬ k < (sealB (headB m)).length) :
    ∃ j : Nat, j ≤ l.length ∧ Ev (fun kk => record_Scan.f kk ((sealB (headB m) ++ l.flatMap oneS).take k)) ((m : Int), l.take j, (((sealB (headB m)).length + ((l.take j).flatMap oneS).length : Nat) : Int), 0) ∧
      (∀ i, (h : i < l.length) → i < j → (sealB (headB m)).length + ((l.take i).flatMap oneS).length + (oneS l[i]).length ≤ k) ∧ (∀ h : j < l.length, k < (sealB (headB m)).length + ((l.take j).flatMap oneS).length + (oneS l[j]).length) := by
  have hlen := headF_len (m : Int)
  rw [headF_nat hm hm2] at hlen
  simp only at hlen
  have hfl := flat_len ha
  rw [List.length_append] at hk
  obtain ⟨j, tail, h1, h2, h3, h4, h5, h6⟩ := torn l (k - (sealB (headB m)).length) ha (by omega)
  have hja : (l.take j).all mayS = true := List.all_eq_true.2 fun x hx => List.all_eq_true.1 ha x (List.mem_of_mem_take hx)
  have e : (sealB (headB m) ++ l.flatMap oneS).take k = sealB (headB m) ++ ((l.take j).flatMap oneS ++ tail) := by
    rw [← h4, List.take_append, List.take_of_length_le (by omega)]
  refine ⟨j, h1, ?_, fun i h hij => ?_, fun h => ?_⟩
  · rw [e]
    refine ev_scan m hm hm2 (l.take j) tail hja h5 h6 ?_
    rw [← e, List.length_take, List.length_append]
    omega
  · have hs : l.take j = l.take i ++ l[i] :: (l.take j).drop (i + 1) := by
      have hi : i < (l.take j).length := by rw [List.length_take]; omega
      have := (List.take_append_drop i (l.take j)).symm
      rw [List.drop_eq_getElem_cons hi, List.take_take, Nat.min_eq_left (by omega)] at this
      rw [List.getElem_take] at this
      exact this
    rw [hs, List.flatMap_append, List.flatMap_cons, List.length_append, List.length_append] at h2
    omega
  · have := h3 h
    omega
theorem take_succ_flat (l : List S32) (i : Nat) (h : i < l.length) : ((l.take (i + 1)).flatMap oneS).length = ((l.take i).flatMap oneS).length + (oneS l[i]).length := by
  rw [List.take_succ_eq_append_getElem h, List.flatMap_append, List.length_append]
  simp
/-- The same, with the places where the records begin as a function. -/
theorem torn_pack (m : Nat) (hm : 1 ≤ m) (hm2 : m ≤ 1099511627777) (l : List S32) (ha : l.all mayS = true) (hl : l.length ≤ 1048576) (k : Nat) (hk : k ≤ (sealB (headB m)).length + (l.flatMap oneS).length) (hk2 : ¬ k < (sealB (headB m)).length) :
    ∃ (j : Nat) (F : Nat → Nat), j ≤ l.length ∧ F 0 = (sealB (headB m)).length ∧ Ev (fun kk => record_Scan.f kk ((sealB (headB m) ++ l.flatMap oneS).take k)) ((m : Int), l.take j, (F j : Int), 0) ∧
      (∀ i, (h : i < l.length) → F (i + 1) = F i + (oneS l[i]).length) ∧ (∀ i, (h : i < l.length) → i < j → F i + (oneS l[i]).length ≤ k) ∧ (∀ h : j < l.length, k < F j + (oneS l[j]).length) ∧ (∀ i, i ≤ j → F i ≤ k) := by
  obtain ⟨j, h1, h2, h3, h4⟩ := torn_scan m hm hm2 l ha hl k (by rw [List.length_append]; exact hk) hk2
  have step : ∀ i, (h : i < l.length) → (sealB (headB m)).length + ((l.take (i + 1)).flatMap oneS).length = (sealB (headB m)).length + ((l.take i).flatMap oneS).length + (oneS l[i]).length := fun i h => by rw [take_succ_flat l i h]; omega
  refine ⟨j, fun i => (sealB (headB m)).length + ((l.take i).flatMap oneS).length, h1, by simp, h2, step, h3, h4, fun i hi => ?_⟩
  match i, hi with
  | 0, _ => simp; omega
  | i + 1, hi =>
    have a := h3 i (by omega) (by omega)
    have b := step i (by omega)
    show (sealB (headB m)).length + ((l.take (i + 1)).flatMap oneS).length ≤ k
    omega
theorem ev_enc_one (c : S32) (h : mayS c = true) : Ev (fun k => record_Encode.f k [c]) (oneS c, 0) := by
  have := ev_enc [c] (by simp)
  rw [encF, if_pos (by simp [h])] at this
  simpa using this
end Go.Proofs.Ytgnhadbadhgdgaa
