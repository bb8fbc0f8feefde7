/- A record that was written is decoded; what is decoded is a record that was written so. Conditions: the bytes are bytes. -/
import Derived.Test.YtgnhadbadhgdgaaMathD
namespace Go.Proofs.Ytgnhadbadhgdgaa
open Go.RowKit Go.Proofs.YtgnhadbadhgdgaaW.PrintWords Go.Proofs.YtgnhadbadhgdgaaW.PrintLast Go.Proofs.YtgnhadbadhgdgaaW.PrintMore
open Prt Ext
set_option linter.unusedVariables false
set_option linter.unusedSimpArgs false

theorem textL_str (s : ByteArray) : strOfNums (textL s) = s := by
  unfold strOfNums textL
  apply ByteArray.ext
  apply Array.ext'
  simp [List.map_map]
  show List.map _ s.data.toList = s.data.toList
  conv => rhs; rw [← List.map_id s.data.toList]
  apply List.map_congr_left
  intro x _
  simp
theorem str_textL {l : List Int} (h : isB l) : textL (strOfNums l) = l := by
  unfold strOfNums textL
  simp [List.map_map]
  conv => rhs; rw [← List.map_id l]
  apply List.map_congr_left
  intro x hx
  have := h x hx
  simp
  omega
theorem may_f (k id : Int) (s : ByteArray) : PrB.record_May.f k id s = record_May.f k id s := rfl
theorem take_app {a b : List Int} {n : Nat} (h : n = a.length) : (a ++ b).take n = a := by rw [h]; simp
theorem drop_app {a b : List Int} {n : Nat} (h : n = a.length) : (a ++ b).drop n = b := by rw [h]; simp
theorem rdT_take {b : List Int} {at_ n : Nat} (h : at_ + n ≤ b.length) : rdT b at_ true (n : Int) = ((b.drop at_).take n, at_ + n, true) := by
  unfold rdT
  rw [if_pos ⟨rfl, by omega, by omega⟩]
  simp
theorem rdT_ok {b : List Int} {at_ : Nat} {ok : Bool} {n : Int} (h : (rdT b at_ ok n).2.2 = true) : ok = true ∧ 0 ≤ n ∧ n ≤ (b.length : Int) - at_ ∧ rdT b at_ ok n = ((b.drop at_).take n.toNat, at_ + n.toNat, true) := by
  unfold rdT at h ⊢
  split at h
  · rename_i hc
    rw [if_pos hc]
    obtain ⟨rfl, h1, h2⟩ := hc
    exact ⟨rfl, h1, h2, rfl⟩
  · cases h
/-- A record in its parts. -/
def recB (k id : Nat) (s : ByteArray) : List Int := 67 :: varL (bodyB k id s).length ++ bodyB k id s
theorem oneB_eq (k id : Nat) (s : ByteArray) : oneB k id s = recB k id s ++ sum4 (crcN (recB k id s)) := rfl
theorem dec_one (k id : Nat) (s : ByteArray) (rest : List Int) (hid : id < 2 ^ 49) (hs : s.size ≤ 1000000) (hm : record_May.f (k : Int) (id : Int) s = some true) :
    decF (oneB k id s ++ rest) = (((k : Int), (id : Int), s), ((oneB k id s).length : Int), 0) := by
  obtain ⟨n, hn⟩ : ∃ n, (bodyB k id s).length = n := ⟨_, rfl⟩
  have hbl := body_len k id s
  have hvl := varL_len id
  have hb : oneB k id s ++ rest = 67 :: (varL n ++ (bodyB k id s ++ (sum4 (crcN (recB k id s)) ++ rest))) := by
    rw [oneB_eq, recB, hn]
    simp [List.append_assoc]
  have h0 : (oneB k id s ++ rest).drop 0 = 67 :: (varL n ++ (bodyB k id s ++ (sum4 (crcN (recB k id s)) ++ rest))) := by rw [hb]; rfl
  have h1 := drop_next h0
  have e1 := rdB_cons h0
  have e2 := num_read (at_ := 1) h1 (by omega)
  have h2 : (oneB k id s ++ rest).drop (1 + (varL n).length) = bodyB k id s ++ (sum4 (crcN (recB k id s)) ++ rest) := by
    rw [← List.drop_drop, h1]; exact drop_app rfl
  have hlen : 1 + (varL n).length + n ≤ (oneB k id s ++ rest).length := by
    rw [hb]; simp only [List.length_cons, List.length_append]; omega
  have e3 := rdT_take hlen
  rw [h2, take_app hn.symm] at e3
  have h3 : (oneB k id s ++ rest).drop (1 + (varL n).length + n) = sum4 (crcN (recB k id s)) ++ rest := by
    rw [← List.drop_drop, h2]; exact drop_app hn.symm
  have ht : (oneB k id s ++ rest).take (1 + (varL n).length + n) = recB k id s := by
    have e : oneB k id s ++ rest = recB k id s ++ (sum4 (crcN (recB k id s)) ++ rest) := by rw [oneB_eq, List.append_assoc]
    rw [e]
    refine take_app ?_
    rw [recB, hn]; simp only [List.length_append, List.length_cons, hn]; omega
  have e4 := sum_read' h3
  -- the body
  have b0 : (bodyB k id s).drop 0 = (k : Int) :: (varL id ++ textL s) := rfl
  have b1 := drop_next b0
  have f1 := rdB_cons b0
  have f2 := num_read (at_ := 1) b1 hid
  have b2 : (bodyB k id s).drop (1 + (varL id).length) = textL s := by
    rw [← List.drop_drop, b1]
    have := drop_app (a := varL id) (b := textL s) rfl
    exact this
  have htl := textL_len s
  have f3 := rdT_take (b := bodyB k id s) (at_ := 1 + (varL id).length) (n := s.size) (by omega)
  rw [b2, ← htl, List.take_length] at f3
  have en : ((bodyB k id s).length : Int) - ((1 + (varL id).length : Nat) : Int) = ((textL s).length : Int) := by omega
  have hol : (oneB k id s).length = 1 + (varL n).length + n + 4 := by
    rw [oneB_eq, List.length_append, recB, hn]
    simp only [List.length_append, List.length_cons, hn, sum4, List.length_nil]
    omega
  unfold decF
  simp only [e1, e2, e3, f1, f2, en, f3, ht, e4, textL_str, Nat.zero_add]
  rw [if_pos ⟨by first | rfl | trivial, by first | rfl | trivial, by first | rfl | trivial, hm⟩, hol]
theorem dec_no (b : List Int) : (decF b).2.2 = 0 ∨ decF b = ((0, 0, { data := #[] }), 0, 30) := by
  unfold decF
  simp only
  split
  · exact .inl rfl
  · exact .inr rfl
/-- What is decoded is a record that was written so. -/
theorem dec_inv {b : List Int} (hb : isB b) (h : (decF b).2.2 = 0) : ∃ c : S32, mayS c = true ∧ decF b = ((c.f0, c.f1, c.f2), ((oneS c).length : Int), 0) ∧ ∃ rest, b = oneS c ++ rest := by
  obtain ⟨X, hX⟩ : ∃ X, rdB b 0 true = X := ⟨_, rfl⟩
  obtain ⟨Y, hY⟩ : ∃ Y, numF b 7 0 0 X.2.1 X.2.2 = Y := ⟨_, rfl⟩
  obtain ⟨Z, hZ⟩ : ∃ Z, rdT b Y.2.1 Y.2.2 Y.1 = Z := ⟨_, rfl⟩
  obtain ⟨X2, hX2⟩ : ∃ X2, rdB Z.1 0 true = X2 := ⟨_, rfl⟩
  obtain ⟨Y2, hY2⟩ : ∃ Y2, numF Z.1 7 0 0 X2.2.1 X2.2.2 = Y2 := ⟨_, rfl⟩
  obtain ⟨T, hT⟩ : ∃ T, rdT Z.1 Y2.2.1 Y2.2.2 ((Z.1.length : Int) - Y2.2.1) = T := ⟨_, rfl⟩
  obtain ⟨U, hU⟩ : ∃ U, sumF b (crcN (b.take Z.2.1)) 4 Z.2.1 Z.2.2 = U := ⟨_, rfl⟩
  have hd : decF b = (if U.2 = true ∧ T.2.2 = true ∧ X.1 = 67 ∧ PrB.record_May.f X2.1 Y2.1 (strOfNums T.1) = some true then ((X2.1, Y2.1, strOfNums T.1), (U.1 : Int), 0) else ((0, 0, { data := #[] }), 0, 30)) := by
    unfold decF
    simp only [hX, hY, hZ, hX2, hY2, hT, hU]
  rw [hd] at h ⊢
  split at h
  case isFalse => cases h
  case isTrue hc =>
  rw [if_pos hc]
  obtain ⟨hu, ht, hx, hm⟩ := hc
  -- the sum was right: so all was there
  have hs := sum_inv (b := b) (s := (crcN (b.take Z.2.1) : Int)) (at_ := Z.2.1) (ok := Z.2.2) (by rw [hU]; exact hu)
  obtain ⟨hz, rest, hr, hue⟩ := hs
  rw [hU] at hue
  obtain ⟨hy, hn0, hn1, hze⟩ := rdT_ok (b := b) (at_ := Y.2.1) (ok := Y.2.2) (n := Y.1) (by rw [hZ]; exact hz)
  rw [hZ] at hze
  obtain ⟨hxo, m, hm1, hm2, hm3, hm4, hm5⟩ := num_inv hb (at_ := X.2.1) (ok := X.2.2) (n := Y.1) (at2 := Y.2.1) (by rw [hY]; exact Prod.ext rfl (Prod.ext rfl hy))
  obtain ⟨_, x, t, hx1, hx2⟩ := rdB_ok (b := b) (at_ := 0) (ok := true) (by rw [hX]; exact hxo)
  rw [hX] at hx2
  have hbT : isB Z.1 := by rw [hze]; exact fun y hy => hb y (List.mem_of_mem_drop (List.mem_of_mem_take hy))
  obtain ⟨hy2, hk0, hk1, hte⟩ := rdT_ok (b := Z.1) (at_ := Y2.2.1) (ok := Y2.2.2) (n := (Z.1.length : Int) - Y2.2.1) (by rw [hT]; exact ht)
  rw [hT] at hte
  obtain ⟨hxo2, m2, g1, g2, g3, g4, g5⟩ := num_inv hbT (at_ := X2.2.1) (ok := X2.2.2) (n := Y2.1) (at2 := Y2.2.1) (by rw [hY2]; exact Prod.ext rfl (Prod.ext rfl hy2))
  obtain ⟨_, x2, t2, hz1, hz2⟩ := rdB_ok (b := Z.1) (at_ := 0) (ok := true) (by rw [hX2]; exact hxo2)
  rw [hX2] at hz2
  -- the parts
  have eX : X.1 = x ∧ X.2.1 = 1 := by rw [hx2]; exact ⟨rfl, rfl⟩
  have eX2 : X2.1 = x2 ∧ X2.2.1 = 1 := by rw [hz2]; exact ⟨rfl, rfl⟩
  rw [eX.2] at hm3 hm4
  rw [eX2.2] at g3 g4
  have hT1 : T.1 = Z.1.drop Y2.2.1 := by
    rw [hte]
    refine List.take_of_length_le ?_
    rw [List.length_drop]; omega
  have hTB : isB T.1 := by rw [hT1]; exact fun y hy => hbT y (List.mem_of_mem_drop hy)
  have hx2b : 0 ≤ x2 ∧ x2 < 256 := hbT x2 (by have := List.drop_zero (l := Z.1); rw [hz1] at this; rw [← this]; exact List.mem_cons_self)
  obtain ⟨kd, rfl⟩ := Int.eq_ofNat_of_zero_le hx2b.1
  have hZ1 : Z.1 = bodyB kd m2 (strOfNums T.1) := by
    have a0 : Z.1 = (kd : Int) :: t2 := by have := List.drop_zero (l := Z.1); rw [hz1] at this; exact this.symm
    have a1 : Z.1.drop 1 = t2 := by rw [a0]; rfl
    rw [a1, ← hT1] at g3
    rw [bodyB, str_textL hTB, a0, g3]
    rfl
  have hZl : Z.1.length = m := by
    rw [hze]
    show ((b.drop Y.2.1).take Y.1.toNat).length = m
    rw [List.length_take, List.length_drop, hm1, Int.toNat_natCast]
    omega
  have hZ2 : Z.2.1 = Y.2.1 + m := by rw [hze, hm1]; rfl
  have hb0 : b = 67 :: t := by
    have := List.drop_zero (l := b)
    rw [hx1] at this
    rw [← this, ← eX.1, hx]
  have hb1 : b.drop 1 = t := by rw [hb0]; rfl
  have hb2 : b.drop Y.2.1 = Z.1 ++ b.drop Z.2.1 := by
    rw [hZ2, ← List.drop_drop, hze, hm1, Int.toNat_natCast]
    exact (List.take_append_drop m _).symm
  have hbt : b.take Z.2.1 = recB kd m2 (strOfNums T.1) := by
    have e : b = recB kd m2 (strOfNums T.1) ++ b.drop Z.2.1 := by
      rw [recB, ← hZ1, hZl]
      conv => lhs; rw [hb0, ← hb1, hm3, hb2]
      simp [List.append_assoc]
    have el : Z.2.1 = (recB kd m2 (strOfNums T.1)).length := by
      rw [recB, ← hZ1, hZl]
      simp only [List.length_append, List.length_cons, hZl]
      omega
    rw [e]
    exact take_app el
  refine ⟨⟨X2.1, Y2.1, strOfNums T.1⟩, ?_, ?_, rest, ?_⟩
  · unfold mayS
    rw [show record_May.f X2.1 Y2.1 (strOfNums T.1) = some true from hm]
    rfl
  · have el : (oneS ⟨X2.1, Y2.1, strOfNums T.1⟩).length = U.1 := by
      unfold oneS
      simp only [eX2.1, g1, Int.toNat_natCast, hue]
      rw [oneB_eq, List.length_append, ← hbt, List.length_take]
      have : (sum4 (crcN (b.take Z.2.1) : Int)).length = 4 := rfl
      rw [this]
      have h4 : 4 ≤ (b.drop Z.2.1).length := by rw [hr, List.length_append, this]; omega
      rw [List.length_drop] at h4
      omega
    rw [el]
  · unfold oneS
    simp only [eX2.1, g1, Int.toNat_natCast]
    rw [oneB_eq, ← hbt]
    conv => lhs; rw [← List.take_append_drop Z.2.1 b, hr]
    rw [List.append_assoc]
end Go.Proofs.Ytgnhadbadhgdgaa
