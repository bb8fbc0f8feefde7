/- The contracts of record.Head and record.one: what they return is a new row of bytes. Conditions: the number and the text are in their ranges. -/
import Derived.Test.YtgnhadbadhgdgaaExtB
import Derived.Lib.AppendStr
namespace Go.Proofs.Ytgnhadbadhgdgaa.Ext
open Go.RowKit Go.Proofs.YtgnhadbadhgdgaaW.PrintWords Go.Proofs.YtgnhadbadhgdgaaW.PrintLast Go.Proofs.YtgnhadbadhgdgaaW.PrintMore
set_option linter.unusedVariables false
set_option linter.unusedSimpArgs false

theorem varF_isB : ∀ (f n : Nat), n < 2 ^ (7 * f + 8) → isB (varF f n)
  | 0, n, h => by intro x hx; simp [varF] at hx; subst hx; simp at h; omega
  | f + 1, n, h => by
    intro x hx
    rw [varF] at hx
    split at hx
    · simp at hx; omega
    · rcases List.mem_cons.1 hx with rfl | hx
      · omega
      · refine varF_isB f (n / 128) ?_ x hx
        rw [Nat.div_lt_iff_lt_mul (by decide), show (128 : Nat) = 2 ^ 7 from rfl, ← Nat.pow_add]
        exact h
theorem varL_isB (n : Nat) (h : n < 9223372036854775808) : isB (varL n) := varF_isB 9 n (by omega)
theorem isB_app {a b : List Int} (ha : isB a) (hb : isB b) : isB (a ++ b) := fun x hx => by
  rcases List.mem_append.1 hx with h | h
  · exact ha x h
  · exact hb x h
theorem isB_one {c : Int} (h0 : 0 ≤ c) (h1 : c < 256) : isB [c] := fun x hx => by rw [List.mem_singleton.1 hx]; exact ⟨h0, h1⟩

/-- A head's bytes. -/
def headB (n : Nat) : List Int := 72 :: varL n
def sealB (l : List Int) : List Int := l ++ sum4 (crcN l)
theorem varL_len (n : Nat) : (varL n).length ≤ 10 := varF_len 9 n

theorem own_form2 {w : World} {base e size n : Nat} {v : Value} {xs : List Value} (h : w.ownsRow base e size v n xs) : ∃ ao c L, v = .slice ao L c ∧ Sd (L = n) := by
  obtain ⟨ao, c, rfl⟩ := own_form h
  exact ⟨ao, c, n, rfl, ⟨rfl⟩⟩
theorem wr_new {w : World} {g T : Nat} (h : w.heap[g]? = some (.cells #[.slice none 0 0] T (0, 0))) (base : Nat) : WrAt T g base [] w := ⟨_, h, own_nil _ _ _ _⟩

set_option maxRecDepth 100000 in
set_option maxHeartbeats 1000000 in
theorem head_yes (n : Nat) (w : World) (h0 : 1 ≤ n) (h1 : n ≤ 1099511627777) :
    Calls Try.prog 12 #[.int .i64 n] w fun e w' => ∃ v', e = .returned (.tuple #[v', .int .i64 0]) ∧ w'.ownsRow w.heap.size 5 1 v' (sealB (headB n)).length (bytesV (sealB (headB n))) ∧ Below w.heap.size w w' := by
  go_enter Try.func12, Try.ntmps12
  go_wp2_with (first | ((with_reducible refine gate_dst (N := 4) rfl ?_); refine box_event ?hg (N := 4) ?hd (cs := #[.slice none 0 0]) (t := 53) ?hr ?_; (case hd => rfl); (case hg => rfl); (case hr => first | (go_simp; done) | (go_simp; rfl)); intro g hg w1 hbox hb; have BK := Sd.mk hbox; have HB := Sd.mk (And.intro hg hb); clear hbox hb hg))
  have hgl : g < w1.heap.size := blk_lt BK.out
  have hgs : w.heap.size ≤ g := by rw [HB.out.1]; exact Nat.le_refl _
  refine (byte_any 53 g w1.heap.size [] 72 w1 (wr_new BK.out _) hgl (Nat.le_refl _) (by simp)).mono ?_
  rintro e w2 ⟨rfl, hw, hf⟩
  have HW := Sd.mk hw
  have HF := Sd.mk hf
  clear hw hf
  go_wp2_with (fail)
  refine (number_any 53 g w1.heap.size _ n w2 HW.out hgl HF.out.size (by simp) (by omega)).mono ?_
  rintro e w3 ⟨rfl, hw, hf⟩
  have HW3 := Sd.mk hw
  have HF3 := Sd.mk (HF.out.trans hf)
  clear hw hf HW HF
  go_wp2_with (fail)
  have hlen := varL_len n
  refine (sealed_any 53 g w1.heap.size _ w3 HW3.out hgl HF3.out.size (by simp; omega) (isB_app (isB_one (by omega) (by omega)) (varL_isB n (by omega)))).mono ?_
  rintro e w4 ⟨v', rfl, ho, hf⟩
  have e1 : ([] ++ [72] ++ varL n : List Int) = headB n := rfl
  rw [e1] at ho
  have HO := Sd.mk ho
  have HF4 := Sd.mk (HF3.out.trans hf)
  obtain ⟨ao, cp', L, rfl, hL⟩ := own_form2 ho
  clear ho hf HW3 HF3 e1
  go_wp2
  go_ret2
  exact ⟨.slice ao L cp', rfl, own_less HO.out (by omega), HB.out.2.trans (HF4.out.below (by omega) hgs)⟩

set_option maxRecDepth 100000 in
set_option maxHeartbeats 1000000 in
theorem head_no (n : Int) (w : World) (h : n < 1 ∨ 1099511627777 < n) :
    Calls Try.prog 12 #[.int .i64 n] w fun e w' => e = .returned (.tuple #[.slice none 0 0, .int .i64 2]) ∧ w' = w := by
  have hb : (decide (n < 1) || decide (1099511627777 < n)) = true := by
    rcases h with h | h <;> simp [h]
  go_enter Try.func12, Try.ntmps12
  rcases h with h | h
  · go_wp2
    go_ret2
    exact ⟨rfl, rfl⟩
  · have h1 : ¬ n < 1 := by omega
    go_wp2
    go_ret2
    exact ⟨rfl, rfl⟩

/-- A change's bytes. -/
def textL (s : ByteArray) : List Int := s.data.toList.map (fun b => (b.toNat : Int))
def bodyB (k id : Nat) (s : ByteArray) : List Int := (k : Int) :: varL id ++ textL s
def oneB (k id : Nat) (s : ByteArray) : List Int := sealB (67 :: varL (bodyB k id s).length ++ bodyB k id s)
theorem textL_isB (s : ByteArray) : isB (textL s) := fun x hx => by
  obtain ⟨b, _, rfl⟩ := List.mem_map.1 hx
  have := b.toNat_lt
  omega
theorem textL_len (s : ByteArray) : (textL s).length = s.size := by simp [textL]

end Go.Proofs.Ytgnhadbadhgdgaa.Ext
