/- The journal's writer: contracts of its methods byte and number. Conditions: what is written so far is short (2^40 bytes). -/
import Derived.Test.YtgnhadbadhgdgaaProg
import Derived.WalkKit
import Derived.KernelRfl
import Derived.OwnWalk
import Derived.WideLaws
import Derived.WalkSpells
import Derived.Laws.BitsAllLaws
import Derived.Outline
import Derived.Deep.LoopGhost
import Derived.WalkLawsBesides
namespace Go.Proofs.Ytgnhadbadhgdgaa.Ext
open Go.RowKit
set_option linter.unusedVariables false
set_option linter.unusedSimpArgs false

/-- A fact kept from the walk. -/
structure Sd (p : Prop) : Prop where mk :: (out : p)

theorem info5 : (Try.prog.info? 5).map (fun i => (i.zero, i.size, i.bytes)) = some (some (.int .u8 0), 1, 1) := by kernel_rfl

/-- Below base the world is as it was, but for block g. -/
structure FrG (base g : Nat) (w w' : World) : Prop where
  os : w'.os = w.os
  tape : w'.tape = w.tape
  output : w'.output = w.output
  size : w.heap.size ≤ w'.heap.size
  block : ∀ k, k < base → k ≠ g → w'.heap[k]? = w.heap[k]?
theorem FrG.refl (base g : Nat) (w : World) : FrG base g w w := ⟨rfl, rfl, rfl, Nat.le_refl _, fun _ _ _ => rfl⟩
theorem FrG.trans {base g : Nat} {a b c : World} (h : FrG base g a b) (k : FrG base g b c) : FrG base g a c :=
  ⟨k.os.trans h.os, k.tape.trans h.tape, k.output.trans h.output, Nat.le_trans h.size k.size, fun i hi hn => (k.block i hi hn).trans (h.block i hi hn)⟩
theorem FrG.mono {base base' g : Nat} {w w' : World} (h : FrG base g w w') (hb : base' ≤ base) : FrG base' g w w' := ⟨h.os, h.tape, h.output, h.size, fun k hk hn => h.block k (by omega) hn⟩
theorem FrG.below {base g B : Nat} {w w' : World} (h : FrG base g w w') (hB : B ≤ base) (hg : B ≤ g) : Below B w w' := ⟨h.os, h.tape, h.output, h.size, fun k hk => h.block k (by omega) (by omega)⟩
theorem FrG.of_below {base g : Nat} {w w' : World} (h : Below base w w') : FrG base g w w' := ⟨h.os, h.tape, h.output, h.size, fun k hk _ => h.block k hk⟩

def bytesV (l : List Int) : List Value := l.map (Value.int .u8)

/-- A writer lies at block g (its type T): what it has written is l; its row is none below base. -/
def WrAt (T g base : Nat) (l : List Int) (w : World) : Prop :=
  ∃ v, w.heap[g]? = some (.cells #[v] T (0, 0)) ∧ w.ownsRow base 5 1 v l.length (bytesV l)

theorem wr_cell {T g : Nat} {w : World} {v : Value} (h : w.heap[g]? = some (.cells #[v] T (0, 0))) : w.cell? ⟨g, 0, none⟩ = some v ∧ w.frozen? ⟨g, 0, none⟩ = false := by
  constructor <;> simp [World.cell?, World.frozen?, h]
theorem wr_lt {g : Nat} {w : World} {o : Obj} (h : w.heap[g]? = some o) : g < w.heap.size := by
  by_cases hl : g < w.heap.size
  · exact hl
  · rw [Array.getElem?_eq_none (by omega)] at h; cases h
theorem own_ge {w : World} {base e size n : Nat} {v : Value} {xs : List Value} (h : w.ownsRow base e size v n xs) (k : Nat) (hk : v.ownBlock = some k) : base ≤ k := by
  rcases h.2 with ⟨rfl, _⟩ | ⟨g, cap, cur, rfl, hg, _⟩
  · simp [Value.ownBlock] at hk
  · have : g = k := by simpa [Value.ownBlock] using hk
    omega
theorem own_block_move {w w1 : World} {base e size n : Nat} {v : Value} {xs : List Value} (h : w.ownsRow base e size v n xs) (hm : ∀ k, v.ownBlock = some k → w1.heap[k]? = w.heap[k]?) : w1.ownsRow base e size v n xs := by
  obtain ⟨h1, h2⟩ := h
  refine ⟨h1, ?_⟩
  rcases h2 with h2 | ⟨g, cap, cur, rfl, hg, hh, r⟩
  · exact .inl h2
  · exact .inr ⟨g, cap, cur, rfl, hg, (hm g (by simp [Value.ownBlock])).trans hh, r⟩

theorem own_form {w : World} {base e size n : Nat} {v : Value} {xs : List Value} (h : w.ownsRow base e size v n xs) : ∃ ao c, v = .slice ao n c := by
  rcases h with ⟨_, ⟨rfl, h2⟩ | ⟨g, cap, cur, rfl, _⟩⟩
  · exact ⟨none, 0, by simp_all⟩
  · exact ⟨_, _, rfl⟩
theorem bytesV_app (l m : List Int) : bytesV (l ++ m) = bytesV l ++ bytesV m := by simp [bytesV]
/-- What a writer holds behind an append of its row and the store of the new row. -/
theorem wr_store {T g base n : Nat} {l : List Int} {v v' : Value} {w w1 : World} (hh : w.heap[g]? = some (.cells #[v] T (0, 0))) (hg : g < base) (hb : base ≤ w.heap.size)
    (hown : w.ownsRow base 5 1 v n (bytesV l)) {w0 : World} (hw0 : Below w.heap.size w w0) {l' : List Int} (hown' : w1.ownsRow base 5 1 v' l'.length (bytesV l')) (hgrow : w0.grownBy w1 v.ownBlock) :
    WrAt T g base l' (w1.setCell ⟨g, 0, none⟩ v') ∧ FrG base g w (w1.setCell ⟨g, 0, none⟩ v') ∧ w1.cell? ⟨g, 0, none⟩ = some v ∧ w1.frozen? ⟨g, 0, none⟩ = false := by
  have hlt := wr_lt hh
  have hne : some g ≠ v.ownBlock := fun e => by have := own_ge hown g e.symm; omega
  have h0 : w0.heap.size = w0.heap.size := rfl
  have hh1 : w1.heap[g]? = some (.cells #[v] T (0, 0)) := (hgrow.block g (by have := hw0.size; omega) hne).trans ((hw0.block g hlt).trans hh)
  obtain ⟨hc1, hf1⟩ := wr_cell hh1
  refine ⟨⟨v', ?_, ?_⟩, ⟨(hgrow.os.trans hw0.os), (hgrow.tape.trans hw0.tape), (hgrow.output.trans hw0.output), ?_, fun k hk hn => ?_⟩, hc1, hf1⟩
  · simp [World.setCell, Array.getElem?_modify, hh1]
  · refine own_block_move hown' (fun k hk => Below.heap_setCell _ _ _ _ ?_)
    have := own_ge hown' k hk
    show k ≠ g
    omega
  · have := hgrow.size
    have := hw0.size
    simp [World.setCell]
    omega
  · rw [Below.heap_setCell _ _ _ _ hn, hgrow.block k (by have := hw0.size; omega) (fun e => by have := own_ge hown k e.symm; omega), hw0.block k (by omega)]
set_option maxHeartbeats 1000000 in
theorem byte_any (T g base : Nat) (l : List Int) (c : Int) (w : World) (hw : WrAt T g base l w) (hg : g < base) (hb : base ≤ w.heap.size) (hl : l.length ≤ 1099511627776) :
    Calls Try.prog 29 #[.pointer (some ⟨g, 0, none⟩), .int .u8 c] w fun e w' => e = .returned (.tuple #[]) ∧ WrAt T g base (l ++ [c]) w' ∧ FrG base g w w' := by
  obtain ⟨v, hh, hown⟩ := hw
  obtain ⟨i0, hi, hz0, hz1, hz2⟩ := info_parts info5
  obtain ⟨hc, hf⟩ := wr_cell hh
  have hlt := wr_lt hh
  have HOWN := Sd.mk hown
  have HH := Sd.mk hh
  clear hown hh
  go_enter Try.func29, Try.ntmps29
  go_wp2_with (first
    | (at_builtin; refine wpList_append_own _ rfl _ _ 24 rfl base 5 i0 (.int .u8 0) 1 1 Try.underlying24 hi hz0 hz1 hz2 rfl (by decide) _ _ _ rfl (HOWN.out.alloc _) ⟨w.heap.size, 0, none⟩ 1 1 [.int .u8 c] rfl rfl ?c1 ?c2 ?c3 ?c4 ?c5 ?_))
  case c1 => exact cell_one_new _ _ _
  case c2 => intro u hu; simp at hu; subst hu; rfl
  case c3 => unfold maxLen; omega
  case c4 => omega
  case c5 => simp; omega
  intro v' w1 hown' hgrow _
  have hown2 : w1.ownsRow base 5 1 v' (l ++ [c]).length (bytesV (l ++ [c])) := by
    rw [bytesV_app, List.length_append]; exact hown'
  obtain ⟨R1, R2, hc1, hf1⟩ := wr_store HH.out hg hb HOWN.out ((Below.refl _ _).alloc (Nat.le_refl _) _) hown2 hgrow
  have RR := Sd.mk (And.intro R1 R2)
  obtain ⟨ao, cp, hv'⟩ := own_form hown2
  clear R1 R2 hown' hown2 hgrow HOWN HH hc hf
  subst hv'
  go_wp2
  go_end0
  exact ⟨rfl, by have h := RR.out; rw [List.length_append] at h; exact h⟩

/-- A number in groups of seven bits, the lowest first. -/
def varF : Nat → Nat → List Int
  | 0, n => [(n : Int)]
  | f + 1, n => if n < 128 then [(n : Int)] else ((n % 128 + 128 : Nat) : Int) :: varF f (n / 128)
def varL (n : Nat) : List Int := varF 9 n
theorem varF_len : ∀ f n, (varF f n).length ≤ f + 1 := by
  intro f
  induction f with
  | zero => intro n; simp [varF]
  | succ f ih =>
    intro n
    rw [varF]
    split
    · simp
    · have := ih (n / 128); simp; omega
theorem or_128 : ∀ x : Fin 256, bits .or .u8 ((x.val : Nat) : Int) 128 = ((x.val % 128 + 128 : Nat) : Int) := by decide +kernel

set_option maxRecDepth 100000 in
set_option maxHeartbeats 2000000 in
theorem number_any (T g base : Nat) (l : List Int) (n : Nat) (w : World) (hw : WrAt T g base l w) (hg : g < base) (hb : base ≤ w.heap.size) (hl : l.length ≤ 1099511627000) (hn : n < 9223372036854775808) :
    Calls Try.prog 30 #[.pointer (some ⟨g, 0, none⟩), .int .i64 n] w fun e w' => e = .returned (.tuple #[]) ∧ WrAt T g base (l ++ varL n) w' ∧ FrG base g w w' := by
  have HW := Sd.mk hw
  have HN := Sd.mk hn
  clear hw hn
  go_enter Try.func30, Try.ntmps30
  go_wp2
  go_loopg [1] 10 (fun gg s1 wr => ∃ (m f : Nat) (l' : List Int), s1 = .int .i64 (m : Int) ∧ Sd (gg = f + 1) ∧ Sd (m < 2 ^ (7 * f)) ∧ Sd (l' ++ varF f m = l ++ varL n) ∧ Sd (l'.length + f ≤ l.length + 9) ∧ Sd (WrAt T g base l' wr) ∧ Sd (FrG base g w wr))
  case atStart => exact ⟨n, 9, l, rfl, ⟨rfl⟩, ⟨by have := HN.out; omega⟩, ⟨rfl⟩, ⟨by omega⟩, HW, ⟨FrG.refl _ _ _⟩⟩
  case round =>
    obtain ⟨m, f, l', rfl, HG, HM, HV, HL, HWr, HF⟩ := hrel
    by_cases hlt : m < 128
    · have hv : varF f m = [(m : Int)] := by
        cases f with
        | zero => rfl
        | succ f => rw [varF, if_pos hlt]
      have HV2 := Sd.mk (show l' ++ [(m : Int)] = l ++ varL n by rw [← hv]; exact HV.out)
      have HS := Sd.mk HF.out.size
      have hm0 : (0 : Int) ≤ (m : Int) := by omega
      have hm1 : (m : Int) < 128 := by omega
      clear hv
      go_wp2_with (fail)
      refine (byte_any T g base l' (m : Int) _ HWr.out hg (Nat.le_trans hb HS.out) (by have := HL.out; omega)).mono ?_
      rintro e w2 ⟨rfl, h1, h2⟩
      have RR := Sd.mk (And.intro h1 h2)
      clear h1 h2
      go_wp2
      go_end0
      exact ⟨rfl, by rw [← HV2.out]; exact RR.out.1, HF.out.trans RR.out.2⟩
    · obtain ⟨f, rfl⟩ : ∃ f', f = f' + 1 := by
        cases f with
        | zero => have := HM.out; omega
        | succ f => exact ⟨f, rfl⟩
      have hv : varF (f + 1) m = ((m % 128 + 128 : Nat) : Int) :: varF f (m / 128) := by rw [varF, if_neg hlt]
      have HV2 := Sd.mk (show (l' ++ [((m % 128 + 128 : Nat) : Int)]) ++ varF f (m / 128) = l ++ varL n by
        rw [List.append_assoc]; show l' ++ (((m % 128 + 128 : Nat) : Int) :: varF f (m / 128)) = _; rw [← hv]; exact HV.out)
      have HS := Sd.mk HF.out.size
      have HO := Sd.mk (show bits .or .u8 ((m : Int) % 256) 128 = ((m % 128 + 128 : Nat) : Int) by
        have h := or_128 ⟨m % 256, by omega⟩
        simp only at h
        rw [show ((m : Int) % 256) = ((m % 256 : Nat) : Int) by omega, h]
        congr 1; omega)
      have hm0 : (0 : Int) ≤ (m : Int) := by omega
      have hm1 : (128 : Int) ≤ (m : Int) := by omega
      clear hv
      go_wp2_with (fail)
      rw [HO.out]
      refine (byte_any T g base l' _ _ HWr.out hg (Nat.le_trans hb HS.out) (by have := HL.out; omega)).mono ?_
      rintro e w2 ⟨rfl, h1, h2⟩
      have HW2 := Sd.mk h1
      have HF2 := Sd.mk (HF.out.trans h2)
      clear h1 h2 HO
      go_wp2
      go_roundg (f + 1)
      case measure => have := HG.out; omega
      case rel =>
        refine ⟨m / 128, f, l' ++ [((m % 128 + 128 : Nat) : Int)], by go_num, ⟨rfl⟩, ⟨?_⟩, HV2, ⟨?_⟩, HW2, HF2⟩
        · have h := HM.out
          rw [show 7 * (f + 1) = 7 * f + 7 by omega, Nat.pow_add] at h
          rw [Nat.div_lt_iff_lt_mul (by decide)]
          exact h
        · have := HL.out
          simp
          omega
end Go.Proofs.Ytgnhadbadhgdgaa.Ext
