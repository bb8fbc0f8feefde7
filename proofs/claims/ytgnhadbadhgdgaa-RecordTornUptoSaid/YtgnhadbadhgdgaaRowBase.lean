/- What the rows of this seat share: how a list of changes, a change, bytes and numbers come in, and what the bound on all that comes in says of a list's length. -/
import Derived.Test.YtgnhadbadhgdgaaRows
import Derived.Test.YtgnhadbadhgdgaaPrt0
import Derived.WalkKit
import Derived.ProofKit
import Derived.OpenShut
import Derived.JoinedCond
import Derived.ShutString
import Derived.Carry
import Derived.Deep.Slices
import Derived.Deep.Fields
import Derived.ChangeSlices
import Derived.ChangeSame
import Derived.Lib.SmallJoins
namespace Go.Proofs.Ytgnhadbadhgdgaa
open Go.ChangeShapes Go.WideShapes Go.ChangeAt Go.RowKit Go.Joins Go.Deep
open Go.Proofs.YtgnhadbadhgdgaaW.PrintWords Prt
set_option linter.unusedVariables false
theorem own : ownKnob Try.prog.godebug = none := by kernel_rfl
theorem laidOut : laidOutB Try.prog = true := by kernel_rfl

theorem list_of {α : Type} {P : Nat → α → Prop} : ∀ (n : Nat), (∀ i, i < n → ∃ c, P i c) → ∃ l : List α, l.length = n ∧ ∀ i c, l[i]? = some c → P i c
  | 0, _ => ⟨[], rfl, fun i c h => by simp at h⟩
  | n + 1, h => by
    obtain ⟨l, hl, hp⟩ := list_of n (fun i hi => h i (by omega))
    obtain ⟨c, hc⟩ := h n (by omega)
    refine ⟨l ++ [c], by simp [hl], fun i x hx => ?_⟩
    rcases Nat.lt_or_ge i n with hi | hi
    · rw [List.getElem?_append_left (by omega)] at hx
      exact hp i x hx
    · have : i = n := by
        rcases Nat.eq_or_lt_of_le hi with e | e
        · exact e.symm
        · rw [List.getElem?_eq_none (by simp; omega)] at hx; cases hx
      subst this
      rw [List.getElem?_append_right (by omega), hl, Nat.sub_self] at hx
      simp at hx
      subst hx
      exact hc
theorem byte_wf {x : Int} (h : (Lit.int .u8 x).wf = true) : 0 ≤ x ∧ x < 256 := by
  simp only [Lit.wf, Bool.and_eq_true, decide_eq_true_eq] at h
  have h0 : IntKind.u8.min = 0 := by decide
  have h1 : IntKind.u8.max = 255 := by decide
  omega
theorem bulk_len {H : Type} : ∀ l : List (DataW H), l.length ≤ Rows.uptoBulkAll l := by
  intro l
  induction l with
  | nil => simp [Rows.uptoBulkAll]
  | cons x r ih =>
    have h1 : 1 ≤ Rows.uptoBulk x := by
      cases x with
      | lit l => cases l <;> simp [Rows.uptoBulk]
      | nil => simp [Rows.uptoBulk]
      | ptr d => simp [Rows.uptoBulk]
      | slice elems spare => simp [Rows.uptoBulk]
      | agg parts => simp [Rows.uptoBulk]
      | iface t d => simp [Rows.uptoBulk]
      | map entries => simp [Rows.uptoBulk]
      | held h => simp [Rows.uptoBulk]
    simp only [Rows.uptoBulkAll, List.length_cons]
    omega
section
variable {H : Type} {enc : TypeId × Value → H} {W : World}
/-- A change that came in. -/
theorem change_cells {fuel : Nat} {cs : List Value} {x : DataW H × List MemPlace} {base : Nat} {sp : Nat → Bool} {held : Bool} (h : DataW.trod enc Try.prog W base sp held fuel 32 cs = some x) :
    ∃ c : S32, cs = [.int .i64 c.f0, .int .i64 c.f1, .string c.f2] ∧ (Lit.int .i64 c.f0).wf = true ∧ (Lit.int .i64 c.f1).wf = true ∧ c.f2.size ≤ maxLen := by
  obtain ⟨ys, n, _, _, hlen, hyl, hf⟩ := DataW.trod_struct Try.underlying32 h
  have hC : Try.prog.cellsOf 32 = 3 := by kernel_rfl
  have h3 : Try.prog.cellsOf 3 = 1 := by kernel_rfl
  have h9 : Try.prog.cellsOf 9 = 1 := by kernel_rfl
  rw [hC] at hlen
  match cs, hlen with
  | [a, b, c], _ =>
    have hy : ys.length = 3 := hyl
    match ys, hy with
    | [y0, y1, y2], _ =>
      have g0 := hf 0 _ rfl
      have g1 := hf 1 _ rfl
      have g2 := hf 2 _ rfl
      have key : ∀ fs, Try.prog.underlying 32 = some (.struct fs) → oneCellFields Try.prog fs = true := by
        intro fs h
        rw [Try.underlying32] at h
        injection h with h
        injection h with h
        subst h
        kernel_rfl
      have hone := key _ Try.underlying32
      obtain ⟨o0, k0⟩ := hone_of hone 0 _ rfl
      obtain ⟨o1, k1⟩ := hone_of hone 1 _ rfl
      obtain ⟨o2, k2⟩ := hone_of hone 2 _ rfl
      rw [o0, k0] at g0
      rw [o1, k1] at g1
      rw [o2, k2] at g2
      obtain ⟨n0, e0, _, w0⟩ := DataW.trod_int Try.underlying3 (show DataW.trod enc Try.prog W base sp held n 3 [a] = some y0 from g0)
      obtain ⟨n1, e1, _, w1⟩ := DataW.trod_int Try.underlying3 (show DataW.trod enc Try.prog W base sp held n 3 [b] = some y1 from g1)
      obtain ⟨s, e2, _, w2⟩ := DataW.trod_string Try.underlying9 (show DataW.trod enc Try.prog W base sp held n 9 [c] = some y2 from g2)
      simp only [List.cons.injEq, and_true] at e0 e1 e2
      subst e0 e1 e2
      exact ⟨⟨n0, n1, s⟩, rfl, w0, w1, w2⟩
/-- A list of changes that came in: what is read, and that its bulk is at least its length. -/
theorem open_changes {v : Value} {d : DataW H} {p : List MemPlace} {b0 : Nat} (hv : Value.okWide Try.prog W .any b0 22 v) (h : DataW.Trod enc Try.prog W 0 (fun _ => true) true 22 v d p) :
    ∃ (A : Option Addr) (c : Nat) (l : List S32), v = .slice A l.length c ∧ l.length ≤ c ∧ Kd.C k32 W A l.length l ∧ (Rows.uptoBulk d ≤ 1048576 → l.length ≤ 1048576) := by
  obtain ⟨a0, len0, cap0, rfl⟩ := okWide_slice Try.underlying22 hv
  obtain ⟨fuel, hf⟩ := h
  rcases open_slice Try.underlying22 hf with ⟨hcs, hx⟩ | ⟨a, len, cap, m, n, D, Pl, hcs, hb, hl, hm, hmm, hx, hi⟩
  · simp [Value.cells] at hcs
    obtain ⟨rfl, rfl, rfl⟩ := hcs
    exact ⟨none, 0, [], rfl, Nat.le_refl _, Kd.C_nil _ _, fun _ => by simp⟩
  · simp [Value.cells] at hcs
    obtain ⟨rfl, rfl, rfl⟩ := hcs
    have hC : Try.prog.cellsOf 32 = 3 := by kernel_rfl
    rw [hC] at hi
    simp only [if_true] at hmm
    obtain ⟨l, hlen, hp⟩ := list_of (P := fun i (c : S32) => W.cell? (a.add (i * 3)) = some (.int .i64 c.f0) ∧ W.cell? (a.add (i * 3 + 1)) = some (.int .i64 c.f1) ∧ W.cell? (a.add (i * 3 + 2)) = some (.string c.f2)) len0 (fun i hi' => by
      obtain ⟨cs', hc, ht⟩ := hi i (by omega)
      obtain ⟨c, rfl, _, _, _⟩ := change_cells ht
      obtain ⟨_, _, hat⟩ := World.cells?_some hc
      exact ⟨c, (by simpa [Addr.add_add] using hat 0 (by omega)), (by have := hat 1 (by omega); rw [Go.Deep.add_add] at this; exact this), (by have := hat 2 (by omega); rw [Go.Deep.add_add] at this; exact this)⟩)
    refine ⟨some a, cap0, l, by rw [hlen], by omega, ?_, fun hbk => ?_⟩
    · refine ⟨rfl, by unfold maxLen at hm; omega, fun _ => ⟨a, rfl, fun j c hj => ?_⟩⟩
      obtain ⟨h0, h1, h2⟩ := hp j c hj
      refine ⟨[.int .i64 c.f0, .int .i64 c.f1, .string c.f2], rfl, k32_mk W c, fun i u hu => ?_⟩
      match i, hu with
      | 0, hu => simp at hu; subst hu; exact h0
      | 1, hu => simp at hu; subst hu; exact h1
      | 2, hu => simp at hu; subst hu; exact h2
      | i + 3, hu => simp at hu
    · have hd : d = .slice ((List.range len0).map D) ((List.range (m - len0)).map fun j => D (len0 + j)) := by have := congrArg Prod.fst hx; exact this
      rw [hd] at hbk
      rw [hlen]
      have hle : ∀ l : List (DataW H), l.length ≤ Rows.uptoBulkAll l := by
        intro l
        induction l with
        | nil => simp [Rows.uptoBulkAll]
        | cons x r ih =>
          have h1 : 1 ≤ Rows.uptoBulk x := by
            cases x with
            | lit l => cases l <;> simp [Rows.uptoBulk]
            | nil => simp [Rows.uptoBulk]
            | ptr d => simp [Rows.uptoBulk]
            | slice elems spare => simp [Rows.uptoBulk]
            | agg parts => simp [Rows.uptoBulk]
            | iface t d => simp [Rows.uptoBulk]
            | map entries => simp [Rows.uptoBulk]
            | held h => simp [Rows.uptoBulk]
          simp only [Rows.uptoBulkAll, List.length_cons]
          omega
      have h1 := hle ((List.range len0).map D)
      simp only [Rows.uptoBulk, List.length_map, List.length_range] at hbk h1
      omega
/-- Bytes that came in. -/
theorem open_bytes {v : Value} {d : DataW H} {p : List MemPlace} {b0 : Nat} (hv : Value.okWide Try.prog W .any b0 24 v) (h : DataW.Trod enc Try.prog W 0 (fun _ => true) true 24 v d p) :
    ∃ (A : Option Addr) (c : Nat) (l : List Int), v = .slice A l.length c ∧ l.length ≤ c ∧ Kd.C (Kd.int .u8) W A l.length l ∧ (∀ x ∈ l, 0 ≤ x ∧ x < 256) ∧ c ≤ maxLen ∧ (Rows.uptoBulk d ≤ 1048576 → l.length ≤ 1048576) := by
  obtain ⟨a0, len0, cap0, rfl⟩ := okWide_slice Try.underlying24 hv
  obtain ⟨fuel, hf⟩ := h
  rcases open_ints Try.underlying24 Try.underlying5 (by kernel_rfl) hf with ⟨hcs, hx⟩ | ⟨a, len, cap, zs, hcs, _, hl, hm, hz, hx, hcell, hw⟩
  · simp [Value.cells] at hcs
    obtain ⟨rfl, rfl, rfl⟩ := hcs
    exact ⟨none, 0, [], rfl, Nat.le_refl _, Kd.C_nil _ _, by simp, by unfold maxLen; omega, fun _ => by simp⟩
  · simp [Value.cells] at hcs
    obtain ⟨rfl, rfl, rfl⟩ := hcs
    simp only [if_true] at hz
    have hlen : (zs.take len0).length = len0 := by rw [List.length_take]; omega
    refine ⟨some a, cap0, zs.take len0, by rw [hlen], by rw [hlen]; exact hl, ?_, fun x hx => byte_wf (hw x (List.mem_of_mem_take hx)), hm, fun hbk => ?_⟩
    · refine ⟨rfl, by unfold maxLen at hm; omega, fun _ => ⟨a, rfl, fun j x hj => ?_⟩⟩
      have hjl : j < len0 := by
        rcases Nat.lt_or_ge j len0 with h | h
        · exact h
        · rw [List.getElem?_eq_none (by omega)] at hj; cases hj
      refine ⟨[.int .u8 x], rfl, rfl, fun i u hu => ?_⟩
      cases i with
      | zero =>
        simp at hu
        subst hu
        have h1 := hcell j (by omega)
        rw [List.getElem?_take_of_lt hjl] at hj
        rw [List.getD_eq_getElem?_getD, hj] at h1
        simpa [show (Kd.int IntKind.u8).sz = 1 from rfl] using h1
      | succ i => simp at hu
    · have hd : d = .slice (lits .u8 (zs.take len0)) (lits .u8 (zs.drop len0)) := by have := congrArg Prod.fst hx; exact this
      rw [hd] at hbk
      have hle : ∀ l : List Int, (lits (H := H) .u8 l).length = l.length := fun l => by simp [lits]
      have h1 := bulk_len (lits (H := H) .u8 (zs.take len0))
      rw [hle, hlen] at h1
      rw [hlen]
      simp only [Rows.uptoBulk] at hbk
      omega
/-- A change that came in by value. -/
theorem open_change {v : Value} {d : DataW H} {p : List MemPlace} {b0 : Nat} (hv : Value.okWide Try.prog W .any b0 32 v) (h : DataW.Trod enc Try.prog W 0 (fun _ => true) true 32 v d p) :
    ∃ c : S32, v = .agg #[.int .i64 c.f0, .int .i64 c.f1, .string c.f2] := by
  obtain ⟨cs, rfl, hsz⟩ := okWide_struct Try.underlying32 hv
  obtain ⟨fuel, hf⟩ := h
  obtain ⟨c, hc, _⟩ := change_cells hf
  refine ⟨c, ?_⟩
  simp only [Value.cells] at hc
  congr 1
  apply Array.ext'
  exact hc
end
end Go.Proofs.Ytgnhadbadhgdgaa
