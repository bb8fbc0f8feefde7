/- What all rows of this seat share: the door's own heap meets the condition; out of the condition the walk's premise on the one listed variable. -/
import Derived.Test.YtapemeboobcgmaaDoorRows
import Derived.Test.YtapemeboobcgmaaDoorExtA
import Derived.WalkKit
import Derived.ProofKit
import Derived.LaidMore
import Derived.LaidLaws
import Derived.Lib.LaidTab
import Derived.OpenShut
import Derived.Stop.Joined
import Derived.ShutString
import Derived.SizedLaws
namespace Go.Proofs.YtapemeboobcgmaaDoor
open Go.ChangeShapes Go.WideShapes Go.ChangeAt Go.RowKit
theorem own : ownKnob Tryd.prog.godebug = none := by kernel_rfl
theorem laidOut : laidOutB Tryd.prog = true := by kernel_rfl
theorem gTab : Tryd.prog.globalNamed "math/bits.deBruijn64tab" = some 0 := by kernel_rfl
theorem tTab : (Tryd.prog.globals[0]?).map (·.type) = some 56 := by kernel_rfl
def tabInts : List Int := Lib.deBruijn64tab.map (fun (n : Nat) => (n : Int))
theorem laid_is : [("math/bits.deBruijn64tab", Rows.laid_math_bits_deBruijn64tab (H := Unit))] = [("math/bits.deBruijn64tab", Lib.tabData .u8 tabInts)] := by rfl
theorem door_met (os : Os) (args : Array Value) : laidMetH Tryd.prog [("math/bits.deBruijn64tab", Rows.laid_math_bits_deBruijn64tab)] ((World.doorLaid Tryd.prog 400 os).forCall (fun _ _ => 0) ⟨#[], args, []⟩).memory :=
  laidMetH_of_parts (laidMet_of_run' 8 (by kernel_rfl) (by kernel_rfl)) (by kernel_rfl)
theorem glaid_of {W : World} (h : laidMetH Tryd.prog [("math/bits.deBruijn64tab", Rows.laid_math_bits_deBruijn64tab)] W) : GLaid W := by
  rw [laid_is, MakeChecks.laidMetH_plain _ _ _ (by kernel_rfl)] at h
  have ht := Lib.tabIs_of_head (n := 64) (e := 5) gTab tTab Tryd.underlying56 Tryd.underlying5 (by kernel_rfl) (by kernel_rfl) h
  refine ⟨fun j hj => ?_⟩
  have := ht.cell gTab j (by simpa [tabInts] using hj)
  rw [this]
  simp [tabInts, List.getD]
  cases Lib.deBruijn64tab[j]? <;> rfl
theorem trod_i64 {H : Type} {enc : TypeId × Value → H} {w : World} {base : Nat} {sp : Nat → Bool} {held : Bool} {a : Int} (wa : (Lit.int .i64 a).wf = true) : DataW.trod enc Tryd.prog w base sp held 1 3 [.int .i64 a] = some (.lit (.int .i64 a), []) := by
  simp [DataW.trod, Tryd.underlying3, wa]
def IsRow (k : IntKind) (w : World) (a : Option Addr) (len cap : Nat) (zs : List Int) : Prop :=
  (a = none ∧ len = 0 ∧ cap = 0 ∧ zs = []) ∨
  ∃ x, a = some x ∧ len ≤ cap ∧ cap ≤ maxLen ∧ zs.length = cap ∧ (∀ i, i < zs.length → w.cell? (x.add i) = some (.int k (zs.getD i 0))) ∧ ∀ n ∈ zs, (Lit.int k n).wf = true
end Go.Proofs.YtapemeboobcgmaaDoor
