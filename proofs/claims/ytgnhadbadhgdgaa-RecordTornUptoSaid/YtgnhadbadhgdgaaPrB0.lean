/- What the Go functions of this text compute, each as a plain Lean function, and that the machine's call comes to it. Laid by a program of this session. -/
import Derived.Test.YtgnhadbadhgdgaaProg
import Derived.Below
import Derived.Deep.Draws
import Derived.Deep.AppendLies
import Derived.Maps.AppendAt
import Derived.OwnWalk
import Derived.Laws.BytesArg
import Derived.Laws.MakeOwn
import Derived.Laws.OwnMore
import Derived.Deep.OwnRows
import Derived.Tactics
import Derived.Lib.ConvBytes
import Derived.Laws.Slices
import Derived.WalkKit
import Derived.KernelRfl
import Derived.RowKit3
import Derived.Deep.LoopGhost
import Derived.Deep.QuietTactic
import Derived.BigQuiet
import Derived.WideLaws
import Derived.Deep.DeepCutAuto
import Derived.Deep.CutBlock
import Derived.Deep.RegionHeld3
import Derived.Laws.Rows
import Derived.Lib.AppendStr
import Derived.ArgAppend
import Derived.Laws.IdiomCopy
import Derived.OrdersHeld
import Derived.Laws.BitsLemmas
import Derived.RowKit
import Derived.Test.YtgnhadbadhgdgaaWWords
import Derived.Test.YtgnhadbadhgdgaaWLast
import Derived.Test.YtgnhadbadhgdgaaWTab
import Derived.Test.YtgnhadbadhgdgaaWFour
import Derived.Test.YtgnhadbadhgdgaaWQPut
import Derived.Test.YtgnhadbadhgdgaaWApart
import Derived.Test.YtgnhadbadhgdgaaWArr
import Derived.Test.YtgnhadbadhgdgaaWZeros
import Derived.Test.YtgnhadbadhgdgaaWFoot
import Derived.Test.YtgnhadbadhgdgaaWKept
import Derived.Test.YtgnhadbadhgdgaaWShare
import Derived.Test.YtgnhadbadhgdgaaWN
import Derived.Test.YtgnhadbadhgdgaaWFootNe
import Derived.Test.YtgnhadbadhgdgaaWAt
import Derived.Test.YtgnhadbadhgdgaaWEqStruct
import Derived.Test.YtgnhadbadhgdgaaWRepsOne
import Derived.Test.YtgnhadbadhgdgaaWInv
import Derived.Test.YtgnhadbadhgdgaaWInvWords
import Derived.Test.YtgnhadbadhgdgaaWGuard
import Derived.Test.YtgnhadbadhgdgaaWNEv
import Derived.Test.YtgnhadbadhgdgaaWMore
namespace Go.Proofs.Ytgnhadbadhgdgaa.PrB
open Go.RowKit Go.Proofs.YtgnhadbadhgdgaaW.PrintWords Go.Proofs.YtgnhadbadhgdgaaW.PrintLast Go.Proofs.YtgnhadbadhgdgaaW.PrintMore
attribute [local go_sem] max2_int min2_int max_two min_two max_three min_three max_four min_four   -- for this text's walks alone
set_option linter.unusedVariables false
set_option linter.unusedSimpArgs false



def errW : Option Int → Value
  | none => .nilIface
  | some c => .iface 0 (.int .i64 c)
theorem errW_none : errW none = .nilIface := rfl
theorem errW_some (c : Int) : errW (some c) = .iface 0 (.int .i64 c) := rfl

-- the values' own types

end Go.Proofs.Ytgnhadbadhgdgaa.PrB
