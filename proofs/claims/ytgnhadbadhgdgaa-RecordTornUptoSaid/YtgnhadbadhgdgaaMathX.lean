/- The fixed calls of the law's functions answer true; the same bytes are the same. No condition. -/
import Derived.Test.YtgnhadbadhgdgaaMathB
namespace Go.Proofs.Ytgnhadbadhgdgaa
open Go.RowKit Go.Proofs.YtgnhadbadhgdgaaW.PrintWords Go.Proofs.YtgnhadbadhgdgaaW.PrintLast Go.Proofs.YtgnhadbadhgdgaaW.PrintMore
open Prt
set_option maxRecDepth 100000 in
theorem fixed_200 : trommellaw17_fixed.f 200 = some true := by decide +kernel
theorem ev_fixed : Ev (fun k => trommellaw17_fixed.f k) true := Ev.of (fun k => trommellaw17_fixed.mono k) fixed_200
theorem same_self (x : List Int) : trommellaw17_sameBytes.f x x = some true := by simp [trommellaw17_sameBytes.f]
end Go.Proofs.Ytgnhadbadhgdgaa
