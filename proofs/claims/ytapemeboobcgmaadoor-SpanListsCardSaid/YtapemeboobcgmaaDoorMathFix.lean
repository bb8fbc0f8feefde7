/- The calls whose answers the document fixes: the program gives them. -/
import Derived.Test.YtapemeboobcgmaaDoorPrt4
namespace Go.Proofs.YtapemeboobcgmaaDoor.Prt
open Go.RowKit Go.Proofs.YtapemeboobcgmaaDoorW.PrintWords
theorem fixed_100 : trommellaw10_fixed.f 100 = some true := by decide +kernel
theorem mono_le {f : Nat → Option Bool} (h : ∀ k, LeO (f k) (f (k + 1))) {k k' : Nat} (hk : k ≤ k') {r : Bool} (hr : f k = some r) : f k' = some r := by
  induction hk with
  | refl => exact hr
  | step _ ih => exact h _ _ ih
theorem fixed_ge {k : Nat} (hk : 100 ≤ k) : trommellaw10_fixed.f k = some true := mono_le (f := trommellaw10_fixed.f) (fun k => trommellaw10_fixed.mono k) hk fixed_100
end Go.Proofs.YtapemeboobcgmaaDoor.Prt
