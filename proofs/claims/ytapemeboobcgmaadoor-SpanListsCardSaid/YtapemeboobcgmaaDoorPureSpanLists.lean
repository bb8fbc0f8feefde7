/- SpanLists: the walk and the plain numbers joined. Conditions: the list is short enough to be copied with two cells more; the listed table is laid. -/
import Derived.Test.YtapemeboobcgmaaDoorWalkLists
import Derived.Test.YtapemeboobcgmaaDoorMathP
namespace Go.Proofs.YtapemeboobcgmaaDoor.Prt
open Go.RowKit Go.Proofs.YtapemeboobcgmaaDoorW.PrintWords Go.Proofs.YtapemeboobcgmaaDoorW.PrintLast Go.Proofs.YtapemeboobcgmaaDoorW.PrintMore
theorem mono_leG {α : Type} {f : Nat → Option α} (h : ∀ k, LeO (f k) (f (k + 1))) {k k' : Nat} (hk : k ≤ k') {r : α} (hr : f k = some r) : f k' = some r := by
  induction hk with
  | refl => exact hr
  | step _ ih => exact h _ _ ih
theorem SpanLists_walk (a0 a1 : Int) (A : Option Addr) (c : Nat) (l : List Int) (w : World) (hr : Kd.C (Kd.int .i64) w A l.length l) (hc : l.length ≤ c) (hl : l.length * 8 ≤ 140737488351232) (hG : GLaid w) :
    Calls Tryd.prog 4 #[.int .i64 a0, .int .i64 a1, .slice A l.length c] w fun e w' => e = .returned (.bool true) ∧ Below w.heap.size w w' := by
  have hk : 1001 ≤ 3 * l.length + 1001 := by omega
  obtain ⟨L, I, b, c1, c2⟩ := common_eq l (by omega) (3 * l.length + 1001) (by omega)
  obtain ⟨cs, hcl, v1, v2⟩ := refCover_eq a0 a1
  obtain ⟨ps, hpl, p1, p2⟩ := path_eq a0 (3 * l.length + 1001) (by omega)
  exact lists_walk (3 * l.length + 1001) L I b cs ps a0 a1 A c l w hr hc hl hG (fixed_ge (by omega)) c1 c2
    (mono_leG (f := fun k => span_Cover.f k a0 a1) (fun k => span_Cover.mono a0 a1 k) (by omega) v1) (mono_leG (f := fun k => trommelref10_Cover.f k a0 a1) (fun k => trommelref10_Cover.mono a0 a1 k) (by omega) v2)
    p1 p2 (mono_leG (f := fun k => trommellaw10_same.f k cs cs) (fun k => trommellaw10_same.mono cs cs k) hk (same_refl cs hcl)) (mono_leG (f := fun k => trommellaw10_same.f k ps ps) (fun k => trommellaw10_same.mono ps ps k) hk (same_refl ps hpl)) hcl hpl
end Go.Proofs.YtapemeboobcgmaaDoor.Prt
