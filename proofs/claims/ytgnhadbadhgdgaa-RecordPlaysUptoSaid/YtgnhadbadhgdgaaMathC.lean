/- The plain statement of RecordPlays: at every row of changes and every number the law's function answers true. Conditions: the row is one of memory. -/
import Derived.Test.YtgnhadbadhgdgaaMathB
import Derived.Test.YtgnhadbadhgdgaaPrt5
namespace Go.Proofs.Ytgnhadbadhgdgaa
open Go.RowKit Go.Proofs.YtgnhadbadhgdgaaW.PrintWords Go.Proofs.YtgnhadbadhgdgaaW.PrintLast Go.Proofs.YtgnhadbadhgdgaaW.PrintMore
open Prt
set_option linter.unusedVariables false
set_option linter.unusedSimpArgs false
set_option maxRecDepth 100000 in
theorem fixed_200 : trommellaw17_fixed.f 200 = some true := by decide +kernel
theorem ev_fixed : Ev (fun k => trommellaw17_fixed.f k) true := Ev.of (fun k => trommellaw17_fixed.mono k) fixed_200
theorem ev_plays_l0 (l : List S32) (hlen : l.length ≤ 1000000000) (a b : Int) (x y u v : List Int) (hxy : trommellaw17_sameBytes.f x y = some true) (huv : trommellaw17_sameBytes.f u v = some true) :
    ∀ (d i : Nat), i + d = l.length → Ev (fun k => trommellaw17_RecordPlays.l0 k a x y a b u v b l (l.length : Int) (i : Int)) true
  | 0, i, hi => by
    refine ev_now fun k => ?_
    simp only [trommellaw17_RecordPlays.l0]
    rw [if_neg (by omega)]
    simp [hxy, huv]
  | d + 1, i, hi => by
    have ih := ev_plays_l0 l hlen a b x y u v hxy huv d (i + 1) (by omega)
    have hlt : i < l.length := by omega
    refine Ev.step (fun k => ?_) ih
    simp only [trommellaw17_RecordPlays.l0]
    rw [if_pos (by omega), if_pos (by omega), if_pos (by omega), rd_at l i hlt, may_eq, refmay_eq, Option.bind_some, Option.bind_some, if_neg (by simp), wrap_add1 (by omega)]
theorem same_self (x : List Int) : trommellaw17_sameBytes.f x x = some true := by simp [trommellaw17_sameBytes.f]
theorem ev_plays (l : List S32) (n : Int) (hl : l.length ≤ 1000000000) : Ev (fun k => trommellaw17_RecordPlays.f k l n) true := by
  have he := enc_len l hl
  have hh := headF_len n
  unfold trommellaw17_RecordPlays.f
  refine Ev.bind ev_fixed ?_
  simp only [if_pos]
  refine Ev.bind (ev_enc l hl) (Ev.bind (ev_enc l hl) (Ev.bind (ev_refenc l hl) ?_))
  simp only [head_eq, Option.bind_some]
  refine Ev.bind (ev_refhead n) (Ev.bind (ev_over _ (by omega)) (Ev.bind (ev_over _ (by omega)) ?_))
  have h := ev_plays_l0 l hl (encF l).2 (headF n).2 (encF l).1 (encF l).1 (headF n).1 (headF n).1 (same_self _) (same_self _) l.length 0 (by omega)
  exact h
end Go.Proofs.Ytgnhadbadhgdgaa
