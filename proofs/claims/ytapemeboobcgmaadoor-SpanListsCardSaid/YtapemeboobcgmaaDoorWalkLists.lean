/- SpanLists's walk: the law's own function returns true. Conditions: the list is short enough to be copied with two cells more; the listed table is laid. -/
import Derived.Test.YtapemeboobcgmaaDoorMem
import Derived.Test.YtapemeboobcgmaaDoorMathFix
namespace Go.Proofs.YtapemeboobcgmaaDoor.Prt
open Go.RowKit Go.Proofs.YtapemeboobcgmaaDoorW.PrintWords Go.Proofs.YtapemeboobcgmaaDoorW.PrintLast Go.Proofs.YtapemeboobcgmaaDoorW.PrintMore
set_option linter.unusedVariables false
set_option linter.unusedSimpArgs false

theorem R_head {α : Type} {d : Kd α} {e base : Nat} {ok : Nat → Prop} {w : World} {A : Option Addr} {n c : Nat} {xs : List α} (h : d.R e w base ok (.slice A n c) xs) (hn : 0 < n) : ∃ g, A = some ⟨g, 0, none⟩ ∧ ok g := by
  obtain ⟨h0, inner, ho, hr⟩ := h
  rcases ho.2 with ⟨h1, h2⟩ | ⟨g, cap, cur, h1, _⟩
  · injection h1 with h1 h3 h4; omega
  · injection h1 with h1 h3 h4
    subst h1
    exact ⟨g, rfl, h0 g rfl⟩
theorem R_old {w : World} {base g n c : Nat} {ok : Nat → Prop} {xs : List S23} (h : Kd.R k23 23 w base ok (.slice (some ⟨g, 0, none⟩) n c) xs) (i : Nat) (hi : i < n) : ∃ cs : List Value, cs.length = k23.sz ∧ ∀ j u, cs[j]? = some u → w.cell? ⟨g, (i : Int).toNat * k23.sz + j, none⟩ = some u := by
  obtain ⟨hn, _, hC⟩ := Kd.R_reads' h
  obtain ⟨ad, e, hc⟩ := hC.2.2 (by omega)
  cases e
  obtain ⟨cs, h1, _, h2⟩ := hc i _ (List.getElem?_eq_getElem (by omega))
  refine ⟨cs, h1, fun j u hu => ?_⟩
  have := h2 j u hu
  rw [Int.toNat_natCast]
  unfold Addr.add at this
  simp only [Nat.zero_add] at this
  split at this
  · rename_i h0
    rw [h0]; exact this
  · exact this
theorem below_low {n m : Nat} {w w' : World} (h : Below n w w') (hm : m ≤ n) : Below m w w' := ⟨h.os, h.tape, h.output, h.size, fun k hk => h.block k (by omega)⟩
theorem info23m : (Tryd.prog.info? 23).map (·.size) = some [Value.int .i64 77, Value.int .i64 0].length := by kernel_rfl

set_option maxRecDepth 100000 in
set_option maxHeartbeats 8000000 in
theorem lists_walk (k : Nat) (L I : Int) (b : Bool) (cs ps : List S23) (a0 a1 : Int) (A : Option Addr) (c : Nat) (l : List Int) (w : World) (hr : Kd.C (Kd.int .i64) w A l.length l) (hc : l.length ≤ c) (hl : l.length * 8 ≤ 140737488351232) (hG : GLaid w)
    (m0 : trommellaw10_fixed.f k = some true) (m1 : span_Common.f l = some (L, I, b)) (m2 : trommelref10_Common.f k l = some (L, I, b)) (m3 : span_Cover.f k a0 a1 = some cs) (m4 : trommelref10_Cover.f k a0 a1 = some cs)
    (m5 : span_Path.f k a0 = some ps) (m6 : trommelref10_Path.f k a0 = some ps) (m7 : trommellaw10_same.f k cs cs = some true) (m8 : trommellaw10_same.f k ps ps = some true) (hcl : cs.length ≤ 1000) (hpl : ps.length ≤ 1000) :
    Calls Tryd.prog 4 #[.int .i64 a0, .int .i64 a1, .slice A l.length c] w fun e w' => e = .returned (.bool true) ∧ Below w.heap.size w w' := by
  have HR := Aside0.mk hr
  have HG := Aside0.mk hG
  have M := Aside0.mk (And.intro m0 (And.intro m1 (And.intro m2 (And.intro m3 (And.intro m4 (And.intro m5 (And.intro m6 (And.intro m7 m8))))))))
  have HCL := Aside0.mk (And.intro hcl hpl)
  clear hr hG m0 m1 m2 m3 m4 m5 m6 m7 m8 hcl hpl
  go_enter Tryd.func4, Tryd.ntmps4
  go_wp2_with (fail)
  refine (trommellaw10_fixed.calls k true _ HG.out M.out.1).mono ?_
  rintro e w1 ⟨rfl, hb⟩
  have HB1 := Aside0.mk hb
  clear hb
  go_wp2_with (fail)
  refine (ints_any A c l w1 (Kd.C_below HR.out HB1.out) hc hl).mono ?_
  rintro e w2 ⟨A', c', rfl, hc', hrow, hb⟩
  have HB2 := Aside0.mk (below_step HB1.out hb)
  have HM2 := Aside0.mk hrow
  clear hb hrow
  go_wp2_with (fail)
  refine (span_Common.calls A' c' l L I b w2 (by have h := Kd.C_take (m := l.length) (Kd.R_reads' HM2.out).2.2 (by simp); simpa using h) (by omega) M.out.2.1).mono ?_
  rintro e w3 ⟨rfl, hb⟩
  have HB3 := Aside0.mk hb
  clear hb
  go_wp2_with (first | ((with_reducible refine gate_dst (N := 8) rfl ?_); refine box_event ?hg (N := 8) ?hd (cs := #[.int .i64 0, .int .i64 0]) (t := 23) ?hr ?_; (case hd => rfl); (case hg => rfl); (case hr => first | (go_simp; done) | (go_simp; rfl)); intro g1 hg w4 hbox hb; have BK1 := Aside0.mk hbox; have HB4 := Aside0.mk (And.intro hg hb); clear hbox hb hg; have hz80 := (blk_cell BK1.out 0).trans rfl; have hz81 := (blk_cell BK1.out 1).trans rfl; have hf80 := blk_frozen BK1.out 0; have hf81 := blk_frozen BK1.out 1))
  have HB5 := Aside0.mk (show Below w2.heap.size w2 ((w4.setCell ⟨g1, 0, none⟩ (.int .i64 L)).setCell ⟨g1, 1, none⟩ (.int .i64 I)) from below_set (below_set (below_step HB3.out HB4.out.2) (by rw [HB4.out.1]; exact HB3.out.size)) (by rw [HB4.out.1]; exact HB3.out.size))
  have BK5 := Aside0.mk (show ((w4.setCell ⟨g1, 0, none⟩ (.int .i64 L)).setCell ⟨g1, 1, none⟩ (.int .i64 I)).heap[g1]? = some (.cells #[.int .i64 L, .int .i64 I] 23 (0, 0)) from blk_put (blk_put BK1.out 0 _ rfl) 1 _ rfl)
  have hg1 := Aside0.mk (show w2.heap.size ≤ g1 by rw [HB4.out.1]; exact HB3.out.size)
  clear hz80 hz81 hf80 hf81 BK1 HB3 HB4
  generalize (w4.setCell ⟨g1, 0, none⟩ (.int .i64 L)).setCell ⟨g1, 1, none⟩ (.int .i64 I) = w5 at *
  clear w4 w3
  refine (trommelref10_Common.calls k A c l L I b w5 (Kd.C_below HR.out (below_step HB2.out HB5.out)) hc M.out.2.2.1).mono ?_
  rintro e w6 ⟨rfl, hb⟩
  have BK6 := Aside0.mk (blk_below BK5.out hb)
  have HB6 := Aside0.mk (below_step HB5.out hb)
  clear hb BK5 HB5 
  go_wp2_with (first | ((with_reducible refine gate_dst (N := 10) rfl ?_); refine box_event ?hg (N := 10) ?hd (cs := #[.int .i64 0, .int .i64 0]) (t := 23) ?hr ?_; (case hd => rfl); (case hg => rfl); (case hr => first | (go_simp; done) | (go_simp; rfl)); intro g2 hg w7 hbox hb; have BK2 := Aside0.mk hbox; have HB7 := Aside0.mk (And.intro hg hb); clear hbox hb hg; have hz100 := (blk_cell BK2.out 0).trans rfl; have hz101 := (blk_cell BK2.out 1).trans rfl; have hf100 := blk_frozen BK2.out 0; have hf101 := blk_frozen BK2.out 1; have BK7 := Aside0.mk (blk_below BK6.out HB7.out.2); have hy0 := (blk_cell BK7.out 0).trans rfl; have hy1 := (blk_cell BK7.out 1).trans rfl; have hne : g1 ≠ g2 := (by have h1 := blk_lt BK6.out; have h2 := HB7.out.1; omega); have hne2 : g2 ≠ g1 := Ne.symm hne))
  have HB8 := Aside0.mk (show Below w2.heap.size w2 ((w7.setCell ⟨g2, 0, none⟩ (.int .i64 L)).setCell ⟨g2, 1, none⟩ (.int .i64 I)) from below_set (below_set (below_step HB6.out HB7.out.2) (by rw [HB7.out.1]; exact HB6.out.size)) (by rw [HB7.out.1]; exact HB6.out.size))
  clear hz100 hz101 hf100 hf101 hy0 hy1 hne hne2 BK7 BK2 HB7 HB6 BK6
  generalize (w7.setCell ⟨g2, 0, none⟩ (.int .i64 L)).setCell ⟨g2, 1, none⟩ (.int .i64 I) = w8 at *
  refine (kept_any A A' c c' l w8 (Kd.C_below HR.out (below_step HB2.out HB8.out)) hc (Kd.C_below (Kd.R_reads' HM2.out).2.2 HB8.out) hc' hl).mono ?_
  rintro e w9 ⟨rfl, hb⟩
  have HB9 := Aside0.mk (below_step (below_step HB2.out HB8.out) (show Below w8.heap.size w8 w9 from hb.below))
  clear hb HB8 HM2 HB2 hg1
  go_wp2_with (fail)
  refine (span_Cover.calls k a0 a1 cs _ (GLaid.below HG.out HB9.out) M.out.2.2.2.1).mono ?_
  rintro e w10 ⟨va, rfl, hva, hb⟩
  obtain ⟨Aa, ca, rfl⟩ := Kd.R_slice hva
  have HVa := Aside0.mk (Kd.R_mono (Kd.R_bound hva) (ok' := fun k => w9.heap.size ≤ k ∧ k < w10.heap.size) (fun k hk => ⟨hk.2.1, hk.2.2.1⟩))
  have hs10 := hb.size
  have HB10 := Aside0.mk (below_step HB9.out hb)
  clear hb hva
  go_wp2_with (fail)
  refine (span_Cover.calls k a0 a1 cs _ (GLaid.below HG.out HB10.out) M.out.2.2.2.1).mono ?_
  rintro e w11 ⟨vb, rfl, hva, hb⟩
  obtain ⟨Ab, cb, rfl⟩ := Kd.R_slice hva
  have HVb := Aside0.mk (Kd.R_mono (Kd.R_bound hva) (ok' := fun k => w10.heap.size ≤ k ∧ k < w11.heap.size) (fun k hk => ⟨hk.2.1, hk.2.2.1⟩))
  have HVa1 := Aside0.mk (Kd.R_below HVa.out hb)
  have hs11 := hb.size
  have HB11 := Aside0.mk (below_step HB10.out hb)
  clear hb hva HVa
  go_wp2_with (fail)
  refine (span_Path.calls k a0 ps _ M.out.2.2.2.2.2.1).mono ?_
  rintro e w12 ⟨vp, rfl, hva, hb⟩
  obtain ⟨Ap, cp, rfl⟩ := Kd.R_slice hva
  have HVp := Aside0.mk (Kd.R_mono (Kd.R_bound hva) (ok' := fun k => w11.heap.size ≤ k ∧ k < w12.heap.size) (fun k hk => ⟨hk.2.1, hk.2.2.1⟩))
  have HVa2 := Aside0.mk (Kd.R_below HVa1.out hb)
  have HVb2 := Aside0.mk (Kd.R_below HVb.out hb)
  have hs12 := hb.size
  have HB12 := Aside0.mk (below_step HB11.out hb)
  clear hb hva HVa1 HVb
  go_wp2_with (fail)
  refine (span_Path.calls k a0 ps _ M.out.2.2.2.2.2.1).mono ?_
  rintro e w13 ⟨vq, rfl, hva, hb⟩
  obtain ⟨Aq, cq, rfl⟩ := Kd.R_slice hva
  have HVq := Aside0.mk (Kd.R_mono (Kd.R_bound hva) (ok' := fun k => w12.heap.size ≤ k ∧ k < w13.heap.size) (fun k hk => ⟨hk.2.1, hk.2.2.1⟩))
  have HVa3 := Aside0.mk (Kd.R_below HVa2.out hb)
  have HVb3 := Aside0.mk (Kd.R_below HVb2.out hb)
  have HVp3 := Aside0.mk (Kd.R_below HVp.out hb)
  have hs13 := hb.size
  have HB13 := Aside0.mk (below_step HB12.out hb)
  clear hb hva HVa2 HVb2 HVp
  go_wp2_with (fail)
  have HAa := Aside0.mk (fun hn : 0 < cs.length => R_head HVa3.out hn)
  have HAp := Aside0.mk (fun hn : 0 < ps.length => R_head HVp3.out hn)
  have HS := Aside0.mk (And.intro hs10 (And.intro hs11 (And.intro hs12 hs13)))
  clear hs10 hs11 hs12 hs13
  go_loopg [58] (cs.length + 1) (fun kq v58 wr => ∃ (i : Nat) (la : List S23), v58 = .int .i64 (i : Int) ∧ Aside0 (kq = cs.length - i + 1) ∧ Aside0 (i ≤ cs.length) ∧ Aside0 (Kd.R k23 23 wr w9.heap.size (fun k => w9.heap.size ≤ k ∧ k < w10.heap.size) (.slice Aa cs.length ca) la) ∧ Aside0 (Kd.R k23 23 wr w10.heap.size (fun k => w10.heap.size ≤ k ∧ k < w11.heap.size) (.slice Ab cs.length cb) cs) ∧ Aside0 (Kd.R k23 23 wr w11.heap.size (fun k => w11.heap.size ≤ k ∧ k < w12.heap.size) (.slice Ap ps.length cp) ps) ∧ Aside0 (Kd.R k23 23 wr w12.heap.size (fun k => w12.heap.size ≤ k ∧ k < w13.heap.size) (.slice Aq ps.length cq) ps) ∧ Aside0 (Below w.heap.size w wr))
  case atStart => exact ⟨0, cs, rfl, ⟨rfl⟩, ⟨Nat.zero_le _⟩, HVa3, HVb3, HVp3, HVq, HB13⟩
  case round =>
    obtain ⟨i, la, rfl, HK, HI, HVa4, HVb4, HVp4, HVq4, HB14⟩ := hrel
    by_cases hlt : i < cs.length
    · obtain ⟨g, rfl, hg0, hg1⟩ := HAa.out (by omega)
      have hlc : cs.length ≤ 1000 := HCL.out.1
      obtain ⟨old, hol, hoc⟩ := R_old HVa4.out i hlt
      go_wp2_with (first | ((with_reducible refine gate_store (t := 23) (p := 64) (v := .tmp 63) rfl ?_); refine Kd.R_store k23 (w0 := wr) w9.heap.size rfl rfl 23 (.tmp 64) (.tmp 63) rfl 23 (i : Int) 0 la ⟨77, 0⟩ (.agg #[.int .i64 77, .int .i64 0]) [.int .i64 77, .int .i64 0] old _ (fun _ => False) rfl ?off rfl rfl info23m ?h1 HVa4.out (by omega) (by omega) hol hoc ?hj ?hM (fun _ h => h.elim) (Below.refl _ _) ?_))
      case off => go_num
      case h1 => intro q hq; simp at hq; rcases hq with rfl | rfl <;> rfl
      case hj => decide
      case hM =>
        obtain ⟨x, y, rfl⟩ : ∃ x y, old = [x, y] := by
          match old, hol with
          | [x, y], _ => exact ⟨x, y, rfl⟩
        exact k23_mkM wr _ _ ⟨77, 0⟩
      intro w14 ho hb hg
      have HVa5 := Aside0.mk ho
      have HVb5 := Aside0.mk (Kd.R_step HVb4.out (fun k ho hlt => hg.block k hlt (fun e => by injection e with e; omega)))
      have HVp5 := Aside0.mk (Kd.R_step HVp4.out (fun k ho hlt => hg.block k hlt (fun e => by injection e with e; have := HS.out; omega)))
      have HVq5 := Aside0.mk (Kd.R_step HVq4.out (fun k ho hlt => hg.block k hlt (fun e => by injection e with e; have := HS.out; omega)))
      have HB15 := Aside0.mk (HB14.out.trans (below_low hb HB9.out.size))
      clear ho hb hg hoc hol HVa4 HVb4 HVp4 HVq4
      go_wp2
      go_roundg (cs.length - (i + 1) + 1)
      case measure => have := HK.out; omega
      case rel => exact ⟨i + 1, _, by go_num, ⟨rfl⟩, ⟨by omega⟩, HVa5, HVb5, HVp5, HVq5, HB15⟩
    · have e : i = cs.length := by have := HI.out; omega
      subst e
      go_wp2_with (fail)
      clear HVa4
      go_loopg [68] (ps.length + 1) (fun kq v68 wr => ∃ (i : Nat) (la : List S23), v68 = .int .i64 (i : Int) ∧ Aside0 (kq = ps.length - i + 1) ∧ Aside0 (i ≤ ps.length) ∧ Aside0 (Kd.R k23 23 wr w11.heap.size (fun k => w11.heap.size ≤ k ∧ k < w12.heap.size) (.slice Ap ps.length cp) la) ∧ Aside0 (Kd.R k23 23 wr w10.heap.size (fun k => w10.heap.size ≤ k ∧ k < w11.heap.size) (.slice Ab cs.length cb) cs) ∧ Aside0 (Kd.R k23 23 wr w12.heap.size (fun k => w12.heap.size ≤ k ∧ k < w13.heap.size) (.slice Aq ps.length cq) ps) ∧ Aside0 (Below w.heap.size w wr))
      case atStart => exact ⟨0, ps, rfl, ⟨rfl⟩, ⟨Nat.zero_le _⟩, HVp4, HVb4, HVq4, HB14⟩
      case round =>
        clear HVp4 HVb4 HVq4
        obtain ⟨i, la, rfl, HK, HI, HVp4, HVb4, HVq4, HB14⟩ := hrel
        by_cases hlt : i < ps.length
        · obtain ⟨g, rfl, hg0, hg1⟩ := HAp.out (by omega)
          have hlc : ps.length ≤ 1000 := HCL.out.2
          obtain ⟨old, hol, hoc⟩ := R_old HVp4.out i hlt
          go_wp2_with (first | ((with_reducible refine gate_store (t := 23) (p := 74) (v := .tmp 73) rfl ?_); refine Kd.R_store k23 (w0 := wr) w11.heap.size rfl rfl 23 (.tmp 74) (.tmp 73) rfl 23 (i : Int) 0 la ⟨77, 0⟩ (.agg #[.int .i64 77, .int .i64 0]) [.int .i64 77, .int .i64 0] old _ (fun _ => False) rfl ?off rfl rfl info23m ?h1 HVp4.out (by omega) (by omega) hol hoc ?hj ?hM (fun _ h => h.elim) (Below.refl _ _) ?_))
          case off => go_num
          case h1 => intro q hq; simp at hq; rcases hq with rfl | rfl <;> rfl
          case hj => decide
          case hM =>
            obtain ⟨x, y, rfl⟩ : ∃ x y, old = [x, y] := by
              match old, hol with
              | [x, y], _ => exact ⟨x, y, rfl⟩
            exact k23_mkM wr _ _ ⟨77, 0⟩
          intro w14 ho hb hg
          have HVp5 := Aside0.mk ho
          have HVb5 := Aside0.mk (Kd.R_step HVb4.out (fun k ho hlt => hg.block k hlt (fun e => by injection e with e; have := HS.out; omega)))
          have HVq5 := Aside0.mk (Kd.R_step HVq4.out (fun k ho hlt => hg.block k hlt (fun e => by injection e with e; have := HS.out; omega)))
          have HB15 := Aside0.mk (HB14.out.trans (below_low hb HB11.out.size))
          clear ho hb hg hoc hol HVp4 HVb4 HVq4
          go_wp2
          go_roundg (ps.length - (i + 1) + 1)
          case measure => have := HK.out; omega
          case rel => exact ⟨i + 1, _, by go_num, ⟨rfl⟩, ⟨by omega⟩, HVp5, HVb5, HVq5, HB15⟩
        · have e : i = ps.length := by have := HI.out; omega
          subst e
          clear HVp4
          go_wp2_with (fail)
          refine (trommelref10_Cover.calls k a0 a1 cs _ M.out.2.2.2.2.1).mono ?_
          rintro e w14 ⟨vc, rfl, hvc, hb⟩
          obtain ⟨Ac, cc, rfl⟩ := Kd.R_slice hvc
          have HVc := Aside0.mk (Kd.R_reads' hvc)
          have HVb6 := Aside0.mk (Kd.R_reads' (Kd.R_below HVb4.out hb))
          have HVq6 := Aside0.mk (Kd.R_below HVq4.out hb)
          have HB16 := Aside0.mk (below_step HB14.out hb)
          clear hvc hb HVb4 HVq4
          go_wp2_with (fail)
          refine (trommellaw10_same.calls k Ab cb cs Ac cc cs true _ HVb6.out.2.2 HVb6.out.2.1 HVc.out.2.2 HVc.out.2.1 M.out.2.2.2.2.2.2.2.1).mono ?_
          rintro e w15 ⟨rfl, hd⟩
          have HVq7 := Aside0.mk (Kd.R_below HVq6.out hd.below)
          have HB17 := Aside0.mk (below_step HB16.out hd.below)
          clear hd HVq6
          go_wp2_with (fail)
          refine (trommelref10_Path.calls k a0 ps _ M.out.2.2.2.2.2.2.1).mono ?_
          rintro e w16 ⟨vc, rfl, hvc, hb⟩
          obtain ⟨Ad, cd, rfl⟩ := Kd.R_slice hvc
          have HVd := Aside0.mk (Kd.R_reads' hvc)
          have HVq8 := Aside0.mk (Kd.R_reads' (Kd.R_below HVq7.out hb))
          have HB18 := Aside0.mk (below_step HB17.out hb)
          clear hvc hb HVq7
          go_wp2_with (fail)
          refine (trommellaw10_same.calls k Aq cq ps Ad cd ps true _ HVq8.out.2.2 HVq8.out.2.1 HVd.out.2.2 HVd.out.2.1 M.out.2.2.2.2.2.2.2.2).mono ?_
          rintro e w17 ⟨rfl, hd⟩
          have HB19 := Aside0.mk (below_step HB18.out hd.below)
          clear hd
          go_wp2
          go_ret
          exact ⟨rfl, HB19.out⟩
end Go.Proofs.YtapemeboobcgmaaDoor.Prt
