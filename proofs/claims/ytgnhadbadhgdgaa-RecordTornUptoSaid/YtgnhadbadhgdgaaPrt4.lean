/- What the Go functions of this text compute, each as a plain Lean function, and that the machine's call comes to it. Laid by a program of this session. -/
import Derived.Test.YtgnhadbadhgdgaaPrt0
import Derived.Test.YtgnhadbadhgdgaaPrt2
import Derived.Test.YtgnhadbadhgdgaaPrt3
namespace Go.Proofs.Ytgnhadbadhgdgaa.Prt
open Go.RowKit Go.Proofs.YtgnhadbadhgdgaaW.PrintWords Go.Proofs.YtgnhadbadhgdgaaW.PrintLast Go.Proofs.YtgnhadbadhgdgaaW.PrintMore
attribute [local go_sem] max2_int min2_int max_two min_two max_three min_three max_four min_four   -- for this text's walks alone
set_option linter.unusedVariables false
set_option linter.unusedSimpArgs false

/-! ### trommelref17_Varint: function 33 -/
def trommelref17_Varint.l0 : Nat → Int → List Int → Option (List Int)
  | 0, _, _ => none
  | k + 1, x0, x3 => if x0 ≥ 128 then (if x3.length < 140737488355328 then (trommelref17_Varint.l0 k (wrap64 (Int.tdiv x0 128)) (x3 ++ [(wrap64 ((Int.tmod x0 128) + 128)) % 256])) else (none)) else (if x3.length < 140737488355328 then (some (x3 ++ [(x0) % 256])) else (none))
def trommelref17_Varint.f (k : Nat) (a0 : Int) : Option (List Int) := trommelref17_Varint.l0 k a0 ([] : List Int)
theorem trommelref17_Varint.mono_l : ∀ k, (∀ y0 y1, LeO (trommelref17_Varint.l0 k y0 y1) (trommelref17_Varint.l0 (k + 1) y0 y1))
  | 0 => fun _ _ r h => by simp [trommelref17_Varint.l0] at h
  | k + 1 => by
    have ih0 := trommelref17_Varint.mono_l k
    · intro y0 y1
      unfold trommelref17_Varint.l0
      repeat' first
      | (with_reducible exact ih0 _ _)
      | (with_reducible exact LeO.refl _)
      | (with_reducible exact LeO.none _)
      | (with_reducible refine LeO.ite ?_ ?_)
      | (with_reducible refine LeO.bind ?_ (fun _ => ?_))
      | exact ih0 _ _
      | exact LeO.none _
      | refine LeO.ite ?_ ?_
      | refine LeO.bind ?_ (fun _ => ?_)
theorem trommelref17_Varint.mono : ∀ a0 k, LeO (trommelref17_Varint.f k a0) (trommelref17_Varint.f (k + 1) a0) := by
  intro a0 k
  have ih0 := trommelref17_Varint.mono_l k
  unfold trommelref17_Varint.f
  repeat' first
      | (with_reducible exact ih0 _ _)
      | (with_reducible exact LeO.refl _)
      | (with_reducible exact LeO.none _)
      | (with_reducible refine LeO.ite ?_ ?_)
      | (with_reducible refine LeO.bind ?_ (fun _ => ?_))
      | exact ih0 _ _
      | exact LeO.none _
      | refine LeO.ite ?_ ?_
      | refine LeO.bind ?_ (fun _ => ?_)
set_option maxHeartbeats 8000000 in
set_option maxRecDepth 100000 in
theorem trommelref17_Varint.calls (k : Nat) (a0 : Int) (r : List Int) (w : World) (h : trommelref17_Varint.f k a0 = some r) :
    Calls Try.prog 33 #[.int .i64 a0] w fun e w' => ∃ v0_ : Value, e = .returned (v0_) ∧ Kd.R (Kd.int .u8) 5 w' w.heap.size (fun _ => True) v0_ r ∧ Below w.heap.size w w' := by
  have HB := Aside0.mk (Below.refl w.heap.size w)
  have H : (trommelref17_Varint.l0 k a0 ([] : List Int)) = some r := h
  clear h
  have H' := Aside0.mk H
  clear H
  go_enter Try.func33, Try.ntmps33
  go_wp2
  go_loopg [0, 3] k (fun kq v0 v3 w' => ∃ (x0_1 : Int) (x3_1 : List Int), v0 = .int .i64 x0_1 ∧ Aside0 (trommelref17_Varint.l0 kq x0_1 x3_1 = some r) ∧ Aside0 (kq ≤ k) ∧ Aside0 (Kd.R (Kd.int .u8) 5 w' w.heap.size (fun _ => True) v3 x3_1) ∧ Aside0 (Below w.heap.size w w'))
  case atStart => exact ⟨(a0), (([] : List Int)), (by first | rfl | (simp; done) | (simp [*]; done)), H', ⟨Nat.le_refl _⟩, ⟨by first | exact Kd.R_nil _ _ _ _ _ | exact Kd.N_nil _ _ _ _ _ | exact Kd.V_nil _ _ _ _ _ | exact Kd.Q_nil _ _ _ _ _ | exact Kd.S_nil _ _ _ _ _⟩, ⟨by repeat (first | (with_reducible first | exact HB.out | apply below_alloc | apply pw_below_drewN | apply below_drew1) | exact HB.out)⟩⟩
  case round =>
    clear H'
    obtain ⟨x0_1, x3_1, rfl, HA, HK1, HO_3, HB⟩ := hrel
    cases gk with
    | zero => exact absurd HA.out (by simp [trommelref17_Varint.l0])
    | succ k1 =>
      have H := HA.out
      clear HA
      simp only [trommelref17_Varint.l0] at H
      by_cases c2 : x0_1 ≥ 128
      · rw [if_pos c2] at H
        have c2b0 : decide (128 ≤ x0_1) = true := decide_eq_true c2
        clear c2
        by_cases c3 : x3_1.length < 140737488355328
        · rw [if_pos c3] at H
          have LMc3 := Aside0.mk c3
          clear c3
          obtain ⟨y173, hy173⟩ : ∃ y_ : List Int, y_ = (x3_1 ++ [(wrap64 ((Int.tmod x0_1 128) + 128)) % 256]) := ⟨_, rfl⟩
          replace H : (trommelref17_Varint.l0 k1 (wrap64 (Int.tdiv x0_1 128)) y173) = some r := by first | (rw [hy173]; with_reducible exact H) | (have H2_ := (Option.bind_some _ _).symm.trans H; rw [hy173]; with_reducible exact H2_) | (have H2_ := (Option.bind_some _ _).symm.trans H; with_reducible exact H2_) | with_reducible exact H | (rw [hy173]; exact H) | exact H
          have Ny173 := Aside0.mk hy173
          clear hy173
          have H' := Aside0.mk H
          clear H
          go_wp2_with (first | ((with_reducible refine gate_builtin (b := .append) (xs := #[.tmp 6, .tmp 11]) rfl ?_); at_builtin; refine Kd.R_append (Kd.int .u8) (w0 := w) w.heap.size rfl (.tmp 6) (.tmp 11) 24 5 (.int .u8 0) 1 rfl Try.underlying24 info5 rfl (by decide) (by omega) u3 x3_1 ((wrap64 ((Int.tmod x0_1 128) + 128)) % 256) [.int .u8 ((wrap64 ((Int.tmod x0_1 128) + 128)) % 256)] (fun _ => True) (fun _ => False) rfl rfl ?aP (fun _ hk => hk.elim) ?aF ?aO ?aB ?aS ?aL ?_; (case aP => exact rfl); (case aB => exact (by repeat (first | (with_reducible first | exact HB.out | apply below_alloc | apply pw_below_drewN | apply below_drew1) | exact HB.out))); (case aF => exact (fun _ _ => trivial)); (case aO => exact (by (with_reducible repeat (first | apply Kd.R_alloc | apply Kd.R_drewN | apply Kd.R_drew)); exact HO_3.out)); (case aS => exact (below_size (by repeat (first | (with_reducible first | exact HB.out | apply below_alloc | apply pw_below_drewN | apply below_drew1) | exact HB.out)))); (case aL => have := LMc3.out; omega); intro v174 w4 ho hb hg hat; rw [← Ny173.out] at ho; have n0_ := Aside0.mk (hb); have n1_ := Aside0.mk (ho); clear HB; clear HO_3; have HB := n0_; have HO175 := n1_; clear n0_ n1_; clear ho hb hg hat))
          go_roundg k1
          case measure => have := HK1.out; omega
          case rel => exact ⟨(wrap64 (Int.tdiv x0_1 128)), (y173), (by first | rfl | (simp; done) | (simp [*]; done)), H', ⟨by have := HK1.out; omega⟩, ⟨by (with_reducible repeat (first | apply Kd.R_alloc | apply Kd.R_drewN | apply Kd.R_drew)); exact HO175.out⟩, ⟨by repeat (first | (with_reducible first | exact HB.out | apply below_alloc | apply pw_below_drewN | apply below_drew1) | exact HB.out)⟩⟩
        · rw [if_neg c3] at H
          exact absurd H (by simp)
      · rw [if_neg c2] at H
        have c2b0 : decide (128 ≤ x0_1) = false := decide_eq_false c2
        clear c2
        by_cases c5 : x3_1.length < 140737488355328
        · rw [if_pos c5] at H
          have LMc5 := Aside0.mk c5
          clear c5
          obtain ⟨y176, hy176⟩ : ∃ y_ : List Int, y_ = (x3_1 ++ [(x0_1) % 256]) := ⟨_, rfl⟩
          replace H : (some y176) = some r := by first | (rw [hy176]; with_reducible exact H) | (have H2_ := (Option.bind_some _ _).symm.trans H; rw [hy176]; with_reducible exact H2_) | (have H2_ := (Option.bind_some _ _).symm.trans H; with_reducible exact H2_) | with_reducible exact H | (rw [hy176]; exact H) | exact H
          have Ny176 := Aside0.mk hy176
          clear hy176
          obtain rfl := Option.some.inj H
          go_wp2_with (first | ((with_reducible refine gate_builtin (b := .append) (xs := #[.tmp 15, .tmp 18]) rfl ?_); at_builtin; refine Kd.R_append (Kd.int .u8) (w0 := w) w.heap.size rfl (.tmp 15) (.tmp 18) 24 5 (.int .u8 0) 1 rfl Try.underlying24 info5 rfl (by decide) (by omega) u3 x3_1 ((x0_1) % 256) [.int .u8 ((x0_1) % 256)] (fun _ => True) (fun _ => False) rfl rfl ?aP (fun _ hk => hk.elim) ?aF ?aO ?aB ?aS ?aL ?_; (case aP => exact rfl); (case aB => exact (by repeat (first | (with_reducible first | exact HB.out | apply below_alloc | apply pw_below_drewN | apply below_drew1) | exact HB.out))); (case aF => exact (fun _ _ => trivial)); (case aO => exact (by (with_reducible repeat (first | apply Kd.R_alloc | apply Kd.R_drewN | apply Kd.R_drew)); exact HO_3.out)); (case aS => exact (below_size (by repeat (first | (with_reducible first | exact HB.out | apply below_alloc | apply pw_below_drewN | apply below_drew1) | exact HB.out)))); (case aL => have := LMc5.out; omega); intro v177 w6 ho hb hg hat; rw [← Ny176.out] at ho; have n0_ := Aside0.mk (hb); have n1_ := Aside0.mk (ho); clear HB; clear HO_3; have HB := n0_; have HO178 := n1_; clear n0_ n1_; clear ho hb hg hat))
          go_ret
          exact ⟨_, by first | rfl | (simp [errW_none, errW_some] <;> rfl) | (simp [*, errW_none, errW_some] <;> rfl), by (with_reducible repeat (first | apply Kd.R_alloc | apply Kd.R_drewN | apply Kd.R_drew)); exact HO178.out, by repeat (first | (with_reducible first | exact HB.out | apply below_alloc | apply pw_below_drewN | apply below_drew1) | exact HB.out)⟩
        · rw [if_neg c5] at H
          exact absurd H (by simp)

/-! ### trommelref17_one: function 28 -/
section
variable {P : Program}
/-- append(b, s..), s a string, at a step of a region that draws. -/
theorem step_append_str {w : World} {ops : Array Oper} {o : Oper} {a : Act} {K : Act → World → Prop} {Q : Exit → Act → World → Prop} {E : Prop} (hgd : o.guard = none) (s x : Operand) (t u e : TypeId)
    (ho : o.op = .call { callee := .builtin .append, args := #[s, x], argTypes := #[t, u] })
    (base : Nat) (ht : P.underlying t = some (.slice e)) (hu : P.underlying u = some .string) (hinfo : (P.info? e).map (fun i => (i.zero, i.size, i.bytes)) = some (some (.int .u8 0), 1, 1))
    (v : Value) (n : Nat) (xs : List Value) (hs : a.eval s = v) (hown : w.ownsRow base e 1 v n xs) (y : ByteArray) (hx : a.eval x = .string y)
    (hbytes : n + y.size ≤ 140737488355328) (hbase : base ≤ w.heap.size)
    (h : ∀ v' w', w'.ownsRow base e 1 v' (n + y.size) (xs ++ Lib.strCells y) → w.grownBy w' v.ownBlock → K (a.put o.dst v') w') :
    if Region.wanted o (yielded ops a.tmps) = true then Oper.wp P o a w K Q else E := by
  have hw : Region.wanted o (yielded ops a.tmps) = true := by simp [Region.wanted, hgd]
  rw [if_pos hw]
  obtain ⟨i0, hi, hzz⟩ := Option.map_eq_some_iff.1 hinfo
  simp only [Prod.mk.injEq] at hzz
  obtain ⟨hz0, hz1, hz2⟩ := hzz
  obtain ⟨v1, w1, hr, hown, hg, _⟩ := Lib.run_append_own_string (P := P) w base t u o.type e i0 ht hu hi hz0 hz1 hz2 v n xs hown y (by simp only [maxLen]; omega) hbytes hbase
  unfold Oper.wp execOp
  simp only [ho, resolve, invoke, builtin, Sem.run_bind, Sem.run_pure, Result.andThen_ok, List.map_toArray, List.map_cons, List.map_nil, hs, hx, hr]
  exact h v1 w1 hown hg
end
theorem one_cells {w : World} {A : Option Addr} {l : List Int} (h : Kd.C (Kd.int .u8) w A l.length l) (hn : l ≠ []) : ∃ ad, A = some ad ∧ ∀ j u, (Ext.bytesV l)[j]? = some u → w.cell? (ad.add j) = some u := by
  obtain ⟨ad, rfl, _⟩ := Ext.byte_cell h 0 (List.length_pos_iff.2 hn)
  refine ⟨ad, rfl, fun j u hu => ?_⟩
  have hj : j < l.length := by
    rcases Nat.lt_or_ge j l.length with h1 | h1
    · exact h1
    · rw [List.getElem?_eq_none (by simpa [Ext.bytesV] using h1)] at hu; cases hu
  obtain ⟨ad', e, hc⟩ := Ext.byte_cell h j hj
  obtain rfl : ad = ad' := by injection e
  rw [hc]
  simp [Ext.bytesV, List.getElem?_eq_getElem hj] at hu
  rw [← hu, List.getD_eq_getElem?_getD, List.getElem?_eq_getElem hj]
  rfl
theorem cells_alloc {w : World} {ad : Addr} {l : List Value} (h : ∀ j u, l[j]? = some u → w.cell? (ad.add j) = some u) (o : Obj) : ∀ j u, l[j]? = some u → (w.alloc o).cell? (ad.add j) = some u := fun j u hu => Lib.cell?_alloc_marked o (h j u hu)
theorem own_one (W : World) (x : Int) {base : Nat} (hb : base ≤ W.heap.size) : (W.alloc (.cells #[.int .u8 x] 5)).ownsRow base 5 1 (.slice (some ⟨W.heap.size, 0, none⟩) 1 1) 1 [.int .u8 x] :=
  ⟨rfl, .inr ⟨W.heap.size, 1, _, rfl, hb, heap_alloc_new W _, by omega, by unfold maxLen; omega, by simp, by simp⟩⟩
theorem bytesV_one (l : List Int) : ∀ u ∈ Ext.bytesV l, u.oneCell' = true := fun u hu => by obtain ⟨x, _, rfl⟩ := List.mem_map.1 hu; rfl
theorem ne_some {w0 : World} {g0 n : Nat} {o : Obj} (h : w0.heap[g0]? = some o) (hn : w0.heap.size ≤ n) : some g0 ≠ some n := fun e => by have h1 := blk_lt h; have h2 := Option.some.inj e; omega
theorem keep_far {W w6 : World} {row : Option Nat} {g0 : Nat} {o : Obj} (hb : W.heap[g0]? = some o) (hg : W.grownBy w6 row) (hne : some g0 ≠ row) : w6.heap[g0]? = some o := (hg.block g0 (blk_lt hb) hne).trans hb
theorem own_kept {W w1 : World} {base e size n : Nat} {v : Value} {xs : List Value} (h : W.ownsRow base e size v n xs) (hb : Below W.drew.heap.size W.drew w1) : w1.ownsRow base e size v n xs := pw_own_below h ⟨hb.os, hb.tape, hb.output, hb.size, hb.block⟩
theorem own_drew {W : World} {base e size n : Nat} {v : Value} {xs : List Value} (h : W.ownsRow base e size v n xs) : W.drew.ownsRow base e size v n xs := h
theorem grow_below {w0 W w6 : World} {G : Nat} (hb : Below w0.heap.size w0 W) (hg : W.grownBy w6 (some G)) (hG : w0.heap.size ≤ G) : Below w0.heap.size w0 w6 := hb.grown hg hb.size (fun k e => by have := Option.some.inj e; omega)
def trommelref17_one.f (k : Nat) (a0_0 : Int) (a0_1 : Int) (a0_2 : ByteArray) : Option (List Int) :=
  (trommelref17_Varint.f k a0_1).bind fun t => if t = [] ∨ 1000000 < t.length ∨ 1000000 < a0_2.size then none else
    (trommelref17_Varint.f k ((IntKind.u8.wrap a0_0 :: t ++ Ext.textL a0_2).length : Int)).bind fun t2 => if t2 = [] ∨ 1000000 < t2.length then none else
      trommelref17_sealed.f k (67 :: t2 ++ (IntKind.u8.wrap a0_0 :: t ++ Ext.textL a0_2))
theorem trommelref17_one.mono : ∀ a0 a1 a2 k, LeO (trommelref17_one.f k a0 a1 a2) (trommelref17_one.f (k + 1) a0 a1 a2) := by
  intro a0 a1 a2 k
  unfold trommelref17_one.f
  exact LeO.bind (trommelref17_Varint.mono _ _) (fun _ => LeO.ite (LeO.none _) (LeO.bind (trommelref17_Varint.mono _ _) (fun _ => LeO.ite (LeO.none _) (trommelref17_sealed.mono _ _))))
set_option maxHeartbeats 4000000 in
set_option maxRecDepth 100000 in
theorem trommelref17_one.calls (k : Nat) (a0_0 : Int) (a0_1 : Int) (a0_2 : ByteArray) (r : List Int) (w : World) (h : trommelref17_one.f k a0_0 a0_1 a0_2 = some r) :
    Calls Try.prog 28 #[.agg #[.int .i64 a0_0, .int .i64 a0_1, .string a0_2]] w fun e w' => ∃ v0_ : Value, e = .returned (v0_) ∧ Kd.R (Kd.int .u8) 5 w' w.heap.size (fun _ => True) v0_ r ∧ Below w.heap.size w w' := by
  unfold trommelref17_one.f at h
  obtain ⟨t, hv, h⟩ := Option.bind_eq_some_iff.mp h
  split at h
  · cases h
  rename_i hn1
  obtain ⟨t2, hv2, h⟩ := Option.bind_eq_some_iff.mp h
  split at h
  · cases h
  rename_i hn2
  have AV := Aside0.mk hv
  have AV2 := Aside0.mk hv2
  have AS := Aside0.mk h
  have HN1 := Aside0.mk hn1
  have HN2 := Aside0.mk hn2
  obtain ⟨i0, hi, hz0, hz1, hz2⟩ := info_parts info5
  clear hv hv2 h hn1 hn2
  go_enter Try.func28, Try.ntmps28
  go_wp2_with (first
    | ((with_reducible refine gate_dst (N := 1) rfl ?_); refine box_event ?hg (N := 1) ?hd (cs := #[.int .i64 a0_0, .int .i64 a0_1, .string a0_2]) (t := 32) ?hr ?_; (case hd => rfl); (case hg => rfl); (case hr => first | (go_simp; done) | (go_simp; rfl)); intro g0 hg w0 hbox hb; have BK0 := Aside0.mk hbox; have HB0 := Aside0.mk (And.intro hg hb); clear hbox hb hg))
  have hx0 : w0.cell? ⟨g0, 0, none⟩ = some (.int .i64 a0_0) := (blk_cell BK0.out 0).trans rfl
  have hx1 : w0.cell? ⟨g0, 1, none⟩ = some (.int .i64 a0_1) := (blk_cell BK0.out 1).trans rfl
  have hx2 : w0.cell? ⟨g0, 2, none⟩ = some (.string a0_2) := (blk_cell BK0.out 2).trans rfl
  have HX := Aside0.mk (And.intro hx0 (And.intro hx1 hx2))
  go_region_held3 (fun w' => w'.cell? ⟨g0, 0, none⟩ = some (.int .i64 a0_0) ∧ w'.cell? ⟨g0, 1, none⟩ = some (.int .i64 a0_1) ∧ w'.cell? ⟨g0, 2, none⟩ = some (.string a0_2))
    (go_keep)
    (first
      | (go_at_call 33; refine (trommelref17_Varint.calls k a0_1 t _ AV.out).mono ?_; rintro e w5 ⟨v5, rfl, ho5, hb5⟩; have HB5 := Aside0.mk (below_step (show Below w0.heap.size w0 _ from by repeat (first | exact Below.refl _ _ | apply below_drew | apply below_alloc)) hb5); have HBS := Aside0.mk hb5; have HK5 := Aside0.mk (blk_below BK0.out HB5.out); have hs5 := HB5.out.size; have HNA := Aside0.mk (ne_some BK0.out (Nat.le_refl _)); have HNB := Aside0.mk (ne_some BK0.out HB5.out.size); have hy0 := cell_later HB5.out HX.out.1; have hy1 := cell_later HB5.out HX.out.2.1; have hy2 := cell_later HB5.out HX.out.2.2; obtain ⟨A5, c5, rfl, hl5, hC5⟩ := Kd.R_reads ho5; obtain ⟨ad5, rfl, hcl⟩ := one_cells hC5 (fun e => HN1.out (.inl e)); have HC5 := Aside0.mk hcl; clear ho5 hC5 hcl hb5)
      | (refine step_append_lies _ (by rfl) (.tmp 7) (.tmp 10) 24 (by rfl) w0.heap.size 5 i0 (.int .u8 0) 1 1 Try.underlying24 hi hz0 hz1 hz2 rfl (by decide) _ 1 [.int .u8 (IntKind.u8.wrap a0_0)] (by rfl) (by first | exact own_one _ _ hs5 | exact own_kept (own_one _ _ (Nat.le_refl _)) HBS.out | exact own_drew (own_one _ _ hs5)) ad5 t.length c5 (Ext.bytesV t) (by rfl) (by simp [Ext.bytesV]) (by first | exact HC5.out | exact cells_alloc HC5.out _) (bytesV_one t) (List.length_pos_iff.2 (fun e => HN1.out (.inl e))) (by have h_ := HN1.out; unfold maxLen; omega) (by have h_ := HN1.out; omega) (by first | exact hs5 | (simp; omega)) _ rfl ?_; intro g6 cap6 w6 hown6 hgrow6 hat6 hlt6; have HK6 : Aside0 (w6.heap[g0]? = some (.cells #[.int .i64 a0_0, .int .i64 a0_1, .string a0_2] 32 (0, 0))) := (by first | exact ⟨keep_far HK5.out hgrow6 HNA.out⟩ | exact ⟨keep_far (blk_alloc HK5.out _) hgrow6 HNB.out⟩); have hb6 : Aside0 (Below w0.heap.size w0 w6) := (by first | exact ⟨grow_below HB5.out hgrow6 (Nat.le_refl _)⟩ | exact ⟨grow_below (below_alloc HB5.out _) hgrow6 hs5⟩); have hu0 : w6.cell? ⟨g0, 0, none⟩ = some (.int .i64 a0_0) := (blk_cell HK6.out 0).trans rfl; have hu1 : w6.cell? ⟨g0, 1, none⟩ = some (.int .i64 a0_1) := (blk_cell HK6.out 1).trans rfl; have hu2 : w6.cell? ⟨g0, 2, none⟩ = some (.string a0_2) := (blk_cell HK6.out 2).trans rfl; have HO6 := Aside0.mk hown6; have HGE := Aside0.mk (show w0.heap.size ≤ g6 from own_base hown6 g6 rfl); have HNG := Aside0.mk (ne_some BK0.out HGE.out); clear hown6 hgrow6 hat6)
      | (refine step_append_str (by rfl) (.tmp 11) (.tmp 13) 24 9 5 (by rfl) w0.heap.size Try.underlying24 Try.underlying9 info5 _ (1 + t.length) ([.int .u8 (IntKind.u8.wrap a0_0)] ++ Ext.bytesV t) (by rfl) HO6.out a0_2 (by rfl) (by have h_ := HN1.out; omega) hb6.out.size ?_; intro v7 w7 hown7 hgrow7; have HK7 := Aside0.mk (keep_far HK6.out hgrow7 HNG.out); have hb7 : Aside0 (Below w0.heap.size w0 w7) := ⟨grow_below hb6.out hgrow7 HGE.out⟩; have hu0 : w7.cell? ⟨g0, 0, none⟩ = some (.int .i64 a0_0) := (blk_cell HK7.out 0).trans rfl; have hu1 : w7.cell? ⟨g0, 1, none⟩ = some (.int .i64 a0_1) := (blk_cell HK7.out 1).trans rfl; have hu2 : w7.cell? ⟨g0, 2, none⟩ = some (.string a0_2) := (blk_cell HK7.out 2).trans rfl; have HO7 := Aside0.mk hown7; clear hown7 hgrow7)
      | fail)
  all_goals
    have hown8 : w7.ownsRow w0.heap.size 5 1 v7 (IntKind.u8.wrap a0_0 :: t ++ Ext.textL a0_2).length (Ext.bytesV (IntKind.u8.wrap a0_0 :: t ++ Ext.textL a0_2)) := by
      have h_ := HO7.out
      rw [Ext.text_app]
      have e_ : (IntKind.u8.wrap a0_0 :: t ++ Ext.textL a0_2).length = 1 + t.length + a0_2.size := by rw [List.length_append, Ext.textL_len, List.length_cons]; omega
      rw [e_]
      exact h_
    have hL := (show (IntKind.u8.wrap a0_0 :: t ++ Ext.textL a0_2).length = 1 + t.length + a0_2.size from by rw [List.length_append, Ext.textL_len, List.length_cons]; omega)
    have hLb : (IntKind.u8.wrap a0_0 :: t ++ Ext.textL a0_2).length ≤ 3000000 := by have h_ := HN1.out; omega
    have hL0 : 0 < (IntKind.u8.wrap a0_0 :: t ++ Ext.textL a0_2).length := by omega
    have HBW := Aside0.mk (below_then HB0.out.2 (HB0.out.2.size) hb7.out)
    clear hL HO7 HK7 HK6 hu0 hu1 hu2 hx0 hx1 hx2 hy0 hy1 hy2 hb7 hb6 HGE HNG HO6
    generalize (IntKind.u8.wrap a0_0 :: t ++ Ext.textL a0_2) = L at *
    have HO8 := Aside0.mk hown8
    obtain ⟨a7, c7, n7, rfl, hn7⟩ := Ext.own_form2 hown8
    clear hown8
    go_wp2_with (fail)
    rw [hn7.out]
    refine (trommelref17_Varint.calls k _ t2 _ AV2.out).mono ?_
    rintro e w8 ⟨v8, rfl, ho8, hb8⟩
    obtain ⟨A8, c8, rfl, hl8, hC8⟩ := Kd.R_reads ho8
    obtain ⟨ad8, rfl, hcl8⟩ := one_cells hC8 (fun e => HN2.out (.inl e))
    have HC8 := Aside0.mk hcl8
    have HOa := Aside0.mk (pw_own_below (own_one w7 67 (Nat.le_refl _)) hb8)
    have HOb := Aside0.mk (pw_own_below (HO8.out.alloc _) hb8)
    have HB8 := Aside0.mk (below_step (below_alloc (Below.refl w7.heap.size w7) _) hb8)
    have h2b : t2.length ≤ 1000000 := by have h_ := HN2.out; omega
    have hs8 := HB8.out.size
    clear ho8 hC8 hcl8 hb8
    have e7 := hn7.out
    subst e7
    clear hn7
    go_wp2_with (first | (at_builtin; refine wpList_append_own _ rfl (.tmp 15) (.tmp 18) 24 rfl w7.heap.size 5 i0 (.int .u8 0) 1 1 Try.underlying24 hi hz0 hz1 hz2 rfl (by decide) _ 1 [.int .u8 67] rfl HOa.out ad8 t2.length c8 (Ext.bytesV t2) rfl ?c0 HC8.out ?c2 ?c3 ?c4 ?c5 ?_))
    case c0 => simp [Ext.bytesV]
    case c2 => exact bytesV_one t2
    case c3 => unfold maxLen; omega
    case c4 => omega
    case c5 => omega
    intro v9 w9 hown9 hgrow9 _
    have HOc := Aside0.mk (show w9.ownsRow w7.heap.size 5 1 v9 (67 :: t2).length (Ext.bytesV (67 :: t2)) from by
      have e_ : (67 :: t2).length = 1 + t2.length := by rw [List.length_cons]; omega
      rw [e_]; exact hown9)
    have HOd := Aside0.mk (Ext.own_block_move HOb.out (fun j hj => hgrow9.block j (own_lt HOb.out j hj) (fun e => by
      have h1 := own_lt HO8.out j hj
      have h2 := Option.some.inj e
      simp at h2
      omega)))
    have HB9 := Aside0.mk (HB8.out.grown hgrow9 hs8 (fun j hj => own_base HOa.out j hj))
    obtain ⟨a9, c9, n9, rfl, hn9⟩ := Ext.own_form2 HOc.out
    obtain ⟨g7, cp7, eb, _⟩ := HOd.out.form hL0
    injection eb with e1 e2 e3
    subst e1
    subst e3
    clear e2
    have hs9 := HB9.out.size
    clear hown9 hgrow9 HOa HOb HB8 HC8
    go_wp2_with (first | (at_builtin; refine wpList_append_own _ rfl (.tmp 19) (.tmp 20) 24 rfl w7.heap.size 5 i0 (.int .u8 0) 1 1 Try.underlying24 hi hz0 hz1 hz2 rfl (by decide) _ (67 :: t2).length (Ext.bytesV (67 :: t2)) rfl HOc.out ⟨g7, 0, none⟩ L.length c7 (Ext.bytesV L) rfl ?c0 (HOd.out.cells rfl) ?c2 ?c3 ?c4 ?c5 ?_))
    case c0 => simp [Ext.bytesV]
    case c2 => exact bytesV_one L
    case c3 => rw [List.length_cons]; unfold maxLen; omega
    case c4 => rw [List.length_cons]; omega
    case c5 => omega
    intro v10 w10 hown10 hgrow10 _
    have HOe := Aside0.mk (show w10.ownsRow w7.heap.size 5 1 v10 (67 :: t2 ++ L).length (Ext.bytesV (67 :: t2 ++ L)) from by
      rw [Ext.bytesV_app, List.length_append]; exact hown10)
    have HB10 := Aside0.mk (HB9.out.grown hgrow10 hs9 (fun j hj => own_base HOc.out j hj))
    generalize 67 :: t2 ++ L = M at *
    obtain ⟨A10, c10, rfl, hl10, hC10⟩ := Kd.R_reads (bytes_R HOe.out)
    have HC10 := Aside0.mk hC10
    clear hown10 hgrow10 hC10
    go_wp2_with (fail)
    refine (trommelref17_sealed.calls k A10 c10 _ r _ HC10.out hl10 AS.out).mono ?_
    rintro e w11 ⟨v11, rfl, ho11, hb11⟩
    have HO11 := Aside0.mk ho11
    have hs10 := HB10.out.size
    have HBF := Aside0.mk (below_then (below_then HBW.out HBW.out.size HB10.out) (Nat.le_trans HBW.out.size hs10) hb11)
    have HR := Aside0.mk (Kd.R_lower ho11 (Nat.le_trans HBW.out.size hs10))
    obtain ⟨A11, c11, rfl⟩ := Kd.R_slice ho11
    clear ho11 hb11
    go_wp2
    go_ret
    exact ⟨_, rfl, HR.out, HBF.out⟩

/-! ### trommelref17_Encode: function 11 -/
def trommelref17_Encode.l0 : Nat → List (S32) → List Int → Int → Option (List Int × Int)
  | 0, _, _, _ => none
  | k + 1, x0, x4, x5 => if x5 < (x0.length : Int) then (if 0 ≤ x5 then ((trommelref16_May.f ((rd_T32 x0 x5).f0) ((rd_T32 x0 x5).f1) ((rd_T32 x0 x5).f2)).bind fun t180 => (if t180 = true then ((trommelref17_one.f k ((rd_T32 x0 x5).f0) ((rd_T32 x0 x5).f1) ((rd_T32 x0 x5).f2)).bind fun t182 => (if x4.length + t182.length < 140737488355328 then (trommelref17_Encode.l0 k x0 (x4 ++ t182) (wrap64 (x5 + 1))) else (none))) else (some (([] : List Int), 1)))) else (none)) else (some (x4, 0))
def trommelref17_Encode.f (k : Nat) (l0 : List (S32)) : Option (List Int × Int) := trommelref17_Encode.l0 k l0 ([] : List Int) 0
theorem trommelref17_Encode.mono_l : ∀ k, (∀ y0 y1 y2, LeO (trommelref17_Encode.l0 k y0 y1 y2) (trommelref17_Encode.l0 (k + 1) y0 y1 y2))
  | 0 => fun _ _ _ r h => by simp [trommelref17_Encode.l0] at h
  | k + 1 => by
    have ih0 := trommelref17_Encode.mono_l k
    · intro y0 y1 y2
      unfold trommelref17_Encode.l0
      repeat' first
      | (with_reducible exact ih0 _ _ _)
      | (with_reducible exact trommelref17_one.mono _ _ _ _)
      | (with_reducible exact LeO.refl _)
      | (with_reducible exact LeO.none _)
      | (with_reducible refine LeO.ite ?_ ?_)
      | (with_reducible refine LeO.bind ?_ (fun _ => ?_))
      | exact ih0 _ _ _
      | exact trommelref17_one.mono _ _ _ _
      | exact LeO.none _
      | refine LeO.ite ?_ ?_
      | refine LeO.bind ?_ (fun _ => ?_)
theorem trommelref17_Encode.mono : ∀ a0 k, LeO (trommelref17_Encode.f k a0) (trommelref17_Encode.f (k + 1) a0) := by
  intro a0 k
  have ih0 := trommelref17_Encode.mono_l k
  unfold trommelref17_Encode.f
  repeat' first
      | (with_reducible exact ih0 _ _ _)
      | (with_reducible exact trommelref17_one.mono _ _ _ _)
      | (with_reducible exact LeO.refl _)
      | (with_reducible exact LeO.none _)
      | (with_reducible refine LeO.ite ?_ ?_)
      | (with_reducible refine LeO.bind ?_ (fun _ => ?_))
      | exact ih0 _ _ _
      | exact trommelref17_one.mono _ _ _ _
      | exact LeO.none _
      | refine LeO.ite ?_ ?_
      | refine LeO.bind ?_ (fun _ => ?_)
set_option maxHeartbeats 8000000 in
set_option maxRecDepth 100000 in
theorem trommelref17_Encode.calls (k : Nat) (A0 : Option Addr) (c0 : Nat) (l0 : List (S32)) (r1 : List Int) (r2 : Int) (w : World) (hr0 : Kd.C k32 w A0 l0.length l0) (hc0 : l0.length ≤ c0) (h : trommelref17_Encode.f k l0 = some (r1, r2)) :
    Calls Try.prog 11 #[.slice A0 l0.length c0] w fun e w' => ∃ v0_ : Value, e = .returned (.tuple #[v0_, .int .i64 r2]) ∧ Kd.R (Kd.int .u8) 5 w' w.heap.size (fun _ => True) v0_ r1 ∧ Below w.heap.size w w' := by
  have hu32 := Try.underlying32
  have HR0 := Aside0.mk hr0
  have HC0 := Aside0.mk hc0
  clear hr0 hc0
  have HB := Aside0.mk (Below.refl w.heap.size w)
  have H : (trommelref17_Encode.l0 k l0 ([] : List Int) 0) = some (r1, r2) := h
  clear h
  have H' := Aside0.mk H
  clear H
  go_enter Try.func11, Try.ntmps11
  go_wp2
  go_loopg [4, 5] k (fun kq v4 v5 w' => ∃ (x4_1 : List Int) (x5_1 : Int), v5 = .int .i64 x5_1 ∧ Aside0 (trommelref17_Encode.l0 kq l0 x4_1 x5_1 = some (r1, r2)) ∧ Aside0 (kq ≤ k) ∧ Aside0 (Kd.R (Kd.int .u8) 5 w' w.heap.size (fun _ => True) v4 x4_1) ∧ Aside0 (Below w.heap.size w w'))
  case atStart => exact ⟨(([] : List Int)), (0), (by first | rfl | (simp; done) | (simp [*]; done)), H', ⟨Nat.le_refl _⟩, ⟨by first | exact Kd.R_nil _ _ _ _ _ | exact Kd.N_nil _ _ _ _ _ | exact Kd.V_nil _ _ _ _ _ | exact Kd.Q_nil _ _ _ _ _ | exact Kd.S_nil _ _ _ _ _⟩, ⟨by repeat (first | (with_reducible first | exact HB.out | apply below_alloc | apply pw_below_drewN | apply below_drew1) | exact HB.out)⟩⟩
  case round =>
    clear H'
    try clear c1
    obtain ⟨x4_1, x5_1, rfl, HA, HK1, HO_4, HB⟩ := hrel
    cases gk with
    | zero => exact absurd HA.out (by simp [trommelref17_Encode.l0])
    | succ k1 =>
      have H := HA.out
      clear HA
      simp only [trommelref17_Encode.l0] at H
      by_cases c2 : x5_1 < (l0.length : Int)
      · rw [if_pos c2] at H
        have c2b0 : decide (x5_1 < (l0.length : Int)) = true := decide_eq_true c2
        clear c2
        by_cases c3 : 0 ≤ x5_1
        · rw [if_pos c3] at H
          have c3b0 : decide (0 ≤ x5_1) = true := decide_eq_true c3
          clear c3
          replace H := Option.bind_eq_some_iff.mp H
          obtain ⟨t180, A40, H⟩ := H
          replace H : (if t180 = true then ((trommelref17_one.f k1 ((rd_T32 l0 x5_1).f0) ((rd_T32 l0 x5_1).f1) ((rd_T32 l0 x5_1).f2)).bind fun t182 => (if x4_1.length + t182.length < 140737488355328 then (trommelref17_Encode.l0 k1 l0 (x4_1 ++ t182) (wrap64 (x5_1 + 1))) else (none))) else (some (([] : List Int), 1))) = some (r1, r2) := H
          have A4 := Aside0.mk A40
          clear A40
          by_cases c5 : t180 = true
          · subst c5
            have H1 : ((trommelref17_one.f k1 ((rd_T32 l0 x5_1).f0) ((rd_T32 l0 x5_1).f1) ((rd_T32 l0 x5_1).f2)).bind fun t182 => (if x4_1.length + t182.length < 140737488355328 then (trommelref17_Encode.l0 k1 l0 (x4_1 ++ t182) (wrap64 (x5_1 + 1))) else (none))) = some (r1, r2) := by rw [if_pos rfl] at H; exact H
            clear H
            have H := H1
            clear H1
            replace H := Option.bind_eq_some_iff.mp H
            obtain ⟨t182, A60, H⟩ := H
            replace H : (if x4_1.length + t182.length < 140737488355328 then (trommelref17_Encode.l0 k1 l0 (x4_1 ++ t182) (wrap64 (x5_1 + 1))) else (none)) = some (r1, r2) := H
            have A6 := Aside0.mk A60
            clear A60
            by_cases c7 : x4_1.length + t182.length < 140737488355328
            · rw [if_pos c7] at H
              have LMc7 := Aside0.mk c7
              clear c7
              obtain ⟨y185, hy185⟩ : ∃ y_ : List Int, y_ = (x4_1 ++ t182) := ⟨_, rfl⟩
              replace H : (trommelref17_Encode.l0 k1 l0 y185 (wrap64 (x5_1 + 1))) = some (r1, r2) := by first | (rw [hy185]; with_reducible exact H) | (have H2_ := (Option.bind_some _ _).symm.trans H; rw [hy185]; with_reducible exact H2_) | (have H2_ := (Option.bind_some _ _).symm.trans H; with_reducible exact H2_) | with_reducible exact H | (rw [hy185]; exact H) | exact H
              have Ny185 := Aside0.mk hy185
              clear hy185
              have H' := Aside0.mk H
              clear H
              have p179 : 0 ≤ (x5_1 : Int) := of_decide_eq_true (by first | (with_reducible assumption) | assumption)
              have q179 : x5_1 < (l0.length : Int) := of_decide_eq_true (by first | (with_reducible assumption) | assumption)
              obtain ⟨ad179, e179, hx179_0, hx179_1, hx179_2⟩ := at_T32 HR0.out x5_1 p179 q179
              cases e179
              replace hx179_0 := (HB.out.cell (World.block_lt_of_cell? w _ hx179_0)).trans hx179_0
              replace hx179_1 := (HB.out.cell (World.block_lt_of_cell? w _ hx179_1)).trans hx179_1
              replace hx179_2 := (HB.out.cell (World.block_lt_of_cell? w _ hx179_2)).trans hx179_2
              replace p179 := eq_true p179
              replace q179 := eq_true q179
              go_wp2_with (first | ((with_reducible refine gate_callee (f := 16) rfl ?_); refine goesL_ (some 16) rfl rfl Try.func16 (by kernel_rfl) rfl #[.agg #[.int .i64 ((rd_T32 l0 x5_1).f0), .int .i64 ((rd_T32 l0 x5_1).f1), .string ((rd_T32 l0 x5_1).f2)]] rfl (by (try simp only [List.map_toArray, List.map_cons, List.map_nil]); first | done | rfl | (simp only [List.length_drop, List.length_take]; rfl)) ?_; (with_reducible refine (trommelref16_May.calls ((rd_T32 l0 x5_1).f0) ((rd_T32 l0 x5_1).f1) ((rd_T32 l0 x5_1).f2) true _ A4.out).mono ?_); rintro e w8 ⟨rfl, hb⟩; refine ⟨_, rfl, ?_⟩; have n0_ := Aside0.mk (Kd.R_below (by (with_reducible repeat (first | apply Kd.R_alloc | apply Kd.R_drewN | apply Kd.R_drew)); exact HO_4.out) hb); have n1_ := Aside0.mk (below_step (by repeat (first | (with_reducible first | exact HB.out | apply below_alloc | apply pw_below_drewN | apply below_drew1) | exact HB.out)) hb); clear HO_4; clear HB; have HO_4 := n0_; have HB := n1_; clear n0_ n1_; (try clear hb); (try clear hb2); (try clear hk); (try clear hi); have p181 : 0 ≤ (x5_1 : Int) := of_decide_eq_true (by first | (with_reducible assumption) | assumption); have q181 : x5_1 < (l0.length : Int) := of_decide_eq_true (by first | (with_reducible assumption) | assumption); obtain ⟨ad181, e181, hx181_0, hx181_1, hx181_2⟩ := at_T32 HR0.out x5_1 p181 q181; obtain rfl : ad179 = ad181 := (by injection e181); replace hx181_0 := (HB.out.cell (World.block_lt_of_cell? w _ hx181_0)).trans hx181_0; replace hx181_1 := (HB.out.cell (World.block_lt_of_cell? w _ hx181_1)).trans hx181_1; replace hx181_2 := (HB.out.cell (World.block_lt_of_cell? w _ hx181_2)).trans hx181_2; replace p181 := eq_true p181; replace q181 := eq_true q181) | ((with_reducible refine gate_callee (f := 28) rfl ?_); refine goesL_ (some 23) rfl rfl Try.func28 (by kernel_rfl) rfl #[.agg #[.int .i64 ((rd_T32 l0 x5_1).f0), .int .i64 ((rd_T32 l0 x5_1).f1), .string ((rd_T32 l0 x5_1).f2)]] rfl (by (try simp only [List.map_toArray, List.map_cons, List.map_nil]); first | done | rfl | (simp only [List.length_drop, List.length_take]; rfl)) ?_; (with_reducible refine (trommelref17_one.calls k1 ((rd_T32 l0 x5_1).f0) ((rd_T32 l0 x5_1).f1) ((rd_T32 l0 x5_1).f2) t182 _ A6.out).mono ?_); rintro e w9 ⟨v183, rfl, ho0, hb⟩; refine ⟨_, rfl, ?_⟩; have n0_ := Aside0.mk (Kd.R_elder' (by (with_reducible repeat (first | apply Kd.R_alloc | apply Kd.R_drewN | apply Kd.R_drew)); exact HO_4.out) (Kd.R_base ho0) hb); have n1_ := Aside0.mk (Kd.R_lower (Kd.R_new' ho0 (Kd.R_lt (by (with_reducible repeat (first | apply Kd.R_alloc | apply Kd.R_drewN | apply Kd.R_drew)); exact HO_4.out))) (below_size (by repeat (first | (with_reducible first | exact HB.out | apply below_alloc | apply pw_below_drewN | apply below_drew1) | exact HB.out)))); have n2_ := Aside0.mk (below_step (by repeat (first | (with_reducible first | exact HB.out | apply below_alloc | apply pw_below_drewN | apply below_drew1) | exact HB.out)) hb); clear HO_4; clear HB; have HO_4 := n0_; have HO184 := n1_; have HB := n2_; clear n0_ n1_ n2_; (try clear hb); (try clear hb2); (try clear hk); (try clear hi); (try clear ho0); obtain ⟨Ao11, co11, eo11⟩ := Kd.R_slice HO184.out; subst eo11) | ((with_reducible refine gate_builtin (b := .append) (xs := #[.tmp 18, .tmp 23]) rfl ?_); at_builtin; refine Kd.R_append_rows (Kd.int .u8) (w0 := w) w.heap.size rfl (.tmp 18) (.tmp 23) 24 5 (.int .u8 0) 1 rfl Try.underlying24 info5 rfl (by decide) (by omega) u4 x4_1 t182 _ _ _ (fun k_ => some k_ ≠ (.slice Ao11 t182.length co11 : Value).ownBlock) (fun _ => False) rfl rfl ?aO ?aR (fun _ _ h => h) (fun _ h => h.elim) ?aF ?aB ?aS ?aL ?_; (case aR => repeat (first | exact (Kd.R_reads' HO184.out).2.2 | (with_reducible refine Kd.C_alloc ?_ _) | (with_reducible refine Kd.C_drewN ?_ _) | (with_reducible refine Kd.C_drew ?_))); (case aB => exact (by repeat (first | (with_reducible first | exact HB.out | apply below_alloc | apply pw_below_drewN | apply below_drew1) | exact HB.out))); (case aF => exact (fun k_ hk => Kd.fresh' (Kd.R_lt (by (with_reducible repeat (first | apply Kd.R_alloc | apply Kd.R_drewN | apply Kd.R_drew)); exact HO184.out)) k_ hk)); (case aO => exact (by (with_reducible repeat (first | apply Kd.R_alloc | apply Kd.R_drewN | apply Kd.R_drew)); exact Kd.R_mono HO_4.out (fun _ hk => hk.2))); (case aS => exact (below_size (by repeat (first | (with_reducible first | exact HB.out | apply below_alloc | apply pw_below_drewN | apply below_drew1) | exact HB.out)))); (case aL => have := LMc7.out; omega); intro v186 w10 ho hb hg hat; rw [← Ny185.out] at ho; have n0_ := Aside0.mk (Kd.R_after (ok := (fun _ => True)) (by (with_reducible repeat (first | apply Kd.R_alloc | apply Kd.R_drewN | apply Kd.R_drew)); exact HO184.out) hg hat); have n1_ := Aside0.mk (hb); have n2_ := Aside0.mk (ho); clear HO184; clear HB; clear HO_4; have HO184 := n0_; have HB := n1_; have HO187 := n2_; clear n0_ n1_ n2_; clear ho hb hg hat))
              go_roundg k1
              case measure => have := HK1.out; omega
              case rel => exact ⟨(y185), (wrap64 (x5_1 + 1)), (by first | rfl | (simp; done) | (simp [*]; done)), H', ⟨by have := HK1.out; omega⟩, ⟨by (with_reducible repeat (first | apply Kd.R_alloc | apply Kd.R_drewN | apply Kd.R_drew)); exact Kd.R_mono HO187.out (fun _ hk => trivial)⟩, ⟨by repeat (first | (with_reducible first | exact HB.out | apply below_alloc | apply pw_below_drewN | apply below_drew1) | exact HB.out)⟩⟩
            · rw [if_neg c7] at H
              exact absurd H (by simp)
          · replace c5 := Bool.eq_false_iff.mpr c5
            subst c5
            have H1 : (some (([] : List Int), 1)) = some (r1, r2) := by rw [if_neg (show ¬ (false = true) by decide)] at H; exact H
            clear H
            have H := H1
            clear H1
            simp only [Option.some.injEq, Prod.mk.injEq] at H
            obtain ⟨rfl, rfl⟩ := H
            have p179 : 0 ≤ (x5_1 : Int) := of_decide_eq_true (by first | (with_reducible assumption) | assumption)
            have q179 : x5_1 < (l0.length : Int) := of_decide_eq_true (by first | (with_reducible assumption) | assumption)
            obtain ⟨ad179, e179, hx179_0, hx179_1, hx179_2⟩ := at_T32 HR0.out x5_1 p179 q179
            cases e179
            replace hx179_0 := (HB.out.cell (World.block_lt_of_cell? w _ hx179_0)).trans hx179_0
            replace hx179_1 := (HB.out.cell (World.block_lt_of_cell? w _ hx179_1)).trans hx179_1
            replace hx179_2 := (HB.out.cell (World.block_lt_of_cell? w _ hx179_2)).trans hx179_2
            replace p179 := eq_true p179
            replace q179 := eq_true q179
            go_wp2_with (first | ((with_reducible refine gate_callee (f := 16) rfl ?_); refine goesL_ (some 16) rfl rfl Try.func16 (by kernel_rfl) rfl #[.agg #[.int .i64 ((rd_T32 l0 x5_1).f0), .int .i64 ((rd_T32 l0 x5_1).f1), .string ((rd_T32 l0 x5_1).f2)]] rfl (by (try simp only [List.map_toArray, List.map_cons, List.map_nil]); first | done | rfl | (simp only [List.length_drop, List.length_take]; rfl)) ?_; (with_reducible refine (trommelref16_May.calls ((rd_T32 l0 x5_1).f0) ((rd_T32 l0 x5_1).f1) ((rd_T32 l0 x5_1).f2) false _ A4.out).mono ?_); rintro e w12 ⟨rfl, hb⟩; refine ⟨_, rfl, ?_⟩; have n0_ := Aside0.mk (Kd.R_below (by (with_reducible repeat (first | apply Kd.R_alloc | apply Kd.R_drewN | apply Kd.R_drew)); exact HO_4.out) hb); have n1_ := Aside0.mk (below_step (by repeat (first | (with_reducible first | exact HB.out | apply below_alloc | apply pw_below_drewN | apply below_drew1) | exact HB.out)) hb); clear HO_4; clear HB; have HO_4 := n0_; have HB := n1_; clear n0_ n1_; (try clear hb); (try clear hb2); (try clear hk); (try clear hi)))
            go_ret2
            exact ⟨_, by first | rfl | (simp [errW_none, errW_some] <;> rfl) | (simp [*, errW_none, errW_some] <;> rfl), by first | exact Kd.R_nil _ _ _ _ _ | exact Kd.N_nil _ _ _ _ _ | exact Kd.V_nil _ _ _ _ _ | exact Kd.Q_nil _ _ _ _ _ | exact Kd.S_nil _ _ _ _ _, by repeat (first | (with_reducible first | exact HB.out | apply below_alloc | apply pw_below_drewN | apply below_drew1) | exact HB.out)⟩
        · rw [if_neg c3] at H
          exact absurd H (by simp)
      · rw [if_neg c2] at H
        have c2b0 : decide (x5_1 < (l0.length : Int)) = false := decide_eq_false c2
        clear c2
        simp only [Option.some.injEq, Prod.mk.injEq] at H
        obtain ⟨rfl, rfl⟩ := H
        go_wp2
        go_ret2
        exact ⟨_, by first | rfl | (simp [errW_none, errW_some] <;> rfl) | (simp [*, errW_none, errW_some] <;> rfl), by (with_reducible repeat (first | apply Kd.R_alloc | apply Kd.R_drewN | apply Kd.R_drew)); exact HO_4.out, by repeat (first | (with_reducible first | exact HB.out | apply below_alloc | apply pw_below_drewN | apply below_drew1) | exact HB.out)⟩

/-! ### trommelref17_Head: function 13 -/
def trommelref17_Head.j0 : Nat → Int → Bool → Option (List Int × Int)
  | 0, _, _ => none
  | k + 1, x0, x9 => if x9 = true then (some (([] : List Int), 2)) else ((some (([72] : List Int) : List Int)).bind fun y188 => ((trommelref17_Varint.f k x0).bind fun t191 => (if y188.length + t191.length < 140737488355328 then ((trommelref17_sealed.f k (y188 ++ t191)).bind fun t197 => (some (t197, 0))) else (none))))
def trommelref17_Head.f (k : Nat) (a0 : Int) : Option (List Int × Int) := if a0 < 1 then (trommelref17_Head.j0 k a0 true) else (trommelref17_Head.j0 k a0 (decide (a0 > 1099511627777)))
theorem trommelref17_Head.mono_l : ∀ k, (∀ y0 y1, LeO (trommelref17_Head.j0 k y0 y1) (trommelref17_Head.j0 (k + 1) y0 y1))
  | 0 => fun _ _ r h => by simp [trommelref17_Head.j0] at h
  | k + 1 => by
    have ih0 := trommelref17_Head.mono_l k
    · intro y0 y1
      unfold trommelref17_Head.j0
      repeat' first
      | (with_reducible exact ih0 _ _)
      | (with_reducible exact trommelref17_Varint.mono _ _)
      | (with_reducible exact trommelref17_sealed.mono _ _)
      | (with_reducible exact LeO.refl _)
      | (with_reducible exact LeO.none _)
      | (with_reducible refine LeO.ite ?_ ?_)
      | (with_reducible refine LeO.bind ?_ (fun _ => ?_))
      | exact ih0 _ _
      | exact trommelref17_Varint.mono _ _
      | exact trommelref17_sealed.mono _ _
      | exact LeO.none _
      | refine LeO.ite ?_ ?_
      | refine LeO.bind ?_ (fun _ => ?_)
theorem trommelref17_Head.mono : ∀ a0 k, LeO (trommelref17_Head.f k a0) (trommelref17_Head.f (k + 1) a0) := by
  intro a0 k
  have ih0 := trommelref17_Head.mono_l k
  unfold trommelref17_Head.f
  repeat' first
      | (with_reducible exact ih0 _ _)
      | (with_reducible exact trommelref17_Varint.mono _ _)
      | (with_reducible exact trommelref17_sealed.mono _ _)
      | (with_reducible exact LeO.refl _)
      | (with_reducible exact LeO.none _)
      | (with_reducible refine LeO.ite ?_ ?_)
      | (with_reducible refine LeO.bind ?_ (fun _ => ?_))
      | exact ih0 _ _
      | exact trommelref17_Varint.mono _ _
      | exact trommelref17_sealed.mono _ _
      | exact LeO.none _
      | refine LeO.ite ?_ ?_
      | refine LeO.bind ?_ (fun _ => ?_)
set_option maxHeartbeats 8000000 in
set_option maxRecDepth 100000 in
theorem trommelref17_Head.calls (k : Nat) (a0 : Int) (r1 : List Int) (r2 : Int) (w : World) (h : trommelref17_Head.f k a0 = some (r1, r2)) :
    Calls Try.prog 13 #[.int .i64 a0] w fun e w' => ∃ v0_ : Value, e = .returned (.tuple #[v0_, .int .i64 r2]) ∧ Kd.R (Kd.int .u8) 5 w' w.heap.size (fun _ => True) v0_ r1 ∧ Below w.heap.size w w' := by
  have HB := Aside0.mk (Below.refl w.heap.size w)
  have H : (if a0 < 1 then (trommelref17_Head.j0 k a0 true) else (trommelref17_Head.j0 k a0 (decide (a0 > 1099511627777)))) = some (r1, r2) := h
  clear h
  have HC2 := Aside0.mk H
  clear H
  go_enter Try.func13, Try.ntmps13
  go_upto_region 1 with (fail)
  go_cut [9] (fun v9 wc => ∃ (kq : Nat) (x9_1 : Bool), v9 = .bool x9_1 ∧ Aside0 (trommelref17_Head.j0 kq a0 x9_1 = some (r1, r2)) ∧ Aside0 (kq ≤ k) ∧ Aside0 (Below w.heap.size w wc))
  case first =>
    have H := HC2.out
    clear HC2
    by_cases c3 : a0 < 1
    · rw [if_pos c3] at H
      have c3b0 : decide (a0 < 1) = true := decide_eq_true c3
      clear c3
      (first | rw [c3b0] | (simp only [i64_w, i32_w]; rw [c3b0]) | skip)
      have H' := Aside0.mk H
      clear H
      go_wp2
      go_meet
      case rel => exact ⟨_, (true), (by first | rfl | (simp; done) | (simp [*]; done)), H', ⟨by first | omega | exact Nat.le_refl _⟩, ⟨by repeat (first | (with_reducible first | exact HB.out | apply below_alloc | apply pw_below_drewN | apply below_drew1) | exact HB.out)⟩⟩
    · rw [if_neg c3] at H
      have c3b0 : decide (a0 < 1) = false := decide_eq_false c3
      clear c3
      (first | rw [c3b0] | (simp only [i64_w, i32_w]; rw [c3b0]) | skip)
      have H' := Aside0.mk H
      clear H
      go_wp2
      go_meet
      case rel => exact ⟨_, (decide (a0 > 1099511627777)), (by first | rfl | (simp; done) | (simp [*]; done)), H', ⟨by first | omega | exact Nat.le_refl _⟩, ⟨by repeat (first | (with_reducible first | exact HB.out | apply below_alloc | apply pw_below_drewN | apply below_drew1) | exact HB.out)⟩⟩
  case rest =>
    clear HC2
    try clear c1
    try clear p2
    try clear c3
    try clear c3b0
    obtain ⟨kq, x9_1, rfl, HA, HJ1, HB⟩ := hcut
    cases kq with
    | zero => exact absurd HA.out (by simp [trommelref17_Head.j0])
    | succ kj1 =>
      have H := HA.out
      clear HA
      simp only [trommelref17_Head.j0] at H
      by_cases c4 : x9_1 = true
      · subst c4
        have H1 : (some (([] : List Int), 2)) = some (r1, r2) := by rw [if_pos rfl] at H; exact H
        clear H
        have H := H1
        clear H1
        simp only [Option.some.injEq, Prod.mk.injEq] at H
        obtain ⟨rfl, rfl⟩ := H
        go_wp2
        go_ret2
        exact ⟨_, by first | rfl | (simp [errW_none, errW_some] <;> rfl) | (simp [*, errW_none, errW_some] <;> rfl), by first | exact Kd.R_nil _ _ _ _ _ | exact Kd.N_nil _ _ _ _ _ | exact Kd.V_nil _ _ _ _ _ | exact Kd.Q_nil _ _ _ _ _ | exact Kd.S_nil _ _ _ _ _, by repeat (first | (with_reducible first | exact HB.out | apply below_alloc | apply pw_below_drewN | apply below_drew1) | exact HB.out)⟩
      · replace c4 := Bool.eq_false_iff.mpr c4
        subst c4
        have H1 : ((some (([72] : List Int) : List Int)).bind fun y188 => ((trommelref17_Varint.f kj1 a0).bind fun t191 => (if y188.length + t191.length < 140737488355328 then ((trommelref17_sealed.f kj1 (y188 ++ t191)).bind fun t197 => (some (t197, 0))) else (none)))) = some (r1, r2) := by rw [if_neg (show ¬ (false = true) by decide)] at H; exact H
        clear H
        have H := H1
        clear H1
        obtain ⟨y188, hy188⟩ : ∃ y_ : List Int, y_ = (([72] : List Int)) := ⟨_, rfl⟩
        replace H : ((trommelref17_Varint.f kj1 a0).bind fun t191 => (if y188.length + t191.length < 140737488355328 then ((trommelref17_sealed.f kj1 (y188 ++ t191)).bind fun t197 => (some (t197, 0))) else (none))) = some (r1, r2) := by first | (rw [hy188]; with_reducible exact H) | (have H2_ := (Option.bind_some _ _).symm.trans H; rw [hy188]; with_reducible exact H2_) | (have H2_ := (Option.bind_some _ _).symm.trans H; with_reducible exact H2_) | with_reducible exact H | (rw [hy188]; exact H) | exact H
        have Ny188 := Aside0.mk hy188
        clear hy188
        replace H := Option.bind_eq_some_iff.mp H
        obtain ⟨t191, A50, H⟩ := H
        replace H : (if y188.length + t191.length < 140737488355328 then ((trommelref17_sealed.f kj1 (y188 ++ t191)).bind fun t197 => (some (t197, 0))) else (none)) = some (r1, r2) := H
        have A5 := Aside0.mk A50
        clear A50
        by_cases c6 : y188.length + t191.length < 140737488355328
        · rw [if_pos c6] at H
          have LMc6 := Aside0.mk c6
          clear c6
          obtain ⟨y194, hy194⟩ : ∃ y_ : List Int, y_ = (y188 ++ t191) := ⟨_, rfl⟩
          replace H : ((trommelref17_sealed.f kj1 y194).bind fun t197 => (some (t197, 0))) = some (r1, r2) := by first | (rw [hy194]; with_reducible exact H) | (have H2_ := (Option.bind_some _ _).symm.trans H; rw [hy194]; with_reducible exact H2_) | (have H2_ := (Option.bind_some _ _).symm.trans H; with_reducible exact H2_) | with_reducible exact H | (rw [hy194]; exact H) | exact H
          have Ny194 := Aside0.mk hy194
          clear hy194
          replace H := Option.bind_eq_some_iff.mp H
          obtain ⟨t197, A70, H⟩ := H
          replace H : (some (t197, 0)) = some (r1, r2) := H
          have A7 := Aside0.mk A70
          clear A70
          simp only [Option.some.injEq, Prod.mk.injEq] at H
          obtain ⟨rfl, rfl⟩ := H
          go_wp2_with (first | ((with_reducible refine gate_dst (N := 10) rfl ?_); refine Kd.R_lit (Kd.int .u8) _ 5 ?hg (N := 10) ?hd (xs := ([72] : List Int)) (inner := [.int .u8 72]) (ok := fun _ => True) (okp := fun _ => True) ?hr ?hp (fun _ hk => hk) trivial (Below.refl _ _) (Nat.le_refl _) (by simp) ?_; (case hd => rfl); (case hg => rfl); (case hr => first | (go_simp; done) | (go_simp; rfl)); (case hp => exact (Reps.one (show Kd.M (Kd.int .u8) _ _ _ 72 [.int .u8 72] from rfl) (Reps.none _ _))); intro v189 w8 ho9 hb hg_ hnew_; clear hg_ hnew_; (first | rw [← Ny188.out] at ho9 | (simp only [Int.reduceToNat] at ho9; rw [← Ny188.out] at ho9)); have n0_ := Aside0.mk (Kd.R_lower ho9 (below_size (by repeat (first | (with_reducible first | exact HB.out | apply below_alloc | apply pw_below_drewN | apply below_drew1) | exact HB.out)))); have n1_ := Aside0.mk (below_step (by repeat (first | (with_reducible first | exact HB.out | apply below_alloc | apply pw_below_drewN | apply below_drew1) | exact HB.out)) hb); clear HB; have HO190 := n0_; have HB := n1_; clear n0_ n1_; clear hb ho9) | ((with_reducible refine gate_callee (f := 33) rfl ?_); refine goesL_ (some 12) rfl rfl Try.func33 (by kernel_rfl) rfl #[.int .i64 a0] rfl (by (try simp only [List.map_toArray, List.map_cons, List.map_nil]); first | done | rfl | (simp only [List.length_drop, List.length_take]; rfl)) ?_; (with_reducible refine (trommelref17_Varint.calls kj1 a0 t191 _ A5.out).mono ?_); rintro e w10 ⟨v192, rfl, ho0, hb⟩; refine ⟨_, rfl, ?_⟩; have n0_ := Aside0.mk (Kd.R_elder' (by (with_reducible repeat (first | apply Kd.R_alloc | apply Kd.R_drewN | apply Kd.R_drew)); exact HO190.out) (Kd.R_base ho0) hb); have n1_ := Aside0.mk (Kd.R_lower (Kd.R_new' ho0 (Kd.R_lt (by (with_reducible repeat (first | apply Kd.R_alloc | apply Kd.R_drewN | apply Kd.R_drew)); exact HO190.out))) (below_size (by repeat (first | (with_reducible first | exact HB.out | apply below_alloc | apply pw_below_drewN | apply below_drew1) | exact HB.out)))); have n2_ := Aside0.mk (below_step (by repeat (first | (with_reducible first | exact HB.out | apply below_alloc | apply pw_below_drewN | apply below_drew1) | exact HB.out)) hb); clear HO190; clear HB; have HO190 := n0_; have HO193 := n1_; have HB := n2_; clear n0_ n1_ n2_; (try clear hb); (try clear hb2); (try clear hk); (try clear hi); (try clear ho0); obtain ⟨Ao12, co12, eo12⟩ := Kd.R_slice HO193.out; subst eo12) | ((with_reducible refine gate_builtin (b := .append) (xs := #[.tmp 10, .tmp 12]) rfl ?_); at_builtin; refine Kd.R_append_rows (Kd.int .u8) (w0 := w) w.heap.size rfl (.tmp 10) (.tmp 12) 24 5 (.int .u8 0) 1 rfl Try.underlying24 info5 rfl (by decide) (by omega) v189 y188 t191 _ _ _ (fun k_ => some k_ ≠ (.slice Ao12 t191.length co12 : Value).ownBlock) (fun _ => False) rfl rfl ?aO ?aR (fun _ _ h => h) (fun _ h => h.elim) ?aF ?aB ?aS ?aL ?_; (case aR => repeat (first | exact (Kd.R_reads' HO193.out).2.2 | (with_reducible refine Kd.C_alloc ?_ _) | (with_reducible refine Kd.C_drewN ?_ _) | (with_reducible refine Kd.C_drew ?_))); (case aB => exact (by repeat (first | (with_reducible first | exact HB.out | apply below_alloc | apply pw_below_drewN | apply below_drew1) | exact HB.out))); (case aF => exact (fun k_ hk => Kd.fresh' (Kd.R_lt (by (with_reducible repeat (first | apply Kd.R_alloc | apply Kd.R_drewN | apply Kd.R_drew)); exact HO193.out)) k_ hk)); (case aO => exact (by (with_reducible repeat (first | apply Kd.R_alloc | apply Kd.R_drewN | apply Kd.R_drew)); exact Kd.R_mono HO190.out (fun _ hk => hk.2))); (case aS => exact (below_size (by repeat (first | (with_reducible first | exact HB.out | apply below_alloc | apply pw_below_drewN | apply below_drew1) | exact HB.out)))); (case aL => have := LMc6.out; omega); intro v195 w11 ho hb hg hat; rw [← Ny194.out] at ho; have n0_ := Aside0.mk (Kd.R_after (ok := (fun _ => True)) (by (with_reducible repeat (first | apply Kd.R_alloc | apply Kd.R_drewN | apply Kd.R_drew)); exact HO193.out) hg hat); have n1_ := Aside0.mk (hb); have n2_ := Aside0.mk (ho); clear HO193; clear HB; clear HO190; have HO193 := n0_; have HB := n1_; have HO196 := n2_; clear n0_ n1_ n2_; clear ho hb hg hat; obtain ⟨Ao13, co13, eo13⟩ := Kd.R_slice HO196.out; subst eo13) | ((with_reducible refine gate_callee (f := 32) rfl ?_); refine goesL_ (some 14) rfl rfl Try.func32 (by kernel_rfl) rfl #[.slice Ao13 y194.length co13] rfl (by (try simp only [List.map_toArray, List.map_cons, List.map_nil]); first | done | rfl | (simp only [List.length_drop, List.length_take]; rfl)) ?_; (with_reducible refine (trommelref17_sealed.calls kj1 _ _ y194 t197 _ ?side1 ?side2 A7.out).mono ?_); (case side1 => repeat (first | exact (Kd.R_reads' HO196.out).2.2 | (with_reducible refine Kd.C_alloc ?_ _) | (with_reducible refine Kd.C_drewN ?_ _) | (with_reducible refine Kd.C_drew ?_))); (case side2 => exact (Kd.R_reads' HO196.out).2.1); rintro e w14 ⟨v198, rfl, ho0, hb⟩; refine ⟨_, rfl, ?_⟩; have n0_ := Aside0.mk (Kd.R_elder' (by (with_reducible repeat (first | apply Kd.R_alloc | apply Kd.R_drewN | apply Kd.R_drew)); exact HO193.out) (Kd.R_base ho0) hb); have n1_ := Aside0.mk (Kd.R_elder' (by (with_reducible repeat (first | apply Kd.R_alloc | apply Kd.R_drewN | apply Kd.R_drew)); exact HO196.out) (Kd.R_base ho0) hb); have n2_ := Aside0.mk (Kd.R_lower (Kd.R_new' (Kd.R_new' ho0 (Kd.R_lt (by (with_reducible repeat (first | apply Kd.R_alloc | apply Kd.R_drewN | apply Kd.R_drew)); exact HO193.out))) (Kd.R_lt (by (with_reducible repeat (first | apply Kd.R_alloc | apply Kd.R_drewN | apply Kd.R_drew)); exact HO196.out))) (below_size (by repeat (first | (with_reducible first | exact HB.out | apply below_alloc | apply pw_below_drewN | apply below_drew1) | exact HB.out)))); have n3_ := Aside0.mk (below_step (by repeat (first | (with_reducible first | exact HB.out | apply below_alloc | apply pw_below_drewN | apply below_drew1) | exact HB.out)) hb); clear HO193; clear HO196; clear HB; have HO193 := n0_; have HO196 := n1_; have HO199 := n2_; have HB := n3_; clear n0_ n1_ n2_ n3_; (try clear hb); (try clear hb2); (try clear hk); (try clear hi); (try clear ho0)))
          go_ret2
          exact ⟨_, by first | rfl | (simp [errW_none, errW_some] <;> rfl) | (simp [*, errW_none, errW_some] <;> rfl), by (with_reducible repeat (first | apply Kd.R_alloc | apply Kd.R_drewN | apply Kd.R_drew)); exact Kd.R_mono HO199.out (fun _ hk => trivial), by repeat (first | (with_reducible first | exact HB.out | apply below_alloc | apply pw_below_drewN | apply below_drew1) | exact HB.out)⟩
        · rw [if_neg c6] at H
          exact absurd H (by simp)

/-! ### trommellaw17_over: function 14 -/
def trommellaw17_over.l0 : Nat → List Int → Int → Int → Option (Unit)
  | 0, _, _, _ => none
  | k + 1, x0, x5, x6 => if x6 < x5 then (if 0 ≤ x6 then (if x6 < (x0.length : Int) then (trommellaw17_over.l0 k (x0.set (x6 : Int).toNat 238) x5 (wrap64 (x6 + 1))) else (none)) else (none)) else ((some (([1, 2] : List Int) : List Int)).bind fun y201 => (if x0.length + y201.length < 140737488355328 then (if 0 ≤ (x0.length : Int) then (if (x0.length : Int) < ((x0 ++ y201).length : Int) then (some ()) else (none)) else (none)) else (none)))
def trommellaw17_over.f (k : Nat) (l0 : List Int) : Option (Unit) := trommellaw17_over.l0 k l0 (l0.length : Int) 0
theorem trommellaw17_over.mono_l : ∀ k, (∀ y0 y1 y2, LeO (trommellaw17_over.l0 k y0 y1 y2) (trommellaw17_over.l0 (k + 1) y0 y1 y2))
  | 0 => fun _ _ _ r h => by simp [trommellaw17_over.l0] at h
  | k + 1 => by
    have ih0 := trommellaw17_over.mono_l k
    · intro y0 y1 y2
      unfold trommellaw17_over.l0
      repeat' first
      | (with_reducible exact ih0 _ _ _)
      | (with_reducible exact LeO.refl _)
      | (with_reducible exact LeO.none _)
      | (with_reducible refine LeO.ite ?_ ?_)
      | (with_reducible refine LeO.bind ?_ (fun _ => ?_))
      | exact ih0 _ _ _
      | exact LeO.none _
      | refine LeO.ite ?_ ?_
      | refine LeO.bind ?_ (fun _ => ?_)
theorem trommellaw17_over.mono : ∀ a0 k, LeO (trommellaw17_over.f k a0) (trommellaw17_over.f (k + 1) a0) := by
  intro a0 k
  have ih0 := trommellaw17_over.mono_l k
  unfold trommellaw17_over.f
  repeat' first
      | (with_reducible exact ih0 _ _ _)
      | (with_reducible exact LeO.refl _)
      | (with_reducible exact LeO.none _)
      | (with_reducible refine LeO.ite ?_ ?_)
      | (with_reducible refine LeO.bind ?_ (fun _ => ?_))
      | exact ih0 _ _ _
      | exact LeO.none _
      | refine LeO.ite ?_ ?_
      | refine LeO.bind ?_ (fun _ => ?_)
set_option maxHeartbeats 8000000 in
set_option maxRecDepth 100000 in
theorem trommellaw17_over.calls (k : Nat) (P0_ : Nat → Prop) (u9000_ : Value) (l0 : List Int) (w0 w : World) (hB : Below w0.heap.size w0 w) (ho0 : Kd.R (Kd.int .u8) 5 w w0.heap.size P0_ u9000_ l0) (h : trommellaw17_over.f k l0 = some ()) :
    Calls Try.prog 14 #[u9000_] w fun e w' => e = .returned (.tuple #[]) ∧ Below w0.heap.size w0 w' ∧ Kept w w' (fun k_ => P0_ k_) := by
  have HO0 := Aside0.mk (show Kd.R (Kd.int .u8) 5 w w0.heap.size (fun k_ => (P0_ k_ ∨ w.heap.size ≤ k_)) u9000_ l0 from Kd.R_mono ho0 (fun k_ hk => (.inl hk)))
  have HK := Aside0.mk (Kept.refl w (fun k_ => P0_ k_))
  have HW0 := Aside0.mk hB.size
  have HB := Aside0.mk hB
  clear hB
  have H : (trommellaw17_over.l0 k l0 (l0.length : Int) 0) = some () := h
  clear h
  have H' := Aside0.mk H
  clear H
  obtain ⟨Ao2, co2, eo2⟩ := Kd.R_slice HO0.out
  subst eo2
  go_enter Try.func14, Try.ntmps14
  go_wp2
  go_loopg [6] k (fun kq v6 w' => ∃ (x0_1 : List Int) (x6_1 : Int), v6 = .int .i64 x6_1 ∧ Aside0 (trommellaw17_over.l0 kq x0_1 (l0.length : Int) x6_1 = some ()) ∧ Aside0 (kq ≤ k) ∧ Aside0 (Kd.R (Kd.int .u8) 5 w' w0.heap.size (fun k_ => (P0_ k_ ∨ w.heap.size ≤ k_)) (.slice Ao2 l0.length co2) x0_1) ∧ Aside0 (Kept w w' (fun k_ => P0_ k_)) ∧ Aside0 (Below w0.heap.size w0 w'))
  case atStart => exact ⟨(l0), (0), (by first | rfl | (simp; done) | (simp [*]; done)), H', ⟨Nat.le_refl _⟩, ⟨by (with_reducible repeat (first | apply Kd.R_alloc | apply Kd.R_drewN | apply Kd.R_drew)); exact HO0.out⟩, ⟨by repeat (first | (with_reducible first | exact HK.out | apply Kept.alloc | apply Kept.drewN | apply Kept.drew) | exact HK.out)⟩, ⟨by repeat (first | (with_reducible first | exact HB.out | apply below_alloc | apply pw_below_drewN | apply below_drew1) | exact HB.out)⟩⟩
  case round =>
    clear H'
    try clear c1
    try clear p2
    obtain ⟨x0_1, x6_1, rfl, HA, HK1, HO_0, HK, HB⟩ := hrel
    have hl0_1 := (Kd.R_reads' HO_0.out).1
    rw [hl0_1] at HO_0
    (try simp only [hl0_1])
    cases gk with
    | zero => exact absurd HA.out (by simp [trommellaw17_over.l0])
    | succ k1 =>
      have H := HA.out
      clear HA
      simp only [trommellaw17_over.l0] at H
      by_cases c3 : x6_1 < (l0.length : Int)
      · rw [if_pos c3] at H
        have c3b0 : decide (x6_1 < (l0.length : Int)) = true := decide_eq_true c3
        clear c3
        by_cases c4 : 0 ≤ x6_1
        · rw [if_pos c4] at H
          have c4b0 : decide (0 ≤ x6_1) = true := decide_eq_true c4
          clear c4
          by_cases c5 : x6_1 < (x0_1.length : Int)
          · rw [if_pos c5] at H
            have c5b0 : decide (x6_1 < (x0_1.length : Int)) = true := decide_eq_true c5
            clear c5
            obtain ⟨y200, hy200⟩ : ∃ y_ : List Int, y_ = (x0_1.set (x6_1 : Int).toNat 238) := ⟨_, rfl⟩
            replace H : (trommellaw17_over.l0 k1 y200 (l0.length : Int) (wrap64 (x6_1 + 1))) = some () := by first | (rw [hy200]; with_reducible exact H) | (have H2_ := (Option.bind_some _ _).symm.trans H; rw [hy200]; with_reducible exact H2_) | (have H2_ := (Option.bind_some _ _).symm.trans H; with_reducible exact H2_) | with_reducible exact H | (rw [hy200]; exact H) | exact H
            have Ny200 := Aside0.mk hy200
            clear hy200
            have H' := Aside0.mk H
            clear H
            have p6 : 0 ≤ (x6_1 : Int) := of_decide_eq_true (by first | (with_reducible assumption) | assumption)
            have q6 : (x6_1 : Int) < ((x0_1.length : Int) : Int) := of_decide_eq_true (by first | (with_reducible assumption) | assumption)
            obtain ⟨go6, co6, eo6, gb6, gl6, cl6, HG6⟩ := Kd.R_form HO_0.out (by omega)
            (first | cases eo6 | (injection eo6 with ea_ en_ ec_; (first | subst ea_ | (injection ea_ with ea_; subst ea_)); subst ec_; clear en_))
            have GB6 := Aside0.mk gb6
            have GG6 := Aside0.mk HG6
            clear gb6 gl6 HG6
            have HMgo6 := Aside0.mk (show (P0_ go6 ∨ w.heap.size ≤ go6) from (HO_0.out.1 _ rfl))
            obtain ⟨hx6_0, hf6_0⟩ := Kd.R_celln 0 HO_0.out (x6_1 : Int) p6 q6
            replace p6 := eq_true p6
            replace q6 := eq_true q6
            have HP7 := Kd.R_putg HO_0.out (x6_1 : Int) 238
            go_wp2_with (first | ((with_reducible refine gate_store (t := 5) (p := 11) rfl ?_); refine store_event (t := 5) (p := 11) (v := ?vo_w8) (w1 := (wr.setCell ⟨go6, (x6_1 : Int).toNat, none⟩ (.int .u8 238))) ?hg ?ho ?hn ?hr ?_; (case ho => rfl); (case hg => rfl); (case hn => rfl); (case hr => first | (go_simp; done) | (go_simp; rfl)); intro w8 hw; have hg : wr.grownBy w8 (some go6) := (by rw [hw]; exact HP7.2); have hp_ : Kd.R (Kd.int .u8) 5 w8 w0.heap.size (fun k_ => (P0_ k_ ∨ w.heap.size ≤ k_)) (.slice (some ⟨go6, 0, none⟩) x0_1.length co2) y200 := (by rw [hw, Ny200.out]; exact HP7.1); clear HP7; have n0_ := Aside0.mk (hp_); have n1_ := Aside0.mk ((by rw [hw]; exact below_set (HB.out) GB6.out : Below w0.heap.size w0 w8)); have n2_ := Aside0.mk (Kept.of_grown (S := (fun k_ => P0_ k_)) hg (by repeat (first | (with_reducible first | exact HK.out | apply Kept.alloc | apply Kept.drewN | apply Kept.drew) | exact HK.out)) (fun k_ e_ => (HO_0.out.1 k_ e_))); clear HO_0; clear HB; clear HK; have HO_0 := n0_; have HB := n1_; have HK := n2_; clear n0_ n1_ n2_; clear hg hw hp_))
            (try simp only [← hl0_1])
            go_roundg k1
            case measure => have := HK1.out; omega
            case rel => exact ⟨(y200), (wrap64 (x6_1 + 1)), (by first | rfl | (simp; done) | (simp [*]; done)), H', ⟨by have := HK1.out; omega⟩, ⟨by (try simp only [hl0_1]); (with_reducible repeat (first | apply Kd.R_alloc | apply Kd.R_drewN | apply Kd.R_drew)); exact HO_0.out⟩, ⟨by repeat (first | (with_reducible first | exact HK.out | apply Kept.alloc | apply Kept.drewN | apply Kept.drew) | exact HK.out)⟩, ⟨by repeat (first | (with_reducible first | exact HB.out | apply below_alloc | apply pw_below_drewN | apply below_drew1) | exact HB.out)⟩⟩
          · rw [if_neg c5] at H
            exact absurd H (by simp)
        · rw [if_neg c4] at H
          exact absurd H (by simp)
      · rw [if_neg c3] at H
        have c3b0 : decide (x6_1 < (l0.length : Int)) = false := decide_eq_false c3
        have c3b0x : decide (x6_1 < (x0_1.length : Int)) = false := by rw [← hl0_1]; exact c3b0
        clear c3
        obtain ⟨y201, hy201⟩ : ∃ y_ : List Int, y_ = (([1, 2] : List Int)) := ⟨_, rfl⟩
        replace H : (if x0_1.length + y201.length < 140737488355328 then (if 0 ≤ (x0_1.length : Int) then (if (x0_1.length : Int) < ((x0_1 ++ y201).length : Int) then (some ()) else (none)) else (none)) else (none)) = some () := by first | (rw [hy201]; with_reducible exact H) | (have H2_ := (Option.bind_some _ _).symm.trans H; rw [hy201]; with_reducible exact H2_) | (have H2_ := (Option.bind_some _ _).symm.trans H; with_reducible exact H2_) | with_reducible exact H | (rw [hy201]; exact H) | exact H
        have Ny201 := Aside0.mk hy201
        clear hy201
        by_cases c9 : x0_1.length + y201.length < 140737488355328
        · rw [if_pos c9] at H
          have LMc9 := Aside0.mk c9
          clear c9
          obtain ⟨y204, hy204⟩ : ∃ y_ : List Int, y_ = (x0_1 ++ y201) := ⟨_, rfl⟩
          replace H : (if 0 ≤ (x0_1.length : Int) then (if (x0_1.length : Int) < (y204.length : Int) then (some ()) else (none)) else (none)) = some () := by first | (rw [hy204]; with_reducible exact H) | (have H2_ := (Option.bind_some _ _).symm.trans H; rw [hy204]; with_reducible exact H2_) | (have H2_ := (Option.bind_some _ _).symm.trans H; with_reducible exact H2_) | with_reducible exact H | (rw [hy204]; exact H) | exact H
          have Ny204 := Aside0.mk hy204
          clear hy204
          by_cases c10 : 0 ≤ (x0_1.length : Int)
          · rw [if_pos c10] at H
            have c10b0 : decide (0 ≤ (x0_1.length : Int)) = true := decide_eq_true c10
            have c10b1 : decide (0 ≤ x0_1.length) = true := decide_eq_true (by omega)
            clear c10
            by_cases c11 : (x0_1.length : Int) < (y204.length : Int)
            · rw [if_pos c11] at H
              have c11b0 : decide ((x0_1.length : Int) < (y204.length : Int)) = true := decide_eq_true c11
              have c11b1 : decide (x0_1.length < y204.length) = true := decide_eq_true (Int.ofNat_lt.mp c11)
              clear c11
              obtain ⟨y207, hy207⟩ : ∃ y_ : List Int, y_ = (y204.set ((x0_1.length : Int) : Int).toNat 3) := ⟨_, rfl⟩
              replace H : (some ()) = some () := by first | (rw [hy207]; with_reducible exact H) | (have H2_ := (Option.bind_some _ _).symm.trans H; rw [hy207]; with_reducible exact H2_) | (have H2_ := (Option.bind_some _ _).symm.trans H; with_reducible exact H2_) | with_reducible exact H | (rw [hy207]; exact H) | exact H
              have Ny207 := Aside0.mk hy207
              clear hy207
              go_wp2_with (first | ((with_reducible refine gate_dst (N := 14) rfl ?_); refine Kd.R_lit (Kd.int .u8) _ 5 ?hg (N := 14) ?hd (xs := ([1, 2] : List Int)) (inner := [.int .u8 1, .int .u8 2]) (ok := fun _ => True) (okp := fun _ => True) ?hr ?hp (fun _ hk => hk) trivial (Below.refl _ _) (Nat.le_refl _) (by simp) ?_; (case hd => rfl); (case hg => rfl); (case hr => first | (go_simp; done) | (go_simp; rfl)); (case hp => exact (Reps.one (show Kd.M (Kd.int .u8) _ _ _ 1 [.int .u8 1] from rfl) (Reps.one (show Kd.M (Kd.int .u8) _ _ _ 2 [.int .u8 2] from rfl) (Reps.none _ _)))); intro v202 w13 ho14 hb hg_ hnew_; clear hg_ hnew_; (first | rw [← Ny201.out] at ho14 | (simp only [Int.reduceToNat] at ho14; rw [← Ny201.out] at ho14)); have n0_ := Aside0.mk (Kd.R_elder' (by (with_reducible repeat (first | apply Kd.R_alloc | apply Kd.R_drewN | apply Kd.R_drew)); exact HO_0.out) (Kd.R_base ho14) hb); have n1_ := Aside0.mk (Kd.R_lower (Kd.R_new' (Kd.R_newM (M := fun k_ => (P0_ k_ ∨ w.heap.size ≤ k_)) ho14 (by first | exact HK.out.1 | exact (show Kept w _ (fun k_ => P0_ k_) from by repeat (first | (with_reducible first | exact HK.out | apply Kept.alloc | apply Kept.drewN | apply Kept.drew) | exact HK.out)).1) (fun k_ h_ => .inr h_)) (Kd.R_lt (by (with_reducible repeat (first | apply Kd.R_alloc | apply Kd.R_drewN | apply Kd.R_drew)); exact HO_0.out))) (below_size (by repeat (first | (with_reducible first | exact HB.out | apply below_alloc | apply pw_below_drewN | apply below_drew1) | exact HB.out)))); have n2_ := Aside0.mk (Kept.below (S := (fun k_ => P0_ k_)) (by repeat (first | (with_reducible first | exact HK.out | apply Kept.alloc | apply Kept.drewN | apply Kept.drew) | exact HK.out)) hb); have n3_ := Aside0.mk (below_step (by repeat (first | (with_reducible first | exact HB.out | apply below_alloc | apply pw_below_drewN | apply below_drew1) | exact HB.out)) hb); clear HO_0; clear HK; clear HB; have HO_0 := n0_; have HO203 := n1_; have HK := n2_; have HB := n3_; clear n0_ n1_ n2_ n3_; clear hb ho14; obtain ⟨Ao16, co16, eo16⟩ := Kd.R_slice HO203.out; subst eo16) | ((with_reducible refine gate_builtin (b := .append) (xs := #[.tmp 13, .tmp 14]) rfl ?_); at_builtin; refine Kd.R_append_rows (Kd.int .u8) (w0 := w0) w0.heap.size rfl (.tmp 13) (.tmp 14) 24 5 (.int .u8 0) 1 rfl Try.underlying24 info5 rfl (by decide) (by omega) (.slice Ao2 x0_1.length co2) x0_1 y201 _ _ _ (fun k_ => (P0_ k_ ∨ w.heap.size ≤ k_) ∧ some k_ ≠ (.slice Ao16 y201.length co16 : Value).ownBlock) (fun _ => False) rfl rfl ?aO ?aR (fun _ _ h => h) (fun _ h => h.elim) ?aF ?aB ?aS ?aL ?_; (case aR => repeat (first | exact (Kd.R_reads' HO203.out).2.2 | (with_reducible refine Kd.C_alloc ?_ _) | (with_reducible refine Kd.C_drewN ?_ _) | (with_reducible refine Kd.C_drew ?_))); (case aB => exact (by repeat (first | (with_reducible first | exact HB.out | apply below_alloc | apply pw_below_drewN | apply below_drew1) | exact HB.out))); (case aF => exact (fun k_ hk => ⟨(.inr (Nat.le_trans (by first | exact HK.out.1 | exact (show Kept w _ (fun k_ => P0_ k_) from by repeat (first | (with_reducible first | exact HK.out | apply Kept.alloc | apply Kept.drewN | apply Kept.drew) | exact HK.out)).1) hk)), Kd.fresh' (Kd.R_lt (by (with_reducible repeat (first | apply Kd.R_alloc | apply Kd.R_drewN | apply Kd.R_drew)); exact HO203.out)) k_ hk⟩)); (case aO => exact (by (with_reducible repeat (first | apply Kd.R_alloc | apply Kd.R_drewN | apply Kd.R_drew)); exact HO_0.out)); (case aS => exact (below_size (by repeat (first | (with_reducible first | exact HB.out | apply below_alloc | apply pw_below_drewN | apply below_drew1) | exact HB.out)))); (case aL => have := LMc9.out; omega); intro v205 w15 ho hb hg hat; rw [← Ny204.out] at ho; have n0_ := Aside0.mk (Kd.R_after (ok := (fun k_ => (P0_ k_ ∨ w.heap.size ≤ k_))) (by (with_reducible repeat (first | apply Kd.R_alloc | apply Kd.R_drewN | apply Kd.R_drew)); exact Kd.R_mono HO203.out (fun _ hk => ⟨hk.1.1, hk.2⟩)) hg hat); have n1_ := Aside0.mk (hb); have n2_ := Aside0.mk (Kept.of_grown (S := (fun k_ => P0_ k_)) hg (by repeat (first | (with_reducible first | exact HK.out | apply Kept.alloc | apply Kept.drewN | apply Kept.drew) | exact HK.out)) (fun k_ e_ => (HO_0.out.1 k_ e_).1)); have n3_ := Aside0.mk (ho); clear HO203; clear HB; clear HK; clear HO_0; have HO203 := n0_; have HB := n1_; have HK := n2_; have HO206 := n3_; clear n0_ n1_ n2_ n3_; clear ho hb hg hat; have p12 : 0 ≤ ((x0_1.length : Int) : Int) := of_decide_eq_true (by first | (with_reducible assumption) | assumption); have q12 : ((x0_1.length : Int) : Int) < ((y204.length : Int) : Int) := of_decide_eq_true (by first | (with_reducible assumption) | assumption); obtain ⟨go12, co12, eo12, gb12, gl12, cl12, HG12⟩ := Kd.R_form HO206.out (by omega); (first | cases eo12 | (injection eo12 with ea_ en_ ec_; (first | subst ea_ | (injection ea_ with ea_; subst ea_)); subst ec_; clear en_)); have GB12 := Aside0.mk gb12; have GG12 := Aside0.mk HG12; clear gb12 gl12 HG12; have HMgo12 := Aside0.mk (show (P0_ go12 ∨ w.heap.size ≤ go12) from (HO206.out.1 _ rfl).1); obtain ⟨hx12_0, hf12_0⟩ := Kd.R_celln 0 HO206.out ((x0_1.length : Int) : Int) p12 q12; replace p12 := eq_true p12; replace q12 := eq_true q12; obtain ⟨hy17_, hz17_⟩ := Kd.R_celln 0 HO206.out ((x0_1.length : Int) : Int) (of_decide_eq_true (by first | (with_reducible assumption) | assumption)) (of_decide_eq_true (by first | (with_reducible assumption) | assumption)); (try simp only [Go.IntWalk.toNatUp] at hy17_ hz17_); have HP17 := Kd.R_putg HO206.out ((x0_1.length : Int) : Int) 3) | ((with_reducible refine gate_store (t := 5) (p := 19) rfl ?_); refine store_event (t := 5) (p := 19) (v := ?vo_w18) (w1 := (w15.setCell ⟨go12, ((x0_1.length : Int) : Int).toNat, none⟩ (.int .u8 3))) ?hg ?ho ?hn ?hr ?_; (case ho => rfl); (case hg => rfl); (case hn => rfl); (case hr => first | (go_simp; done) | (go_simp; rfl)); intro w18 hw; have hg : w15.grownBy w18 (some go12) := (by rw [hw]; exact HP17.2); have hp_ : Kd.R (Kd.int .u8) 5 w18 w0.heap.size (fun k_ => (P0_ k_ ∨ w.heap.size ≤ k_) ∧ some k_ ≠ (.slice Ao16 y201.length co16 : Value).ownBlock) (.slice (some ⟨go12, 0, none⟩) y204.length co12) y207 := (by rw [hw, Ny207.out]; exact HP17.1); clear HP17; have n0_ := Aside0.mk (Kd.R_after (v := (.slice (some ⟨go12, 0, none⟩) y204.length co12)) (v1 := (.slice (some ⟨go12, 0, none⟩) y204.length co12)) (ok := (fun k_ => (P0_ k_ ∨ w.heap.size ≤ k_))) (by (with_reducible repeat (first | apply Kd.R_alloc | apply Kd.R_drewN | apply Kd.R_drew)); exact HO203.out) hg (.inl rfl)); have n1_ := Aside0.mk (hp_); have n2_ := Aside0.mk ((by rw [hw]; exact below_set (HB.out) GB12.out : Below w0.heap.size w0 w18)); have n3_ := Aside0.mk (Kept.of_grown (S := (fun k_ => P0_ k_)) hg (by repeat (first | (with_reducible first | exact HK.out | apply Kept.alloc | apply Kept.drewN | apply Kept.drew) | exact HK.out)) (fun k_ e_ => (HO206.out.1 k_ e_).1)); clear HO203; clear HO206; clear HB; clear HK; have HO203 := n0_; have HO206 := n1_; have HB := n2_; have HK := n3_; clear n0_ n1_ n2_ n3_; clear hg hw hp_))
              first | go_end0 | ((try simp only [Exit.inBlock, Exit.then]); refine bodyPost_ret (results_none rfl _ _ _) rfl ?_)
              exact ⟨by first | rfl | (simp [errW_none, errW_some] <;> rfl) | (simp [*, errW_none, errW_some] <;> rfl), by repeat (first | (with_reducible first | exact HB.out | apply below_alloc | apply pw_below_drewN | apply below_drew1) | exact HB.out), by repeat (first | (with_reducible first | exact HK.out | apply Kept.alloc | apply Kept.drewN | apply Kept.drew) | exact HK.out)⟩
            · rw [if_neg c11] at H
              exact absurd H (by simp)
          · rw [if_neg c10] at H
            exact absurd H (by simp)
        · rw [if_neg c9] at H
          exact absurd H (by simp)

/-! ### trommellaw17_sameBytes: function 17 -/
def trommellaw17_sameBytes.f (l0 : List Int) (l1 : List Int) : Option (Bool) := some ((strOfNums l0).toList == (strOfNums l1).toList)
set_option maxHeartbeats 8000000 in
set_option maxRecDepth 100000 in
theorem trommellaw17_sameBytes.calls (A0 : Option Addr) (c0 : Nat) (l0 : List Int) (A1 : Option Addr) (c1 : Nat) (l1 : List Int) (r : Bool) (w : World) (hr0 : Kd.C (Kd.int .u8) w A0 l0.length l0) (hc0 : l0.length ≤ c0) (hr1 : Kd.C (Kd.int .u8) w A1 l1.length l1) (hc1 : l1.length ≤ c1) (h : trommellaw17_sameBytes.f l0 l1 = some r) :
    Calls Try.prog 17 #[.slice A0 l0.length c0, .slice A1 l1.length c1] w fun e w' => e = .returned (.bool r) ∧ Drawn0 w w' := by
  have HR0 := Aside0.mk hr0
  have HC0 := Aside0.mk hc0
  clear hr0 hc0
  have HR1 := Aside0.mk hr1
  have HC1 := Aside0.mk hc1
  clear hr1 hc1
  have H : (some ((strOfNums l0).toList == (strOfNums l1).toList)) = some r := h
  clear h
  obtain rfl := Option.some.inj H
  have hcv3 := Kd.C_string (P := Try.prog) (A := A0) (c := c0) Try.underlying24 Try.underlying5 Try.underlying9 HR0.out
  have hcv4 := Kd.C_string (P := Try.prog) (A := A1) (c := c1) Try.underlying24 Try.underlying5 Try.underlying9 HR1.out
  go_enter Try.func17, Try.ntmps17
  go_wp2
  go_ret
  exact ⟨by first | rfl | (simp; done) | (simp [*]; done), by repeat (first | exact Drawn0.refl _ | apply Drawn0.step)⟩

end Go.Proofs.Ytgnhadbadhgdgaa.Prt
