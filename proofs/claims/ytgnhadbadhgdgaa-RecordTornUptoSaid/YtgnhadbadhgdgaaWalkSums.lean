/- The walk of RecordSums: at any bytes and any cut the law's function returns true. -/
import Derived.Test.YtgnhadbadhgdgaaMem
import Derived.Test.YtgnhadbadhgdgaaMathB
import Derived.Test.YtgnhadbadhgdgaaExtB
import Derived.Test.YtgnhadbadhgdgaaMathA
namespace Go.Proofs.Ytgnhadbadhgdgaa.Prt
open Go.RowKit Go.Proofs.YtgnhadbadhgdgaaW.PrintWords Go.Proofs.YtgnhadbadhgdgaaW.PrintLast Go.Proofs.YtgnhadbadhgdgaaW.PrintMore
set_option linter.unusedVariables false
set_option linter.unusedSimpArgs false

theorem mine_C' {w : World} {base c : Nat} {A : Option Addr} {ok : Nat → Prop} {l : List Int} (h : Kd.R (Kd.int .u8) 5 w base ok (.slice A (l ++ [199]).length c) (l ++ [199])) : Kd.C (Kd.int .u8) w A l.length l := by
  have h1 := Kd.C_take (m := l.length) (Kd.R_reads' h).2.2 (by simp)
  simpa using h1
theorem three_parts {w : World} {A1 A3 : Option Addr} {c1 c3 : Nat} {l1 l3 : List Int} (h1 : Kd.C (Kd.int .u8) w A1 l1.length l1) (hc1 : l1.length ≤ c1) (h3 : Kd.C (Kd.int .u8) w A3 l3.length l3) (hc3 : l3.length ≤ c3) :
    Kd.C (Kd.slice 5 (Kd.int .u8)) (w.alloc (.cells #[.slice A1 l1.length c1, .slice none 0 0, .slice A3 l3.length c3] 24)) (some ⟨w.heap.size, 0, none⟩) ([l1, [], l3] : List (List Int)).length [l1, [], l3] := by
  have hn := heap_alloc_new w (.cells #[.slice A1 l1.length c1, .slice none 0 0, .slice A3 l3.length c3] 24)
  have g1 := Kd.C_below h1 ((Below.refl w.heap.size w).alloc (Nat.le_refl _) (.cells #[.slice A1 l1.length c1, .slice none 0 0, .slice A3 l3.length c3] 24))
  have g3 := Kd.C_below h3 ((Below.refl w.heap.size w).alloc (Nat.le_refl _) (.cells #[.slice A1 l1.length c1, .slice none 0 0, .slice A3 l3.length c3] 24))
  refine ⟨rfl, by simp, fun _ => ⟨_, rfl, fun j p hj => ?_⟩⟩
  have one : ∀ (v : Value) (i : Nat) (u : Value), [v][i]? = some u → i = 0 ∧ v = u := by
    intro v i u hu
    cases i with
    | zero => exact ⟨rfl, by simpa using hu⟩
    | succ i => simp at hu
  match j, hj with
  | 0, hj =>
    obtain rfl : l1 = p := by simpa using hj
    refine ⟨[.slice A1 l1.length c1], rfl, ⟨A1, c1, rfl, hc1, g1⟩, fun i u hu => ?_⟩
    obtain ⟨rfl, rfl⟩ := one _ _ _ hu
    exact World.news_of_block hn 0 _ rfl
  | 1, hj =>
    obtain rfl : ([] : List Int) = p := by simpa using hj
    refine ⟨[.slice none 0 0], rfl, ⟨none, 0, rfl, Nat.le_refl _, ⟨rfl, by simp, fun h => by simp at h⟩⟩, fun i u hu => ?_⟩
    obtain ⟨rfl, rfl⟩ := one _ _ _ hu
    exact World.news_of_block hn 1 _ rfl
  | 2, hj =>
    obtain rfl : l3 = p := by simpa using hj
    refine ⟨[.slice A3 l3.length c3], rfl, ⟨A3, c3, rfl, hc3, g3⟩, fun i u hu => ?_⟩
    obtain ⟨rfl, rfl⟩ := one _ _ _ hu
    exact World.news_of_block hn 2 _ rfl
  | (n + 3), hj => simp at hj
theorem cut_parts {w : World} {ad : Addr} {c : Nat} {l : List Int} {m : Nat} (h : Kd.C (Kd.int .u8) w (some ad) l.length l) (hm : m ≤ l.length) (hc : l.length + 1 ≤ c) :
    Kd.C (Kd.slice 5 (Kd.int .u8)) (w.alloc (.cells #[.slice (some ad) m c, .slice none 0 0, .slice (if c = m then some ad else some (ad.add m)) (l.length - m) (c - m)] 24)) (some ⟨w.heap.size, 0, none⟩) ([l.take m, [], l.drop m] : List (List Int)).length [l.take m, [], l.drop m] := by
  have h1 := Kd.C_take (m := m) h hm
  have h3 := Kd.C_drop (m := m) (c := c) h hm (by omega)
  have e1 : (l.take m).length = m := by rw [List.length_take]; omega
  have e3 : (l.drop m).length = l.length - m := List.length_drop
  have r := three_parts h1 (c1 := c) (by omega) h3 (c3 := c - m) (by omega)
  rw [e1, e3] at r
  rw [if_neg (show ¬ c = m by omega)] at r ⊢
  rw [show (some ad).map (fun x => Addr.add x (m * (Kd.int IntKind.u8).sz)) = some (ad.add m) by simp [show (Kd.int IntKind.u8).sz = 1 from rfl]] at r
  exact r
theorem sum_none (W : World) : Calls Try.prog 20 #[.slice none 0 0] W fun e w' => e = .returned (.int .u32 0) ∧ Drawn0 W w' := by
  have h := PrA.record_Sum.calls _ none 0 [] _ W ⟨rfl, by simp, fun h => by simp at h⟩ (Nat.le_refl _) (sum_f [] (by simp) (by simp))
  exact h
theorem sum_at (ls : List (List Int)) (n : Nat) (hn : ls.length = n) (r : Nat) (hr : crcN ls.flatten = r) (hls : ∀ l ∈ ls, isB l ∧ l.length ≤ 140737488355328) (hlen : ls.length ≤ 1000000) (A : Option Addr) (W : World) (h : Kd.C (Kd.slice 5 (Kd.int .u8)) W A ls.length ls) :
    Calls Try.prog 20 #[.slice A n n] W fun e w' => e = .returned (.int .u32 (r : Int)) ∧ Drawn0 W w' := by
  subst hn hr
  exact PrA.record_Sum.calls _ A _ ls _ W h (Nat.le_refl _) (sum_f ls hls hlen)
theorem cut_nat (cut : Int) (n : Nat) (hn : n ≤ 140737488350000) : ∃ m : Nat, wrap64 ((IntKind.u64.wrap cut).tmod ((n : Int) + 1)) = (m : Int) ∧ m ≤ n := by
  obtain ⟨x, hx⟩ : ∃ x : Nat, IntKind.u64.wrap cut = (x : Int) := ⟨(IntKind.u64.wrap cut).toNat, by
    have : IntKind.u64.wrap cut = cut % 18446744073709551616 := rfl
    omega⟩
  rw [hx]
  have h1 : ((x : Int)).tmod ((n : Int) + 1) = ((x % (n + 1) : Nat) : Int) := by
    rw [Int.tmod_eq_emod_of_nonneg (by omega)]
    rfl
  have h2 : x % (n + 1) < n + 1 := Nat.mod_lt _ (by omega)
  rw [h1]
  generalize x % (n + 1) = r at *
  exact ⟨r, by unfold wrap64; omega, by omega⟩
set_option maxRecDepth 100000 in
set_option maxHeartbeats 8000000 in
theorem sums_any (A : Option Addr) (c : Nat) (l : List Int) (cut : Int) (w : World) (hr : Kd.C (Kd.int .u8) w A l.length l) (hc : l.length ≤ c) (hB : isB l) (hl : l.length ≤ 140737488350000) :
    Calls Try.prog 4 #[.slice A l.length c, .int .i64 cut] w fun e w' => e = .returned (.bool true) ∧ Below w.heap.size w w' := by
  have HR := Aside0.mk hr
  obtain ⟨ks, hks⟩ := Ev.rounds (ev_sum l hB (by omega))
  have HS := Aside0.mk hks
  have HL1 := Aside0.mk (show ∀ x ∈ [l], isB x ∧ x.length ≤ 140737488355328 from fun x hx => by rw [List.mem_singleton.1 hx]; exact ⟨hB, by omega⟩)
  have HL3 := Aside0.mk (show ∀ m, ∀ x ∈ [l.take m, [], l.drop m], isB x ∧ x.length ≤ 140737488355328 from fun m x hx => by
    simp only [List.mem_cons, List.not_mem_nil, or_false] at hx
    rcases hx with rfl | rfl | rfl
    · exact ⟨fun y hy => hB y (List.mem_of_mem_take hy), by rw [List.length_take]; omega⟩
    · exact ⟨fun y hy => by simp at hy, by simp⟩
    · exact ⟨fun y hy => hB y (List.mem_of_mem_drop hy), by rw [List.length_drop]; omega⟩)
  clear hr hB hks
  go_enter Try.func4, Try.ntmps4
  go_wp2_with (fail)
  refine (trommellaw17_fixed.calls 200 true _ fixed_200).mono ?_
  rintro e w1 ⟨rfl, hb⟩
  have HBw1 := Aside0.mk hb
  clear hb
  go_wp2_with (fail)
  refine (room_any A c l _ (Kd.C_below HR.out HBw1.out) hc (by omega)).mono ?_
  rintro e w2 ⟨A', c', rfl, hc', hm, hb⟩
  have HMw2 := Aside0.mk hm
  have HBw2 := Aside0.mk (below_step HBw1.out hb)
  obtain ⟨ad, rfl⟩ : ∃ ad, A' = some ad := by obtain ⟨ad, h, _⟩ := (Kd.R_reads' hm).2.2.2.2 (by simp); exact ⟨ad, h⟩
  clear hm hb
  go_wp2_with (fail)
  obtain ⟨m, hm, hml⟩ := cut_nat cut l.length (by omega)
  rw [hm]
  have hm0 := (show (0 : Int) ≤ (m : Int) by omega)
  have hm1 := (show (m : Int) ≤ (c' : Int) by omega)
  have hm2 := (show (m : Int) ≤ (l.length : Int) by omega)
  have hm3 := (show (l.length : Int) ≤ (c' : Int) by omega)
  clear hm
  refine (trommelref17_Sum.calls ks A c l _ _ (Kd.C_below HR.out HBw2.out) hc HS.out).mono ?_
  rintro e w3 ⟨rfl, hd⟩
  have hb := hd.below
  have HC3 := Aside0.mk (mine_C' (Kd.R_below HMw2.out hb))
  have HM3 := Aside0.mk (Kd.R_reads' (Kd.R_below HMw2.out hb)).2.2
  have HR3 := Aside0.mk (Kd.C_below HR.out (below_step HBw2.out hb))
  have HBw3 := Aside0.mk (below_step HBw2.out hb)
  clear hb hd HMw2 HBw2 HBw1
  go_wp2_with (fail)
  have HBB := (show Below w3.heap.size w3 w3.drew from below_drew1 (Below.refl _ _))
  go_region_held3 (fun w' => Below w3.heap.size w3 w') (first | assumption | exact below_drew1 (by assumption) | exact below_alloc (by assumption) _)
    (first
      | (go_at_call 20; with_reducible refine (sum_at [l] 1 rfl (crcN l) (by simp) HL1.out (by simp) _ _ ?hh).mono ?_; (case hh => exact Kd.C_drew (Ext.one_part HC3.out (by omega))); rintro e w4 ⟨rfl, hd⟩; have hb := below_step (below_drew1 (below_alloc (Below.refl _ _) _)) hd.below)
      | (go_at_call 20; with_reducible refine (sum_at [l.take m, [], l.drop m] 3 rfl (crcN l) (by simp) (HL3.out m) (by simp) _ _ ?hh).mono ?_; (case hh => exact cut_parts (Kd.C_below HC3.out hb) hml hc'); rintro e w5 ⟨rfl, hd5⟩; have hb5 := below_step (below_alloc hb _) hd5.below)
      | (go_at_call 20; with_reducible refine (sum_none _).mono ?_; rintro e w6 ⟨rfl, hd6⟩; have hb6 := below_step hb5 hd6.below)
      | (go_at_call 21; with_reducible refine (kept_any A (some ad) c c' l _ (Kd.C_below HR3.out hb6) hc (Kd.C_below HM3.out hb6) hc' hl).mono ?_; rintro e w7 ⟨rfl, hd7⟩; have hb7 := below_step hb6 hd7.below)
      | fail)
  go_wp2
  go_ret
  exact ⟨rfl, below_step HBw3.out (by assumption)⟩
end Go.Proofs.Ytgnhadbadhgdgaa.Prt
