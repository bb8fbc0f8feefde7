/- The journal's reader: contracts of its methods number and sum. Conditions: what is read is short enough for a slice. -/
import Derived.Test.YtgnhadbadhgdgaaExtE
namespace Go.Proofs.Ytgnhadbadhgdgaa.Ext
open Go.RowKit Go.Proofs.YtgnhadbadhgdgaaW.PrintWords Go.Proofs.YtgnhadbadhgdgaaW.PrintLast Go.Proofs.YtgnhadbadhgdgaaW.PrintMore
set_option linter.unusedVariables false
set_option linter.unusedSimpArgs false

theorem rdB_at {b : List Int} {at_ : Nat} {ok : Bool} (h : at_ ≤ b.length) : (rdB b at_ ok).2.1 ≤ b.length := by
  unfold rdB
  split
  · rename_i h2; simp only; omega
  · exact h
theorem rdB_range {b : List Int} (hb : isB b) (at_ : Nat) (ok : Bool) : 0 ≤ (rdB b at_ ok).1 ∧ (rdB b at_ ok).1 < 256 := by
  unfold rdB
  split
  · rename_i h2
    refine hb _ ?_
    simp only
    rw [List.getD_eq_getElem?_getD, List.getElem?_eq_getElem h2.2]
    exact List.getElem_mem _
  · simp

/-- number: r rounds are left, n and the shift so far. -/
def numF (b : List Int) : Nat → Int → Int → Nat → Bool → Int × Nat × Bool
  | 0, _, _, at_, _ => (0, at_, false)
  | r + 1, n, sh, at_, ok =>
    let x := rdB b at_ ok
    let n' := bits .or .i64 n (wrap64 (wrap64 (bits .and .u8 x.1 127) * 2 ^ sh.toNat))
    if x.1 < 128 then (n', x.2.1, x.2.2 && (decide (0 < x.1) || decide (sh = 0))) else numF b r n' (sh + 7) x.2.1 x.2.2

set_option maxRecDepth 100000 in
set_option maxHeartbeats 1000000 in
theorem number_read (g : Nat) (A : Option Addr) (c at_ : Nat) (ok : Bool) (b : List Int) (w : World) (h : RdAt g A b.length c at_ ok w) (hr : Kd.C (Kd.int .u8) w A b.length b) (hB : isB b) (hA : ∀ ad, A = some ad → 0 < b.length → ad.block ≠ g) (hc : b.length ≤ c) (hl : b.length ≤ 140737488355328) (hat : at_ ≤ b.length) :
    Calls Try.prog 36 #[.pointer (some ⟨g, 0, none⟩)] w fun e w' => e = .returned (.int .i64 (numF b 7 0 0 at_ ok).1) ∧ RdAt g A b.length c (numF b 7 0 0 at_ ok).2.1 (numF b 7 0 0 at_ ok).2.2 w' ∧ FrK g w w' := by
  have H := Sd.mk h
  have HR := Sd.mk hr
  have HA := Sd.mk hA
  have HB := Sd.mk hB
  clear h hr hA hB
  obtain ⟨R, hR⟩ : ∃ R, numF b 7 0 0 at_ ok = R := ⟨_, rfl⟩
  rw [hR]
  have HRR := Sd.mk hR
  have HAT := Sd.mk hat
  clear hR hat
  go_enter Try.func36, Try.ntmps36
  go_wp2_with (fail)
  go_loopg [3, 4] 8 (fun gg v3 v4 wr => ∃ (n : Int) (r at2 : Nat) (ok2 : Bool), v3 = .int .i64 n ∧ v4 = .int .i64 (49 - 7 * (r : Int)) ∧ Sd (gg = r + 1) ∧ Sd (r ≤ 7) ∧ Sd (numF b r n (49 - 7 * (r : Int)) at2 ok2 = R) ∧ Sd (at2 ≤ b.length) ∧ Sd (RdAt g A b.length c at2 ok2 wr) ∧ Sd (FrK g w wr))
  case atStart => exact ⟨0, 7, at_, ok, rfl, rfl, ⟨rfl⟩, ⟨Nat.le_refl _⟩, HRR, HAT, H, ⟨FrK.refl _ _⟩⟩
  case round =>
    obtain ⟨n, r, at2, ok2, rfl, rfl, HG, HL, HN, HAT2, HRd, HF⟩ := hrel
    cases r with
    | zero =>
      have hx2 := blk_frozen HRd.out 2
      have hx3 := (blk_cell HRd.out 2).trans rfl
      go_wp2
      go_ret
      rw [← HN.out]
      exact ⟨rfl, blk_put (i := 2) HRd.out (.bool false) rfl, FrK.set HF.out⟩
    | succ r =>
      obtain ⟨S, hS⟩ : ∃ S : Int, 49 - 7 * ((r + 1 : Nat) : Int) = S := ⟨_, rfl⟩
      have hS0 : 0 ≤ S := by have := HL.out; omega
      have hS1 : S ≤ 42 := by omega
      have HS := Sd.mk (show S + 7 = 49 - 7 * (r : Int) by omega)
      rw [hS] at HN ⊢
      clear hS
      go_wp2_with (fail)
      refine (rbyte_any g A c at2 ok2 b wr HRd.out (Kd.C_keep (0 : Int) HR.out HF.out.keep HA.out) HA.out hc hl HAT2.out).mono ?_
      rintro e w2 ⟨rfl, hd, hf⟩
      have hrg := rdB_range HB.out at2 ok2
      have HAT3 := Sd.mk (rdB_at (ok := ok2) HAT2.out)
      have HN2 := Sd.mk (show (if (rdB b at2 ok2).1 < 128 then (bits .or .i64 n (wrap64 (wrap64 (bits .and .u8 (rdB b at2 ok2).1 127) * 2 ^ S.toNat)), (rdB b at2 ok2).2.1, (rdB b at2 ok2).2.2 && (decide (0 < (rdB b at2 ok2).1) || decide (S = 0))) else numF b r (bits .or .i64 n (wrap64 (wrap64 (bits .and .u8 (rdB b at2 ok2).1 127) * 2 ^ S.toNat))) (S + 7) (rdB b at2 ok2).2.1 (rdB b at2 ok2).2.2) = R from HN.out)
      have HRd2 := Sd.mk hd
      have HF2 := Sd.mk (HF.out.trans hf)
      clear hd hf HN
      generalize rdB b at2 ok2 = X at *
      obtain ⟨x, at3, ok3⟩ := X
      simp only at hrg HN2 HRd2 HAT3
      have hx2 := blk_frozen HRd2.out 2
      have hx3 := (blk_cell HRd2.out 2).trans rfl
      by_cases hlt : x < 128
      · have HN3 := Sd.mk (show (bits .or .i64 n (wrap64 (wrap64 (bits .and .u8 x 127) * 2 ^ S.toNat)), at3, ok3 && (decide (0 < x) || decide (S = 0))) = R by
          have h := HN2.out
          rw [if_pos hlt] at h
          exact h)
        clear HN2 HF HRd
        cases ok3 with
        | false =>
          go_wp2
          go_ret
          rw [← HN3.out]
          exact ⟨rfl, blk_put (i := 2) HRd2.out (.bool false) rfl, FrK.set HF2.out⟩
        | true =>
          by_cases hx0 : 0 < x
          · have e1 : (true && (decide (0 < x) || decide (S = 0))) = true := by simp [hx0]
            rw [e1] at HN3
            go_wp2
            go_ret
            rw [← HN3.out]
            exact ⟨rfl, blk_put (i := 2) HRd2.out (.bool true) rfl, FrK.set HF2.out⟩
          · have e1 : (true && (decide (0 < x) || decide (S = 0))) = decide (S = 0) := by simp [hx0]
            rw [e1] at HN3
            by_cases hs : S = 0
            · subst hs
              rw [decide_eq_true rfl, show wrap64 (bits .and .u8 x 127) * 2 ^ (0 : Int).toNat = wrap64 (bits .and .u8 x 127) by simp] at HN3
              go_wp2
              go_ret
              rw [← HN3.out]
              exact ⟨rfl, blk_put (i := 2) HRd2.out (.bool true) rfl, FrK.set HF2.out⟩
            · rw [decide_eq_false hs] at HN3
              have hs2 : (S == 0) = false := by simp [hs]
              have hx1 : decide (0 < x) = false := by simp [hx0]
              go_wp2
              go_ret
              rw [← HN3.out]
              exact ⟨rfl, blk_put (i := 2) HRd2.out (.bool false) rfl, FrK.set HF2.out⟩
      · have HN3 := Sd.mk (show numF b r (bits .or .i64 n (wrap64 (wrap64 (bits .and .u8 x 127) * 2 ^ S.toNat))) (S + 7) at3 ok3 = R by
          have h := HN2.out
          rw [if_neg hlt] at h
          exact h)
        clear HN2 HF HRd
        go_wp2
        go_roundg (r + 1)
        case measure => have := HG.out; omega
        case rel => exact ⟨_, r, at3, ok3, rfl, by have := HS.out; go_num, ⟨rfl⟩, ⟨by have := HL.out; omega⟩, by rw [← HS.out]; exact HN3, HAT3, HRd2, HF2⟩
end Go.Proofs.Ytgnhadbadhgdgaa.Ext
