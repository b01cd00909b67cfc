/-
  container/heap.down over the queue's items.
  Conditions: as each contract states them.
-/
import Derived.Test.YtaeacdnefklakaaQb
namespace Go.Proofs.Ytaeacdnefklakaa.L
open Go.RowKit Go.Proofs.YtaeacdnefklakaaW.PrintWords Go.Proofs.YtaeacdnefklakaaW.PrintLast Go.Proofs.YtaeacdnefklakaaW.PrintMore Go.Fr
set_option linter.unusedVariables false
set_option linter.unusedSimpArgs false

def sonI (xs : List S73) (n i : Nat) : Nat := if 2 * i + 2 < n ∧ lessI (xs.getD (2 * i + 2) z73) (xs.getD (2 * i + 1) z73) = true then 2 * i + 2 else 2 * i + 1
theorem sonI_gt (xs : List S73) (n i : Nat) : i < sonI xs n i := by unfold sonI; split <;> omega
theorem sonI_lt (xs : List S73) (n i : Nat) (h : 2 * i + 1 < n) : sonI xs n i < n := by unfold sonI; split <;> omega

def downI (xs : List S73) (n i : Nat) : List S73 × Nat :=
  if h : 2 * i + 1 < n then
    if lessI (xs.getD (sonI xs n i) z73) (xs.getD i z73) = true then downI (swpI xs i (sonI xs n i)) n (sonI xs n i) else (xs, i)
  else (xs, i)
termination_by n - i
decreasing_by have := sonI_gt xs n i; omega

def movedI (i0 : Nat) (p : List S73 × Nat) : Bool := decide (i0 < p.2)

set_option maxHeartbeats 1600000 in
set_option maxRecDepth 100000 in
theorem down_c (W : World) (base q : Nat) (xs : List S73) (h : IsQ W base q xs) (i0 n : Int) (hi : 0 ≤ i0) (hn0 : 0 ≤ n) (hi' : i0 ≤ 1024) (hn : n ≤ xs.length) :
    Calls Try.prog 58 #[.iface 114 (.pointer (some ⟨q, 1, none⟩)), .int .i64 i0, .int .i64 n] W fun e w' => e = .returned (.bool (movedI i0.toNat (downI xs n.toNat i0.toNat))) ∧ IsQ w' base q (downI xs n.toNat i0.toNat).1 ∧ FrS q base [73] W w' := by
  obtain ⟨i0, rfl⟩ := Int.eq_ofNat_of_zero_le hi
  obtain ⟨n, rfl⟩ := Int.eq_ofNat_of_zero_le hn0
  simp only [Int.toNat_natCast]
  obtain ⟨p, hp⟩ : ∃ p, downI xs n i0 = p := ⟨_, rfl⟩
  rw [hp]
  have HP := Aside0.mk hp
  have H := Aside0.mk h
  clear h hp
  go_enter Try.func58, Try.ntmps58
  go_wp2
  go_loopg [7] (n - i0) (fun g vi wr => ∃ (k : Nat) (ys : List S73), vi = .int .i64 k ∧ n - k ≤ g ∧ k ≤ 1024 ∧ n ≤ ys.length ∧ IsQ wr base q ys ∧ FrS q base [73] W wr ∧ Hid (downI ys n k = p))
  case atStart => exact ⟨i0, xs, rfl, Nat.le_refl _, by omega, by omega, H.out, FrS.refl _ _ _ _, HP.out⟩
  case round =>
    obtain ⟨k, ys, rfl, hkg, hk, hny, hQ, hF, hE⟩ := hrel
    have hlen := hQ.len
    have hml := met_less ⟨q, 1, none⟩
    have hms := met_swap ⟨q, 1, none⟩
    have HQ := Aside0.mk hQ
    have HF := Aside0.mk hF
    clear hQ hF
    by_cases h1 : 2 * k + 1 < n
    · have h1' : 2 * (k : Int) + 1 < (n : Int) := by omega
      have hneg : decide (2 * (k : Int) + 1 < 0) = false := by simp; omega
      -- the son, and what stands at it
      obtain ⟨j, hj⟩ : ∃ j, sonI ys n k = j := ⟨_, rfl⟩
      have hjlt := sonI_lt ys n k h1
      have hjgt := sonI_gt ys n k
      rw [hj] at hjlt hjgt
      have step : lessI (ys.getD j z73) (ys.getD k z73) = true → downI ys n k = downI (swpI ys k j) n j := fun hl => by
        rw [downI.eq_1 ys n k, dif_pos h1, hj, if_pos hl]
      have stop : lessI (ys.getD j z73) (ys.getD k z73) = false → downI ys n k = (ys, k) := fun hl => by
        rw [downI, dif_pos h1, hj, if_neg (by rw [hl]; simp)]
      have STEP := Aside0.mk (And.intro step stop)
      clear step stop
      have L2 : ∀ (w1 : World) (J : Int), J = (j : Int) → Below wr.heap.size wr w1 → Calls Try.prog 97 #[.pointer (some ⟨q, 1, none⟩), .int .i64 J, .int .i64 k] w1 fun e w' => e = .returned (.bool (lessI (ys.getD j z73) (ys.getD k z73))) ∧ Below w1.heap.size w1 w' := by
        rintro w1 J rfl hb1
        have := items_less w1 base q ys (HQ.out.below hb1) (j : Int) (k : Int) (by omega) (by omega) (by omega) (by omega)
        rw [rd_nat, rd_nat] at this
        exact this
      have SW : ∀ (w1 : World) (J : Int), J = (j : Int) → Below wr.heap.size wr w1 → Calls Try.prog 99 #[.pointer (some ⟨q, 1, none⟩), .int .i64 k, .int .i64 J] w1 fun e w' => e = .returned (.tuple #[]) ∧ IsQ w' base q (swpI ys k j) ∧ FrS q base [73] W w' := by
        rintro w1 J rfl hb1
        refine (items_swap w1 base q ys (HQ.out.below hb1) (k : Int) (j : Int) (by omega) (by omega) (by omega) (by omega)).mono ?_
        rintro e w' ⟨h1, h2, h3⟩
        exact ⟨h1, by simpa using h2, (HF.out.then_below hb1).trans h3⟩
      have L2' := Aside0.mk L2
      have SW' := Aside0.mk SW
      clear L2 SW
      obtain ⟨b, hb⟩ : ∃ b, lessI (ys.getD j z73) (ys.getD k z73) = b := ⟨_, rfl⟩
      rw [hb] at STEP L2'
      by_cases h2 : 2 * k + 2 < n
      · have h2' : 2 * (k : Int) + 1 + 1 < (n : Int) := by omega
        have L1 : Calls Try.prog 97 #[.pointer (some ⟨q, 1, none⟩), .int .i64 (2 * (k : Int) + 1 + 1), .int .i64 (2 * (k : Int) + 1)] wr fun e w' => e = .returned (.bool (lessI (ys.getD (2 * k + 2) z73) (ys.getD (2 * k + 1) z73))) ∧ Below wr.heap.size wr w' := by
          have := items_less wr base q ys HQ.out (2 * (k : Int) + 1 + 1) (2 * (k : Int) + 1) (by omega) (by omega) (by omega) (by omega)
          rw [show (2 * (k : Int) + 1 + 1) = ((2 * k + 2 : Nat) : Int) by omega, show (2 * (k : Int) + 1) = ((2 * k + 1 : Nat) : Int) by omega] at this ⊢
          rw [rd_nat, rd_nat] at this
          exact this
        cases hl : lessI (ys.getD (2 * k + 2) z73) (ys.getD (2 * k + 1) z73) with
        | true =>
          have ej : (2 * (k : Int) + 1 + 1) = (j : Int) := by
            have : sonI ys n k = 2 * k + 2 := by unfold sonI; rw [if_pos ⟨h2, hl⟩]
            omega
          rw [hl] at L1
          have L1' := Aside0.mk L1
          have EJ := Aside0.mk ej
          clear L1 hl ej hj
          cases b
          all_goals
            go_wp2_with (first
              | (go_at_call 97; (with_reducible refine L1'.out.mono ?_); rintro e w1 ⟨rfl, hb1⟩; have HB1 := Aside0.mk hb1; clear hb1 L1')
              | (go_at_call 97; (with_reducible refine (L2'.out _ _ EJ.out HB1.out).mono ?_); rintro e w2 ⟨rfl, hb2⟩; have HB2 := Aside0.mk (HB1.out.trans (hb2.mono HB1.out.size)); clear hb2)
              | (go_at_call 99; (with_reducible refine (SW'.out _ _ EJ.out HB2.out).mono ?_); rintro e w3 ⟨rfl, hq3, hf3⟩; have HQ3 := Aside0.mk hq3; have HF3 := Aside0.mk hf3; clear hq3 hf3))
          · go_ret
            have E := hE.out
            rw [STEP.out.2 (by first | rfl | trivial)] at E
            subst E
            exact ⟨by simp [movedI], HQ.out.below HB2.out, HF.out.then_below HB2.out⟩
          · go_roundg (n - j)
            case measure => omega
            case rel => exact ⟨j, swpI ys k j, by rw [EJ.out], Nat.le_refl _, by omega, by rw [swpI_length]; exact hny, HQ3.out, HF3.out, (STEP.out.1 (by first | rfl | trivial)).symm.trans hE.out⟩
        | false =>
          have ej : (2 * (k : Int) + 1) = (j : Int) := by
            have : sonI ys n k = 2 * k + 1 := by unfold sonI; rw [if_neg (by rw [hl]; simp)]
            omega
          rw [hl] at L1
          have L1' := Aside0.mk L1
          have EJ := Aside0.mk ej
          clear L1 hl ej hj
          cases b
          all_goals
            go_wp2_with (first
              | (go_at_call 97; (with_reducible refine L1'.out.mono ?_); rintro e w1 ⟨rfl, hb1⟩; have HB1 := Aside0.mk hb1; clear hb1 L1')
              | (go_at_call 97; (with_reducible refine (L2'.out _ _ EJ.out HB1.out).mono ?_); rintro e w2 ⟨rfl, hb2⟩; have HB2 := Aside0.mk (HB1.out.trans (hb2.mono HB1.out.size)); clear hb2)
              | (go_at_call 99; (with_reducible refine (SW'.out _ _ EJ.out HB2.out).mono ?_); rintro e w3 ⟨rfl, hq3, hf3⟩; have HQ3 := Aside0.mk hq3; have HF3 := Aside0.mk hf3; clear hq3 hf3))
          · go_ret
            have E := hE.out
            rw [STEP.out.2 (by first | rfl | trivial)] at E
            subst E
            exact ⟨by simp [movedI], HQ.out.below HB2.out, HF.out.then_below HB2.out⟩
          · go_roundg (n - j)
            case measure => omega
            case rel => exact ⟨j, swpI ys k j, by rw [EJ.out], Nat.le_refl _, by omega, by rw [swpI_length]; exact hny, HQ3.out, HF3.out, (STEP.out.1 (by first | rfl | trivial)).symm.trans hE.out⟩
      · have h2' : decide (2 * (k : Int) + 1 + 1 < (n : Int)) = false := by simp; omega
        have ej : (2 * (k : Int) + 1) = (j : Int) := by
          have : sonI ys n k = 2 * k + 1 := by unfold sonI; rw [if_neg (fun h => h2 h.1)]
          omega
        have EJ := Aside0.mk ej
        clear ej hj
        have HB1 := Aside0.mk (Below.refl wr.heap.size wr)
        cases b
        all_goals
          go_wp2_with (first
            | (go_at_call 97; (with_reducible refine (L2'.out _ _ EJ.out HB1.out).mono ?_); rintro e w2 ⟨rfl, hb2⟩; have HB2 := Aside0.mk (HB1.out.trans (hb2.mono HB1.out.size)); clear hb2)
            | (go_at_call 99; (with_reducible refine (SW'.out _ _ EJ.out HB2.out).mono ?_); rintro e w3 ⟨rfl, hq3, hf3⟩; have HQ3 := Aside0.mk hq3; have HF3 := Aside0.mk hf3; clear hq3 hf3))
        · go_ret
          have E := hE.out
          rw [STEP.out.2 (by first | rfl | trivial)] at E
          subst E
          exact ⟨by simp [movedI], HQ.out.below HB2.out, HF.out.then_below HB2.out⟩
        · go_roundg (n - j)
          case measure => omega
          case rel => exact ⟨j, swpI ys k j, by rw [EJ.out], Nat.le_refl _, by omega, by rw [swpI_length]; exact hny, HQ3.out, HF3.out, (STEP.out.1 (by first | rfl | trivial)).symm.trans hE.out⟩
    · go_wp2_with fail
      go_ret
      have e : downI ys n k = (ys, k) := by rw [downI, dif_neg h1]
      have E := hE.out
      rw [e] at E
      subst E
      exact ⟨by simp [movedI], HQ.out, HF.out⟩
end Go.Proofs.Ytaeacdnefklakaa.L
