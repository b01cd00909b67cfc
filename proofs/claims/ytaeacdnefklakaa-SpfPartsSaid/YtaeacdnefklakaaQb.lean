/-
  container/heap over the queue's items: up, down, Fix, Pop.
  Conditions: as each contract states them.
-/
import Derived.Test.YtaeacdnefklakaaQa
import Derived.Deep.LoopGhost
namespace Go.Proofs.Ytaeacdnefklakaa.L
open Go.RowKit Go.Proofs.YtaeacdnefklakaaW.PrintWords Go.Proofs.YtaeacdnefklakaaW.PrintLast Go.Proofs.YtaeacdnefklakaaW.PrintMore Go.Fr
set_option linter.unusedVariables false
set_option linter.unusedSimpArgs false

theorem swpI_length (xs : List S73) (i j : Nat) : (swpI xs i j).length = xs.length := by simp [swpI]

def upI (xs : List S73) (j : Nat) : List S73 :=
  if j = 0 then xs else
  if lessI (xs.getD j z73) (xs.getD ((j - 1) / 2) z73) = true then upI (swpI xs ((j - 1) / 2) j) ((j - 1) / 2) else xs
termination_by j
decreasing_by omega

theorem met_less (a : Addr) (w : World) : (method 278 114 (.pointer (some a)) "Less").run Try.prog w = .ok (97, .pointer (some a)) w := by kernel_rfl
theorem met_swap (a : Addr) (w : World) : (method 278 114 (.pointer (some a)) "Swap").run Try.prog w = .ok (99, .pointer (some a)) w := by kernel_rfl
theorem met_len (a : Addr) (w : World) : (method 278 114 (.pointer (some a)) "Len").run Try.prog w = .ok (57, .pointer (some a)) w := by kernel_rfl
theorem met_pop (a : Addr) (w : World) : (method 278 114 (.pointer (some a)) "Pop").run Try.prog w = .ok (98, .pointer (some a)) w := by kernel_rfl

theorem rd_nat (xs : List S73) (i : Nat) : rd_T73 xs (i : Int) = xs.getD i z73 := by simp [rd_T73]

set_option maxHeartbeats 400000 in
set_option maxRecDepth 100000 in
theorem up_c (W : World) (base q : Nat) (xs : List S73) (h : IsQ W base q xs) (j : Int) (hj : 0 ≤ j) (hj' : j < xs.length) :
    Calls Try.prog 66 #[.iface 114 (.pointer (some ⟨q, 1, none⟩)), .int .i64 j] W fun e w' => e = .returned (.tuple #[]) ∧ IsQ w' base q (upI xs j.toNat) ∧ FrS q base [73] W w' := by
  obtain ⟨j, rfl⟩ := Int.eq_ofNat_of_zero_le hj
  rw [Int.toNat_natCast]
  have H := Aside0.mk h
  clear h
  go_enter Try.func66, Try.ntmps66
  go_wp2
  go_loopg [1] j (fun g vj wr => ∃ (k : Nat) (ys : List S73), vj = .int .i64 k ∧ k ≤ g ∧ k < ys.length ∧ IsQ wr base q ys ∧ FrS q base [73] W wr ∧ Hid (upI ys k = upI xs j))
  case atStart => exact ⟨j, xs, rfl, Nat.le_refl _, by omega, H.out, FrS.refl _ _ _ _, rfl⟩
  case round =>
    obtain ⟨k, ys, rfl, hkg, hk, hQ, hF, hE⟩ := hrel
    by_cases hk0 : k = 0
    · subst hk0
      go_wp2
      go_end0
      refine ⟨rfl, ?_, hF⟩
      have e : upI ys 0 = ys := by rw [upI, if_pos rfl]
      rw [← hE.out, e]
      exact hQ
    · obtain ⟨k, rfl⟩ : ∃ m, k = m + 1 := ⟨k - 1, by omega⟩
      have hlen := hQ.len
      have hml := met_less ⟨q, 1, none⟩
      have hms := met_swap ⟨q, 1, none⟩
      have hne : ((k : Int) / 2 == (k : Int) + 1) = false := beq_eq_false_iff_ne.2 (by omega)
      have HQ := Aside0.mk hQ
      have HF := Aside0.mk hF
      clear hQ hF
      have L := Aside0.mk (items_less wr base q ys HQ.out ((k : Int) + 1) ((k : Int) / 2) (by omega) (by omega) (by omega) (by omega))
      have er : rd_T73 ys ((k : Int) + 1) = ys.getD (k + 1) z73 := rd_nat ys (k + 1)
      have er2 : rd_T73 ys ((k : Int) / 2) = ys.getD (k / 2) z73 := rd_nat ys (k / 2)
      have ER := Aside0.mk (And.intro er er2)
      clear er er2
      cases hl : lessI (ys.getD (k + 1) z73) (ys.getD (k / 2) z73) with
      | false =>
        have L' : Aside0 _ := L
        rw [ER.out.1, ER.out.2, hl] at L'
        have HL := Aside0.mk hl
        clear hl L
        go_wp2_with (go_at_call 97; refine L'.out.mono ?_; rintro e w1 ⟨rfl, hb1⟩)
        go_end0
        have e : upI ys (k + 1) = ys := by rw [upI, if_neg (by omega), Nat.add_sub_cancel, if_neg (by rw [HL.out]; simp)]
        refine ⟨rfl, ?_, HF.out.then_below hb1⟩
        rw [← hE.out, e]
        exact HQ.out.below hb1
      | true =>
        have L' : Aside0 _ := L
        rw [ER.out.1, ER.out.2, hl] at L'
        have HL := Aside0.mk hl
        clear hl L
        go_wp2_with (first
          | (go_at_call 97; refine L'.out.mono ?_; rintro e w1 ⟨rfl, hb1⟩; have HQ1 := Aside0.mk (HQ.out.below hb1); have HF1 := Aside0.mk (HF.out.then_below hb1); clear hb1)
          | (go_at_call 99; refine (items_swap _ base q ys HQ1.out ((k : Int) / 2) ((k : Int) + 1) (by omega) (by omega) (by omega) (by omega)).mono ?_; rintro e w2 ⟨rfl, hq2, hf2⟩; have HQ2 := Aside0.mk hq2; have HF2 := Aside0.mk (HF1.out.trans hf2); clear hq2 hf2))
        go_roundg (k / 2)
        case measure => omega
        case rel =>
          refine ⟨k / 2, swpI ys (k / 2) (k + 1), by go_num, Nat.le_refl _, by rw [swpI_length]; omega, ?_, HF2.out, ?_⟩
          · exact HQ2.out
          · show _ = _
            rw [← hE.out, upI.eq_1 ys (k + 1), if_neg (by omega), Nat.add_sub_cancel, if_pos HL.out]
end Go.Proofs.Ytaeacdnefklakaa.L
