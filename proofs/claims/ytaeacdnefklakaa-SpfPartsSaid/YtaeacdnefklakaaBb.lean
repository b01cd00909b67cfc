/-
  slices.Clone over ints.
  Conditions: as the contract states them.
-/
import Derived.Test.YtaeacdnefklakaaBa
namespace Go.Proofs.Ytaeacdnefklakaa.L
open Go.RowKit Go.Proofs.YtaeacdnefklakaaW.PrintWords Go.Proofs.YtaeacdnefklakaaW.PrintLast Go.Proofs.YtaeacdnefklakaaW.PrintMore Go.Fr
set_option linter.unusedVariables false
set_option linter.unusedSimpArgs false
set_option maxRecDepth 100000

theorem R_empty (W : World) (base : Nat) (hb : base ≤ W.heap.size) : (Kd.int .i64).R 3 (W.alloc (.cells #[] 3)) base Any (.slice (some ⟨W.heap.size, 0, none⟩) 0 0) [] :=
  ⟨fun _ _ => trivial, [], ⟨rfl, Or.inr ⟨W.heap.size, 0, #[], rfl, hb, blk_new _ _, by simp, by simp, by simp, by simp⟩⟩, by simp [Reps]⟩

set_option maxHeartbeats 800000 in
theorem clone_c (W : World) (base : Nat) (xs : List Int) (v : Value) (hR : (Kd.int .i64).R 3 W base Any v xs) (hl : xs.length ≤ 1024) :
    Calls Try.prog 28 #[v] W fun e w' => ∃ v', e = .returned v' ∧ (Kd.int .i64).R 3 w' W.heap.size Any v' xs ∧ Below W.heap.size W w' := by
  obtain ⟨A, c, rfl, hc, hC⟩ := Kd.R_reads hR
  cases A with
  | none =>
    obtain ⟨inner, ho⟩ := Kd.R_own hR
    rcases ho.2 with ⟨hv, h0⟩ | ⟨g, cap, cur, hv, _⟩
    · have hx : xs = [] := List.eq_nil_of_length_eq_zero h0
      subst hx
      injection hv with _ hv1 hv2
      subst hv2
      have hq : ∀ w, (binOp .eql 25 (.slice none 0 0) (.slice none 0 0)).run Try.prog w = .ok (.bool true) w := fun w => by kernel_rfl
      clear hR hC ho
      go_enter Try.func28, Try.ntmps28
      go_wp2
      go_ret
      exact ⟨_, rfl, Kd.R_nil _ _ _ _ _, Below.refl _ _⟩
    · injection hv with hv
      cases hv
  | some ad =>
    have H0 := Aside0.mk (R_empty W W.heap.size (Nat.le_refl _))
    have HC := Aside0.mk (Kd.C_alloc hC (.cells #[] 3))
    have hq : ∀ w, (binOp .eql 25 (.slice (some ad) xs.length c) (.slice none 0 0)).run Try.prog w = .ok (.bool false) w := fun w => by kernel_rfl
    clear hC hR
    go_enter Try.func28, Try.ntmps28
    go_wp2_with (at_builtin; go_loud (refine Kd.R_append_row (Value.int .i64) (0 : Int) (w0 := W) W.heap.size rfl (.tmp 5) (.tmp 6) 25 3 (.int .i64 0) 8 rfl (by kernel_rfl) (by kernel_rfl) rfl (by decide) (.slice (some ⟨W.heap.size, 0, none⟩) 0 0) [] xs (some ad) xs.length c Any rfl rfl (fun _ _ => trivial) H0.out HC.out (below_alloc (Below.refl _ _) _) (Nat.le_of_lt (blk_lt (blk_new _ _))) (by simp; omega) ?_); intro v1 w1 hR1 hB1 hg1 hat1; have R1 := Aside0.mk hR1; have B1 := Aside0.mk hB1; clear hR1 hB1 hg1 hat1)
    go_ret
    exact ⟨_, rfl, R1.out, B1.out⟩
end Go.Proofs.Ytaeacdnefklakaa.L
