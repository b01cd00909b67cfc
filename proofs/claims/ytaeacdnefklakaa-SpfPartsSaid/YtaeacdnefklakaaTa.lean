/-
  append(v[:n:n], x) over ints: a new row. Settle, as a plain function.
  Conditions: as each lemma states them.
-/
import Derived.Test.YtaeacdnefklakaaOa
import Derived.Test.YtaeacdnefklakaaSc
namespace Go.Proofs.Ytaeacdnefklakaa.L
open Go.RowKit Go.Proofs.YtaeacdnefklakaaW.PrintWords Go.Proofs.YtaeacdnefklakaaW.PrintLast Go.Proofs.YtaeacdnefklakaaW.PrintMore Go.Fr
set_option linter.unusedVariables false
set_option linter.unusedSimpArgs false
set_option maxRecDepth 100000

theorem info_int : (Try.prog.info? 3).map (fun i => (i.zero, i.size, i.bytes)) = some (some (.int .i64 0), 1, 8) := by kernel_rfl
theorem under_sint : Try.prog.underlying 25 = some (.slice 3) := by kernel_rfl

theorem grow1 {ops : Array Oper} {rest : List Oper} {o : Oper} {a : Act} {Q : Exit → Act → World → Prop} {W : World} (s x : Operand) (hgd : o.guard = none) (ho : o.op = .call { callee := .builtin .append, args := #[s, x], argTypes := #[25, 25] })
    (A : Option Addr) (xs : List Int) (z : Int) (hs : a.eval s = .slice A xs.length xs.length) (hx : a.eval x = .slice (some ⟨W.heap.size, 0, none⟩) 1 1) (hC : (Kd.int .i64).C W A xs.length xs) (hn : 0 < xs.length) (hn' : xs.length ≤ 1024)
    (h : ∀ v1 w1, (Kd.int .i64).R 3 w1 W.heap.size Any v1 (xs ++ [z]) → Below W.heap.size W w1 → wpList Try.prog ops Q rest (a.put o.dst v1) w1) : wpList Try.prog ops Q (o :: rest) a (W.alloc (.cells #[.int .i64 z] 3)) := by
  obtain ⟨i0, hi, hzz⟩ := Option.map_eq_some_iff.1 info_int
  simp only [Prod.mk.injEq] at hzz
  obtain ⟨hz0, hz1, hz2⟩ := hzz
  obtain ⟨ad, rfl, _⟩ := at_nat hC 0 hn
  have hat : ∀ j u, (nums .i64 xs)[j]? = some u → (W.alloc (.cells #[.int .i64 z] 3)).cell? (ad.add j) = some u := by
    intro j u hj
    have hjl : j < xs.length := by
      have := (List.getElem?_eq_some_iff.1 hj).1
      simpa [nums] using this
    obtain ⟨ad', e, hc⟩ := at_nat (Kd.C_alloc hC (.cells #[.int .i64 z] 3)) j hjl
    injection e with e
    subst e
    rw [hc]
    simp [nums, hjl] at hj
    rw [← hj]
    simp [hjl]
  obtain ⟨v', w', hrun, r1, r2⟩ := run_append_arg_grows (P := Try.prog) (w := W.alloc (.cells #[.int .i64 z] 3)) 25 o.type 3 i0 (.int .i64 0) 1 8 under_sint hi hz0 hz1 hz2 rfl (by decide) ad xs.length xs.length (nums .i64 xs) (by simp [nums]) hat ⟨W.heap.size, 0, none⟩ 1 1 [.int .i64 z] rfl
    (by simpa using World.news_of_block (cs := #[Value.int .i64 z]) (t := 3) (fr := (0, 0)) (heap_alloc_new W (.cells #[.int .i64 z] 3))) (by omega) (by simp only [maxLen]; omega) (by omega)
  refine Kd.event_run (w1 := w') (v := v') hgd ?_ (h v' w' ?_ ?_)
  · simp [execOp, ho, resolve, invoke, builtin, hs, hx, hrun, Result.andThen]
  · have e : nums .i64 xs ++ [Value.int .i64 z] = encs (Value.int .i64) (xs ++ [z]) := by simp [nums, encs]
    rw [e] at r1
    have := Kd.R_of_own (h1 := fun _ => rfl) (xs := xs ++ [z]) (by rw [List.length_append, List.length_singleton]; exact r1) (ok := Any) (fun _ _ => trivial)
    exact Kd.R_lower this (Nat.le_of_lt (blk_lt (blk_new _ _)))
  · exact (below_alloc (Below.refl _ _) _).trans ((Below.mono · (blk_le_alloc W _)) ⟨r2.os, r2.tape, r2.output, r2.size, fun k hk => r2.block k hk (by simp)⟩)

/-- What settle does. -/
def settleI (l : List S60) (st : List S69 × List S73) (node : Nat) : List S69 × List S73 :=
  let w := st.1.getD node z69
  if w.f2 then st else (outsI l node).foldl (fun st i => offerI st ((rd_T60 l i).f1).toNat (w.f0 ++ [(rd_T60 l i).f1]) (w.f1 + (rd_T60 l i).f3)) (st.1.set node ⟨w.f0, w.f1, true⟩, st.2)
end Go.Proofs.Ytaeacdnefklakaa.L
