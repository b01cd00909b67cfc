/-
  The queue's Pop where nothing is in it.
  Conditions: as the contract states them.
-/
import Derived.Test.YtaeacdnefklakaaQe
namespace Go.Proofs.Ytaeacdnefklakaa.L
open Go.RowKit Go.Proofs.YtaeacdnefklakaaW.PrintWords Go.Proofs.YtaeacdnefklakaaW.PrintLast Go.Proofs.YtaeacdnefklakaaW.PrintMore Go.Fr
set_option linter.unusedVariables false
set_option linter.unusedSimpArgs false

set_option maxHeartbeats 400000 in
set_option maxRecDepth 100000 in
theorem qpop_nil (W : World) (base q : Nat) (h : IsQ W base q []) : Calls Try.prog 26 #[.pointer (some ⟨q, 0, none⟩)] W fun e w' => e = .returned (.tuple #[.agg #[.int .i64 0, .int .i64 0, .int .i64 0], .int .i64 8]) ∧ Below W.heap.size W w' := by
  have G := Aside0.mk (fun (w1 : World) (hb : Below W.heap.size W w1) => good_c w1 base q [] (h.below hb))
  have L := Aside0.mk (fun (w1 : World) (hb : Below W.heap.size W w1) => qlen_c w1 base q [] (h.below hb))
  clear h
  go_enter Try.func26, Try.ntmps26
  go_wp2_with (first
    | (go_at_call 42; (with_reducible refine (G.out _ (below_alloc (Below.refl _ _) _)).mono ?_); rintro e w1 ⟨rfl, hb1⟩; have X1 := Aside0.mk (blk_below (blk_new W _) hb1); have HB1 := Aside0.mk ((below_alloc (Below.refl _ _) _).trans (hb1.mono (blk_le_alloc W _))); clear hb1)
    | (go_at_call 43; (with_reducible refine (L.out _ HB1.out).mono ?_); rintro e w2 ⟨rfl, hb2⟩; have hb3 := blk_below X1.out hb2; have y0 : w2.cell? ⟨W.heap.size, 0, none⟩ = some (.int .i64 0) := (blk_cell hb3 0).trans rfl; have y1 : w2.cell? ⟨W.heap.size, 1, none⟩ = some (.int .i64 0) := (blk_cell hb3 1).trans rfl; have y2 : w2.cell? ⟨W.heap.size, 2, none⟩ = some (.int .i64 0) := (blk_cell hb3 2).trans rfl; have z0 := blk_frozen hb3 0; have z1 := blk_frozen hb3 1; have z2 := blk_frozen hb3 2; have X2 := Aside0.mk hb3; have HB2 := Aside0.mk (HB1.out.trans (hb2.mono HB1.out.size)); clear hb2 hb3))
  obtain ⟨w4, hw4⟩ : ∃ w4, (((w2.setCell ⟨W.heap.size, 0, none⟩ (.int .i64 0)).setCell ⟨W.heap.size, 1, none⟩ (.int .i64 0)).setCell ⟨W.heap.size, 2, none⟩ (.int .i64 0)) = w4 := ⟨_, rfl⟩
  have hb4 : w4.heap[W.heap.size]? = some (.cells #[.int .i64 0, .int .i64 0, .int .i64 0] 73 (0, 0)) := by rw [← hw4]; exact blk_put (blk_put (blk_put X2.out 0 _ rfl) 1 _ rfl) 2 _ rfl
  have B4 : Below W.heap.size W w4 := by
    rw [← hw4]
    have F1 := (Fr.of_below HB2.out W.heap.size [73]).setCell (p := ⟨W.heap.size, 0, none⟩) X2.out (List.mem_singleton.2 rfl) (Nat.le_refl _) (.int .i64 0)
    have F2 := F1.setCell (p := ⟨W.heap.size, 1, none⟩) (blk_put X2.out 0 _ rfl) (List.mem_singleton.2 rfl) (Nat.le_refl _) (.int .i64 0)
    have F := F2.setCell (p := ⟨W.heap.size, 2, none⟩) (blk_put (blk_put X2.out 0 _ rfl) 1 _ rfl) (List.mem_singleton.2 rfl) (Nat.le_refl _) (.int .i64 0)
    exact F.below (Nat.le_refl _)
  rw [hw4]
  have u0 : w4.cell? ⟨W.heap.size, 0, none⟩ = some (.int .i64 0) := (blk_cell hb4 0).trans rfl
  have u1 : w4.cell? ⟨W.heap.size, 1, none⟩ = some (.int .i64 0) := (blk_cell hb4 1).trans rfl
  have u2 : w4.cell? ⟨W.heap.size, 2, none⟩ = some (.int .i64 0) := (blk_cell hb4 2).trans rfl
  refine bodyPost_ret (v := .tuple #[.agg #[.int .i64 0, .int .i64 0, .int .i64 0], .int .i64 8]) ?_ rfl ?_
  · simp [results, Try.f26, Try.results26, go_sem, u0, u1, u2]
    try rfl
  · exact ⟨rfl, B4⟩

/-- Pop, of whatever queue: the item, the error, what is left. -/
def popE (xs : List S73) : S73 × Int × List S73 := match xs with
  | [] => (z73, 8, [])
  | x :: t => ((popI (x :: t)).1, 0, (popI (x :: t)).2)

theorem popE_c (W : World) (base q : Nat) (xs : List S73) (h : IsQ W base q xs) (x : S73) (er : Int) (ys : List S73) (hx : popE xs = (x, er, ys)) :
    Calls Try.prog 26 #[.pointer (some ⟨q, 0, none⟩)] W fun e w' => e = .returned (.tuple #[.agg #[.int .i64 x.f0, .int .i64 x.f1, .int .i64 x.f2], .int .i64 er]) ∧ IsQ w' base q ys ∧ FrS q base [73, 108] W w' := by
  cases xs with
  | nil =>
    simp only [popE] at hx
    injection hx with h1 h2
    injection h2 with h2 h3
    subst h1 h2 h3
    refine (qpop_nil W base q h).mono ?_
    rintro e w' ⟨rfl, hb⟩
    exact ⟨rfl, h.below hb, FrS.of_below hb q base _⟩
  | cons y t =>
    simp only [popE] at hx
    injection hx with h1 h2
    injection h2 with h2 h3
    subst h2
    exact qpop_c W base q (y :: t) h (by simp) x ys (by rw [← h1, ← h3])
end Go.Proofs.Ytaeacdnefklakaa.L
