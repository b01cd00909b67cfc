/-
  container/heap.Fix at the last place, (*items).Pop, container/heap.Pop.
  Conditions: as each contract states them.
-/
import Derived.Test.YtaeacdnefklakaaQc
namespace Go.Proofs.Ytaeacdnefklakaa.L
open Go.RowKit Go.Proofs.YtaeacdnefklakaaW.PrintWords Go.Proofs.YtaeacdnefklakaaW.PrintLast Go.Proofs.YtaeacdnefklakaaW.PrintMore Go.Fr
set_option linter.unusedVariables false
set_option linter.unusedSimpArgs false

theorem upI_length (xs : List S73) (j : Nat) : (upI xs j).length = xs.length := by
  induction j using Nat.strongRecOn generalizing xs with
  | _ j ih =>
    rw [upI]
    split
    · rfl
    · split
      · rw [ih _ (by omega), swpI_length]
      · rfl
theorem downI_length (xs : List S73) (n i : Nat) : (downI xs n i).1.length = xs.length := by
  induction hk : n - i using Nat.strongRecOn generalizing xs i with
  | _ k ih =>
    rw [downI]
    split
    · split
      · have := sonI_gt xs n i
        rw [ih _ (by omega) _ _ rfl, swpI_length]
      · rfl
    · rfl

set_option maxHeartbeats 400000 in
set_option maxRecDepth 100000 in
theorem fix_c (W : World) (base q : Nat) (xs : List S73) (h : IsQ W base q xs) (i : Nat) (hi : xs.length = i + 1) (I : Int) (hI : I = (i : Int)) :
    Calls Try.prog 56 #[.iface 114 (.pointer (some ⟨q, 1, none⟩)), .int .i64 I] W fun e w' => e = .returned (.tuple #[]) ∧ IsQ w' base q (upI xs i) ∧ FrS q base [73] W w' := by
  subst hI
  have hml := met_len ⟨q, 1, none⟩
  have hd : downI xs (i + 1) i = (xs, i) := by rw [downI, dif_neg (by omega)]
  have LEN := Aside0.mk (items_len W base q xs h)
  have DOWN : ∀ w1, Below W.heap.size W w1 → Calls Try.prog 58 #[.iface 114 (.pointer (some ⟨q, 1, none⟩)), .int .i64 i, .int .i64 ((i : Int) + 1)] w1 fun e w' => e = .returned (.bool false) ∧ IsQ w' base q xs ∧ FrS q base [73] W w' := fun w1 hb => by
    refine (down_c w1 base q xs (h.below hb) (i : Int) ((i : Int) + 1) (by omega) (by omega) (by have := h.len; omega) (by omega)).mono ?_
    rintro e w' ⟨rfl, hq, hf⟩
    rw [Int.toNat_natCast, show ((i : Int) + 1).toNat = i + 1 by omega, hd] at hq
    refine ⟨?_, hq, (FrS.of_below hb q base _).trans hf⟩
    rw [Int.toNat_natCast, show ((i : Int) + 1).toNat = i + 1 by omega, hd]
    simp [movedI]
  have DOWN' := Aside0.mk DOWN
  clear DOWN h hd
  go_enter Try.func56, Try.ntmps56
  go_wp2_with (first
    | (go_at_call 57; (with_reducible refine LEN.out.mono ?_); rintro e w1 ⟨rfl, hb1⟩; have HB1 := Aside0.mk hb1; clear hb1)
    | (go_at_call 58; ((with_reducible refine (DOWN'.out _ HB1.out).mono ?_); rintro e w1 ⟨rfl, hq1, hf1⟩; have HQ1 := Aside0.mk hq1; have HF1 := Aside0.mk hf1; clear hq1 hf1))
    | (go_at_call 66; (with_reducible refine (up_c _ base q xs HQ1.out (i : Int) (by omega) (by omega)).mono ?_); rintro e w1 ⟨rfl, hq2, hf2⟩; have HQ2 := Aside0.mk hq2; have HF2 := Aside0.mk (HF1.out.trans hf2); clear hq2 hf2))
  go_end0
  refine ⟨rfl, ?_, HF2.out⟩
  have := HQ2.out
  rwa [Int.toNat_natCast] at this

set_option maxHeartbeats 400000 in
set_option maxRecDepth 100000 in
theorem items_pop (W : World) (base q : Nat) (xs : List S73) (h : IsQ W base q xs) (m : Nat) (hm : xs.length = m + 1) (x : S73) (hx : xs.getD m z73 = x) :
    Calls Try.prog 98 #[.pointer (some ⟨q, 1, none⟩)] W fun e w' => e = .returned (.iface 73 (.agg #[.int .i64 x.f0, .int .i64 x.f1, .int .i64 x.f2])) ∧ IsQ w' base q (xs.take m) ∧ FrS q base [73, 108] W w' := by
  have hle := h.le
  have hln := h.len
  obtain ⟨g, c, cur, hb, hh, hg, hR, hat⟩ := h.at (m : Int) (by omega) (by omega)
  obtain ⟨x0, x1, x2⟩ := hat (m : Int) (by omega) (by omega)
  rw [rd_nat, hx] at x0 x1 x2
  rw [Int.toNat_natCast] at x0 x1 x2
  have hl : W.cell? ⟨q, 1, none⟩ = some (.slice (some ⟨g, 0, none⟩) xs.length c) := (blk_cell hb 1).trans rfl
  have HB := Aside0.mk hb
  have HR := Aside0.mk hR
  have hc := (Kd.R_reads' hR).2.1
  rw [hm] at hc hl hb
  clear hR hat hh hg h
  have e1 : (m : Int) + 1 - 1 = m := by omega
  have hlt := blk_lt hb
  have hfr : W.frozen? ⟨q, 1, none⟩ = false := blk_frozen hb 1
  have hne : q ≠ W.heap.size := by omega
  go_enter Try.func98, Try.ntmps98
  go_wp2
  go_ret
  have R1 := Kd.R_set (Kd.R_take HR.out (m := m) (by omega)) hb (by intro x hx; simp [k73, Kd.iso, Kd.pair, Kd.int, Kd.scalar] at hx; subst hx; decide) 1 (.slice (some ⟨g, 0, none⟩) m c)
  refine ⟨rfl, ⟨⟨.slice (some ⟨g, 0, none⟩) m c, blk_alloc (blk_put hb 1 _ rfl) _, Kd.R_alloc R1 _⟩, hle, by simp; omega⟩, ⟨((Fr.refl base [73, 108] W).setCell hb (by simp) hle _).alloc _, fun v hv => ?_⟩⟩
  rw [hb] at hv
  injection hv with hv
  injection hv with hv
  injection hv with hv
  injection hv with hv1 hv
  injection hv with hv
  subst hv
  have hqI : ∀ (k : Nat) (cs : Array Value), W.heap[k]? = some (.cells cs 73 (0, 0)) → k ≠ q := fun k cs hk => blk_ne hk hb (by decide)
  exact ⟨fun k cs hk _ => blk_alloc (blk_far hk (hqI k cs hk) _) _, _, blk_alloc (blk_put hb 1 _ rfl) _, Or.inl rfl⟩

def popI (xs : List S73) : S73 × List S73 :=
  let ys := (downI (swpI xs 0 (xs.length - 1)) (xs.length - 1) 0).1
  (ys.getD (xs.length - 1) z73, ys.take (xs.length - 1))

set_option maxHeartbeats 400000 in
set_option maxRecDepth 100000 in
theorem hpop_c (W : World) (base q : Nat) (xs : List S73) (h : IsQ W base q xs) (m : Nat) (hm : xs.length = m + 1) (x : S73) (ys : List S73) (hx : popI xs = (x, ys)) :
    Calls Try.prog 44 #[.iface 114 (.pointer (some ⟨q, 1, none⟩))] W fun e w' => e = .returned (.iface 73 (.agg #[.int .i64 x.f0, .int .i64 x.f1, .int .i64 x.f2])) ∧ IsQ w' base q ys ∧ FrS q base [73, 108] W w' := by
  have hln := h.len
  have hm1 := met_len ⟨q, 1, none⟩
  have hm2 := met_swap ⟨q, 1, none⟩
  have hm3 := met_pop ⟨q, 1, none⟩
  have LEN := items_len W base q xs h
  rw [hm, Int.natCast_succ] at LEN
  have SWAP := fun (w1 : World) (hb : Below W.heap.size W w1) => items_swap w1 base q xs (h.below hb) 0 (m : Int) (by omega) (by omega) (by omega) (by omega)
  have DOWN := fun w1 hq => down_c w1 base q (swpI xs 0 m) hq 0 (m : Int) (by omega) (by omega) (by omega) (by rw [swpI_length]; omega)
  have e1 : popI xs = ((downI (swpI xs 0 m) m 0).1.getD m z73, (downI (swpI xs 0 m) m 0).1.take m) := by simp [popI, hm]
  rw [e1] at hx
  injection hx with hx hy
  have POP := fun w1 hq => items_pop w1 base q (downI (swpI xs 0 m) m 0).1 hq m (by rw [downI_length, swpI_length]; exact hm) x hx
  rw [hy] at POP
  have e2 : (m : Int) + 1 - 1 = m := by omega
  have L := Aside0.mk LEN
  have S := Aside0.mk SWAP
  have D := Aside0.mk DOWN
  have P := Aside0.mk POP
  clear LEN SWAP DOWN POP e1 hx hy h
  go_enter Try.func44, Try.ntmps44
  go_wp2_with (first
    | (go_at_call 57; (with_reducible refine L.out.mono ?_); rintro e w1 ⟨rfl, hb1⟩; have HB1 := Aside0.mk hb1; clear hb1)
    | (go_at_call 99; (with_reducible refine (S.out _ HB1.out).mono ?_); rintro e w2 ⟨rfl, hq2, hf2⟩; have HQ2 := Aside0.mk hq2; have HF2 := Aside0.mk ((FrS.of_below HB1.out q base _).trans hf2); clear hq2 hf2)
    | (go_at_call 58; (with_reducible refine (D.out _ HQ2.out).mono ?_); rintro e w3 ⟨rfl, hq3, hf3⟩; have HQ3 := Aside0.mk hq3; have HF3 := Aside0.mk (HF2.out.trans hf3); clear hq3 hf3)
    | (go_at_call 98; (with_reducible refine (P.out _ HQ3.out).mono ?_); rintro e w4 ⟨rfl, hq4, hf4⟩; have HQ4 := Aside0.mk hq4; have HF4 := Aside0.mk ((HF3.out.mono (Nat.le_refl _) (by simp)).trans hf4); clear hq4 hf4))
  go_ret
  exact ⟨rfl, HQ4.out, HF4.out⟩
end Go.Proofs.Ytaeacdnefklakaa.L
