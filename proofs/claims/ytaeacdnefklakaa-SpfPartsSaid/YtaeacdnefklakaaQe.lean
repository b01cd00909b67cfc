/-
  The queue: New, good, Len, Push, Pop.
  Conditions: as each contract states them.
-/
import Derived.Test.YtaeacdnefklakaaQd
namespace Go.Proofs.Ytaeacdnefklakaa.L
open Go.RowKit Go.Proofs.YtaeacdnefklakaaW.PrintWords Go.Proofs.YtaeacdnefklakaaW.PrintLast Go.Proofs.YtaeacdnefklakaaW.PrintMore Go.Fr
set_option linter.unusedVariables false
set_option linter.unusedSimpArgs false

theorem arr3 (cs : Array Value) (h : cs.size = 3) : ∃ a b c, cs = #[a, b, c] := ⟨cs[0], cs[1], cs[2], by apply Array.ext; simpa using h; intro i h1 h2; match i, h2 with | 0, _ => rfl | 1, _ => rfl | 2, _ => rfl⟩
theorem R_ok {w : World} {base : Nat} {v : Value} {xs : List S73} {ok : Nat → Prop} (h : k73.R 73 w base Any v xs) (hk : ∀ k, v.ownBlock = some k → ok k) : k73.R 73 w base ok v xs := ⟨hk, h.2.imp_ (fun _ _ hp => hp)⟩
theorem R_mono_any {w : World} {base : Nat} {v : Value} {xs : List S73} {ok : Nat → Prop} (h : k73.R 73 w base ok v xs) : k73.R 73 w base Any v xs := Kd.R_mono h (fun _ _ => trivial)
theorem blk_le_alloc (W : World) (o : Obj) : W.heap.size ≤ (W.alloc o).heap.size := Nat.le_of_lt (blk_lt (blk_new W o))

theorem ItemE : ∀ q, q ∈ 73 :: k73.E → q ≠ 108 := by intro x hx; simp [k73, Kd.iso, Kd.pair, Kd.int, Kd.scalar] at hx; subst hx; decide
theorem R_ne2 {w : World} {base g : Nat} {v : Value} {xs : List S73} {cells : Array Value} (h : k73.R 73 w base Any v xs) (hb : w.heap[g]? = some (.cells cells 108 (0, 0))) : some g ≠ v.ownBlock := Kd.R_ne h hb (by decide)

set_option maxHeartbeats 400000 in
theorem qnew_c (W : World) : Calls Try.prog 24 #[] W fun e w' => e = .returned (.pointer (some ⟨W.heap.size, 0, none⟩)) ∧ Below W.heap.size W w' ∧ W.heap.size < w'.heap.size ∧ ∀ base, base ≤ W.heap.size → IsQ w' base W.heap.size [] := by
  go_enter Try.func24, Try.ntmps24
  go_wp2
  go_ret
  exact ⟨rfl, below_alloc (Below.refl _ _) _, blk_lt (blk_new _ _), fun base hb => ⟨⟨.slice none 0 0, blk_new _ _, Kd.R_nil _ _ _ _ _⟩, hb, by simp⟩⟩

set_option maxHeartbeats 400000 in
theorem good_c (W : World) (base q : Nat) (xs : List S73) (h : IsQ W base q xs) : Calls Try.prog 42 #[.pointer (some ⟨q, 0, none⟩)] W fun e w' => e = .returned (.bool true) ∧ Below W.heap.size W w' := by
  obtain ⟨⟨v, hb, hR⟩, hq, hn⟩ := h
  have hl : W.cell? ⟨q, 0, none⟩ = some (.bool true) := (blk_cell hb 0).trans rfl
  clear hb hR
  go_enter Try.func42, Try.ntmps42
  go_wp2
  go_ret
  exact ⟨rfl, Below.refl _ _⟩

set_option maxHeartbeats 400000 in
theorem qlen_c (W : World) (base q : Nat) (xs : List S73) (h : IsQ W base q xs) : Calls Try.prog 43 #[.pointer (some ⟨q, 0, none⟩)] W fun e w' => e = .returned (.int .i64 xs.length) ∧ Below W.heap.size W w' := by
  have G := Aside0.mk (good_c W base q xs h)
  have L := Aside0.mk (fun (w1 : World) (hb : Below W.heap.size W w1) => items_len w1 base q xs (h.below hb))
  clear h
  go_enter Try.func43, Try.ntmps43
  go_wp2_with (first
    | (go_at_call 42; (with_reducible refine G.out.mono ?_); rintro e w1 ⟨rfl, hb1⟩; have HB1 := Aside0.mk hb1; clear hb1)
    | (go_at_call 57; (with_reducible refine (L.out _ HB1.out).mono ?_); rintro e w2 ⟨rfl, hb2⟩; have HB2 := Aside0.mk (HB1.out.trans (hb2.mono HB1.out.size)); clear hb2))
  go_ret
  exact ⟨rfl, HB2.out⟩

def pushI (xs : List S73) (x : S73) : List S73 := upI (xs ++ [x]) xs.length

set_option maxHeartbeats 400000 in
set_option maxRecDepth 100000 in
theorem qpush_c (W : World) (base q : Nat) (xs : List S73) (h : IsQ W base q xs) (x : S73) (hx : xs.length < 1024) (ys : List S73) (hy : pushI xs x = ys) :
    Calls Try.prog 41 #[.pointer (some ⟨q, 0, none⟩), .agg #[.int .i64 x.f0, .int .i64 x.f1, .int .i64 x.f2]] W fun e w' => e = .returned (.int .i64 0) ∧ IsQ w' base q ys ∧ FrS q base [73, 108] W w' := by
  have hn : decide (1024 ≤ (xs.length : Int)) = false := by simp; omega
  have G := Aside0.mk (fun (w1 : World) (hb : Below W.heap.size W w1) => good_c w1 base q xs (h.below hb))
  have L := Aside0.mk (fun (w1 : World) (hb : Below W.heap.size W w1) => qlen_c w1 base q xs (h.below hb))
  have HH := Aside0.mk h
  clear h
  go_enter Try.func41, Try.ntmps41
  go_wp2_with (first
    | (go_at_call 42; (with_reducible refine (G.out _ (below_alloc (Below.refl _ _) _)).mono ?_); rintro e w1 ⟨rfl, hb1⟩; have X1 := Aside0.mk (blk_below (blk_new W _) hb1); have HB1 := Aside0.mk ((below_alloc (Below.refl _ _) _).trans (hb1.mono (blk_le_alloc W _))); clear hb1)
    | (go_at_call 43; (with_reducible refine (L.out _ HB1.out).mono ?_); rintro e w2 ⟨rfl, hb2⟩; have X2 := Aside0.mk (blk_below X1.out hb2); have HB2 := Aside0.mk (HB1.out.trans (hb2.mono HB1.out.size)); clear hb2))
  obtain ⟨⟨v, hb, hR⟩, hle, hln⟩ := HH.out.below HB2.out
  obtain ⟨A, c, rfl, hc, hC⟩ := Kd.R_reads hR
  have hl : w2.cell? ⟨q, 1, none⟩ = some (.slice A xs.length c) := (blk_cell hb 1).trans rfl
  have y0 : w2.cell? ⟨W.heap.size, 0, none⟩ = some (.int .i64 x.f0) := (blk_cell X2.out 0).trans rfl
  have y1 : w2.cell? ⟨W.heap.size, 1, none⟩ = some (.int .i64 x.f1) := (blk_cell X2.out 1).trans rfl
  have y2 : w2.cell? ⟨W.heap.size, 2, none⟩ = some (.int .i64 x.f2) := (blk_cell X2.out 2).trans rfl
  have HB := Aside0.mk (blk_drew hb)
  have HR := Aside0.mk (Kd.R_drew hR)
  have HF := Aside0.mk ((Fr.of_below HB2.out base [73, 108]).drew)
  have hqlt := blk_lt hb
  have hbs : base ≤ w2.drew.heap.size := Nat.le_of_lt (Nat.lt_of_le_of_lt hle (blk_lt (blk_drew hb)))
  clear hb hR hC
  refine Rt.region (by kernel_rfl) (by kernel_rfl) ?_
  go_wp2_with (at_builtin; (refine app1 k73 (base := base) (T := [73, 108]) (W0 := W) (W := w2.drew) (.tmp 18) (.tmp 20) 104 73 (.agg #[.int .i64 0, .int .i64 0, .int .i64 0]) 24 (.slice A xs.length c) xs x [.int .i64 x.f0, .int .i64 x.f1, .int .i64 x.f2] rfl rfl (by kernel_rfl) (by kernel_rfl) rfl (by decide) (by decide) rfl rfl (k73_mkM _ _ _ x) HR.out hbs (by omega) HF.out (by simp) ?_); intro v1 w3 hR1 hF1 hg1 hat1; obtain ⟨A1, c1, rfl, hc1, hC1⟩ := Kd.R_reads hR1; have HR1 := Aside0.mk hR1; have HF1 := Aside0.mk hF1; have hb1 := blk_grown HB.out hg1 (R_ne2 HR.out HB.out); have hfz := blk_frozen hb1 1; have hl1 := (blk_cell hb1 1).trans rfl; have HB1 := Aside0.mk hb1; have G1 := Aside0.mk hg1; have AT1 := Aside0.mk hat1; clear hR1 hF1 hg1 hat1 hb1 hC1)
  refine ⟨rfl, rfl, ?_⟩
  obtain ⟨w4, hw4⟩ : ∃ w4, w3.setCell ⟨q, 1, none⟩ (.slice A1 (xs.length + 1) c1) = w4 := ⟨_, rfl⟩
  have hb4 : w4.heap[q]? = some (.cells #[.bool true, .slice A1 (xs.length + 1) c1] 108 (0, 0)) := by rw [← hw4]; exact blk_put HB1.out 1 _ rfl
  have el : (xs ++ [x]).length = xs.length + 1 := by simp
  have Q4 : IsQ w4 base q (xs ++ [x]) := ⟨⟨_, hb4, by rw [← el, ← hw4]; exact Kd.R_set HR1.out HB1.out ItemE 1 _⟩, hle, by rw [el]; omega⟩
  have O4 : OwnQ q w2.drew w4 := fun v hv => by
    have e : v = .slice A xs.length c := by
      have := HB.out
      rw [hv] at this; injection this with this; injection this with this; injection this with this; injection this with _ this; injection this with this
    subst e
    refine ⟨fun k cs hk hne => ?_, _, hb4, by rw [← el]; exact AT1.out⟩
    have h3 := blk_grown hk G1.out hne
    rw [← hw4]
    exact blk_far h3 (blk_ne h3 HB1.out (by decide)) _
  have F4 : FrS q base [73, 108] W w4 := ⟨by rw [← hw4]; exact HF1.out.setCell HB1.out (by simp) hle _, (OwnQ.below (below_drew HB2.out)).trans O4 HB2.out.size⟩
  rw [hw4]
  have hl4 : w4.cell? ⟨q, 1, none⟩ = some (.slice A1 (xs.length + 1) c1) := (blk_cell hb4 1).trans rfl
  have Q4 := Aside0.mk Q4
  have F4 := Aside0.mk F4
  have FIX := Aside0.mk (fun (w5 : World) (hb : Below w4.heap.size w4 w5) => fix_c w5 base q (xs ++ [x]) (Q4.out.below hb) xs.length el (xs.length : Int) rfl)
  have HB4 := Aside0.mk (below_drew (Below.refl w4.heap.size w4))
  have e1 : (xs.length : Int) + 1 - 1 = xs.length := by omega
  clear hfz hl1 HB1 HR1 HF1 hw4 hb4 hl y0 y1 y2 el G1 AT1 O4
  go_wp2
  refine Rt.region (by kernel_rfl) (by kernel_rfl) ?_
  go_wp2_with (go_at_call 56; go_loud ((with_reducible refine (FIX.out _ HB4.out).mono ?_); rintro e w5 ⟨rfl, hq5, hf5⟩; have HQ5 := Aside0.mk hq5; have HF5 := Aside0.mk (F4.out.trans (((FrS.of_below HB4.out q base [73, 108])).trans (hf5.mono (Nat.le_refl _) (by simp)))); clear hq5 hf5))
  refine ⟨rfl, rfl, ?_⟩
  go_wp2
  go_ret
  refine ⟨rfl, ?_, HF5.out⟩
  rw [← hy]
  exact HQ5.out

set_option maxHeartbeats 400000 in
set_option maxRecDepth 100000 in
theorem qpop_c (W : World) (base q : Nat) (xs : List S73) (h : IsQ W base q xs) (h0 : 0 < xs.length) (x : S73) (ys : List S73) (hx : popI xs = (x, ys)) :
    Calls Try.prog 26 #[.pointer (some ⟨q, 0, none⟩)] W fun e w' => e = .returned (.tuple #[.agg #[.int .i64 x.f0, .int .i64 x.f1, .int .i64 x.f2], .int .i64 0]) ∧ IsQ w' base q ys ∧ FrS q base [73, 108] W w' := by
  obtain ⟨m, hm⟩ : ∃ m, xs.length = m + 1 := ⟨xs.length - 1, by omega⟩
  have hne : ((m : Int) + 1 == 0) = false := by simp; omega
  have hlt := let ⟨v, hb, _⟩ := h.ex; blk_lt hb
  have G := Aside0.mk (fun (w1 : World) (hb : Below W.heap.size W w1) => good_c w1 base q xs (h.below hb))
  have LL := fun (w1 : World) (hb : Below W.heap.size W w1) => qlen_c w1 base q xs (h.below hb)
  rw [hm, Int.natCast_succ] at LL
  have L := Aside0.mk LL
  have POP := Aside0.mk (fun (w1 : World) (hb : Below W.heap.size W w1) => hpop_c w1 base q xs (h.below hb) m hm x ys hx)
  have hbs : base ≤ W.heap.size := Nat.le_of_lt (Nat.lt_of_le_of_lt h.le hlt)
  have KEEP : Aside0 (∀ w2 w3 : World, Below W.heap.size W w2 → ∀ cs : Array Value, w2.heap[W.heap.size]? = some (.cells cs 73 (0, 0)) → FrS q base [73, 108] w2 w3 → w3.heap[W.heap.size]? = some (.cells cs 73 (0, 0)) ∧ ∀ v : Value, w3.heap[q]? = some (.cells #[.bool true, v] 108 (0, 0)) → ∀ k, v.ownBlock = some k → k ≠ W.heap.size) := ⟨by
    intro w2 w3 hb cs hcs hf
    obtain ⟨u, hu, hR⟩ := h.ex
    obtain ⟨h1, u', hu', eo⟩ := hf.own u (blk_below hu hb)
    refine ⟨h1 _ _ hcs (fun e => ?_), fun v hv k hk => ?_⟩
    · have := Kd.R_lt hR _ e.symm; omega
    · rw [hv] at hu'
      injection hu' with hu'
      injection hu' with hu'
      injection hu' with hu'
      injection hu' with _ hu'
      injection hu' with hu'
      subst hu'
      rcases eo with eo | ⟨b, eo, hb2⟩
      · rw [eo] at hk
        exact Nat.ne_of_lt (Kd.R_lt hR k hk)
      · rw [eo] at hk
        injection hk with hk
        have := blk_lt hcs
        omega⟩
  clear h LL hx
  have TA : ∀ w, (Instr.typeAssert (.iface 73 (.agg #[.int .i64 x.f0, .int .i64 x.f1, .int .i64 x.f2])) 20 73 true).run Try.prog w = .ok (.tuple #[.agg #[.int .i64 x.f0, .int .i64 x.f1, .int .i64 x.f2], .bool true]) w := fun w => by kernel_rfl
  go_enter Try.func26, Try.ntmps26
  go_wp2_with (first
    | (go_at_call 42; (with_reducible refine (G.out _ (below_alloc (Below.refl _ _) _)).mono ?_); rintro e w1 ⟨rfl, hb1⟩; have X1 := Aside0.mk (blk_below (blk_new W _) hb1); have HB1 := Aside0.mk ((below_alloc (Below.refl _ _) _).trans (hb1.mono (blk_le_alloc W _))); clear hb1)
    | (go_at_call 43; (with_reducible refine (L.out _ HB1.out).mono ?_); rintro e w2 ⟨rfl, hb2⟩; have X2 := Aside0.mk (blk_below X1.out hb2); have HB2 := Aside0.mk (HB1.out.trans (hb2.mono HB1.out.size)); clear hb2)
    | (go_at_call 44; (with_reducible refine (POP.out _ HB2.out).mono ?_); rintro e w3 ⟨rfl, hq3, hf3⟩; have KP := KEEP.out w2 w3 HB2.out _ X2.out hf3; have RW3 := Aside0.mk KP.2; have HQ3 := Aside0.mk hq3; have hb3 := KP.1; have y0 : w3.cell? ⟨W.heap.size, 0, none⟩ = some (.int .i64 0) := (blk_cell hb3 0).trans rfl; have y1 : w3.cell? ⟨W.heap.size, 1, none⟩ = some (.int .i64 0) := (blk_cell hb3 1).trans rfl; have y2 : w3.cell? ⟨W.heap.size, 2, none⟩ = some (.int .i64 0) := (blk_cell hb3 2).trans rfl; have z0 := blk_frozen hb3 0; have z1 := blk_frozen hb3 1; have z2 := blk_frozen hb3 2; have hlt3 := blk_lt hb3; have hne3 : W.heap.size ≠ w3.heap.size := Nat.ne_of_lt hlt3; have X3 := Aside0.mk hb3; have HF3 := Aside0.mk ((FrS.of_below HB2.out q base _).trans hf3); clear hb3 hq3 hf3 KP))
  obtain ⟨w4, hw4⟩ : ∃ w4, ((((w3.setCell ⟨W.heap.size, 0, none⟩ (.int .i64 x.f0)).setCell ⟨W.heap.size, 1, none⟩ (.int .i64 x.f1)).setCell ⟨W.heap.size, 2, none⟩ (.int .i64 x.f2)).alloc (.cells #[.int .i64 x.f0, .int .i64 x.f1, .int .i64 x.f2] 73)) = w4 := ⟨_, rfl⟩
  have hb4 : w4.heap[W.heap.size]? = some (.cells #[.int .i64 x.f0, .int .i64 x.f1, .int .i64 x.f2] 73 (0, 0)) := by rw [← hw4]; exact blk_alloc (blk_put (blk_put (blk_put X3.out 0 _ rfl) 1 _ rfl) 2 _ rfl) _
  have Q4 : IsQ w4 base q ys := by
    obtain ⟨⟨v, hb, hR⟩, hle, hn⟩ := HQ3.out
    have hk : ∀ k, v.ownBlock = some k → k ≠ W.heap.size := RW3.out v hb
    have hR := R_ok hR hk
    have hqn : q ≠ W.heap.size := Nat.ne_of_lt hlt
    rw [← hw4]
    exact ⟨⟨v, blk_alloc (blk_far (blk_far (blk_far hb hqn _) hqn _) hqn _) _, R_mono_any (Kd.R_alloc (Kd.R_far (Kd.R_far (Kd.R_far hR (fun _ h => h) _) (fun _ h => h) _) (fun _ h => h) _) _)⟩, hle, hn⟩
  have F4 : FrS q base [73, 108] W w4 := by
    refine ⟨?_, fun v hv => ?_⟩
    rotate_left
    · obtain ⟨h1, v', hv', o'⟩ := HF3.out.own v hv
      have hqn : q ≠ W.heap.size := Nat.ne_of_lt hlt
      rw [← hw4]
      refine ⟨fun k cs hk hne => ?_, v', blk_alloc (blk_far (blk_far (blk_far hv' hqn _) hqn _) hqn _) _, o'⟩
      have hkn : k ≠ W.heap.size := Nat.ne_of_lt (blk_lt hk)
      exact blk_alloc (blk_far (blk_far (blk_far (h1 k cs hk hne) hkn _) hkn _) hkn _) _
    rw [← hw4]
    refine ((Fr.setCell (Fr.setCell (Fr.setCell HF3.out.fr X3.out (by simp) ?_ _) (blk_put X3.out 0 _ rfl) (by simp) ?_ _) (blk_put (blk_put X3.out 0 _ rfl) 1 _ rfl) (by simp) ?_ _).alloc _) <;> exact hbs
  rw [hw4]
  have u0 : w4.cell? ⟨W.heap.size, 0, none⟩ = some (.int .i64 x.f0) := (blk_cell hb4 0).trans rfl
  have u1 : w4.cell? ⟨W.heap.size, 1, none⟩ = some (.int .i64 x.f1) := (blk_cell hb4 1).trans rfl
  have u2 : w4.cell? ⟨W.heap.size, 2, none⟩ = some (.int .i64 x.f2) := (blk_cell hb4 2).trans rfl
  refine bodyPost_ret (v := .tuple #[.agg #[.int .i64 x.f0, .int .i64 x.f1, .int .i64 x.f2], .int .i64 0]) ?_ rfl ?_
  · simp [results, Try.f26, Try.results26, go_sem, u0, u1, u2]
    try rfl
  · exact ⟨rfl, Q4, F4⟩
end Go.Proofs.Ytaeacdnefklakaa.L
