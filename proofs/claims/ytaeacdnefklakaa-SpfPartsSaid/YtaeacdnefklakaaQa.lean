/-
  The queue's items: what (*items).Less, Swap, Len and queue.Less do to the row of items.
  Conditions: as each contract states them.
-/
import Derived.Test.YtaeacdnefklakaaK
import Derived.Test.YtaeacdnefklakaaRt
import Derived.Test.YtaeacdnefklakaaFr
namespace Go.Proofs.Ytaeacdnefklakaa.L
open Go.RowKit Go.Proofs.YtaeacdnefklakaaW.PrintWords Go.Proofs.YtaeacdnefklakaaW.PrintLast Go.Proofs.YtaeacdnefklakaaW.PrintMore Go.Fr
set_option linter.unusedVariables false
set_option linter.unusedSimpArgs false

def lessI (a b : S73) : Bool := if a.f0 = b.f0 then (if a.f1 = b.f1 then decide (a.f2 < b.f2) else decide (a.f1 < b.f1)) else decide (a.f0 < b.f0)

set_option maxHeartbeats 400000 in
theorem less_c (a b : S73) (w : World) : Calls Try.prog 100 #[.agg #[.int .i64 a.f0, .int .i64 a.f1, .int .i64 a.f2], .agg #[.int .i64 b.f0, .int .i64 b.f1, .int .i64 b.f2]] w fun e w' => e = .returned (.bool (lessI a b)) ∧ Below w.heap.size w w' := by
  obtain ⟨r, hr⟩ : ∃ r, lessI a b = r := ⟨_, rfl⟩
  rw [hr]
  unfold lessI at hr
  by_cases h0 : a.f0 = b.f0
  · have h0'' : (a.f0 != b.f0) = false := by simpa using h0
    rw [if_pos h0] at hr
    by_cases h1 : a.f1 = b.f1
    · have h1'' : (a.f1 != b.f1) = false := by simpa using h1
      rw [if_pos h1] at hr
      clear h0 h1
      subst hr
      go_enter Try.func100, Try.ntmps100
      go_wp2
      go_ret
      exact ⟨rfl, below_alloc (below_alloc (Below.refl _ _) _) _⟩
    · have h1'' : (a.f1 != b.f1) = true := by simpa using h1
      rw [if_neg h1] at hr
      clear h0 h1
      subst hr
      go_enter Try.func100, Try.ntmps100
      go_wp2
      go_ret
      exact ⟨rfl, below_alloc (below_alloc (Below.refl _ _) _) _⟩
  · have h0'' : (a.f0 != b.f0) = true := by simpa using h0
    rw [if_neg h0] at hr
    clear h0
    subst hr
    go_enter Try.func100, Try.ntmps100
    go_wp2
    go_ret
    exact ⟨rfl, below_alloc (below_alloc (Below.refl _ _) _) _⟩

/-- A queue at block q, its items' row. -/
structure IsQ (W : World) (base q : Nat) (xs : List S73) : Prop where
  ex : ∃ v, W.heap[q]? = some (.cells #[.bool true, v] 108 (0, 0)) ∧ k73.R 73 W base Any v xs
  le : base ≤ q
  len : xs.length ≤ 1024

theorem IsQ.fr {W W' : World} {base q b : Nat} {xs : List S73} {T : List Nat} (h : IsQ W base q xs) (hf : Fr b T W W') (h1 : 73 ∉ T) (h2 : 108 ∉ T) : IsQ W' base q xs := by
  obtain ⟨⟨v, hb, hR⟩, hq, hn⟩ := h
  exact ⟨⟨v, hf.blk hb h2, R_fr hR hf (by intro x hx; simp [k73, Kd.iso, Kd.pair, Kd.int, Kd.scalar] at hx; subst hx; exact h1)⟩, hq, hn⟩
theorem IsQ.below {W W' : World} {base q : Nat} {xs : List S73} (h : IsQ W base q xs) (hf : Below W.heap.size W W') : IsQ W' base q xs := h.fr (Fr.of_below hf base []) (by simp) (by simp)
theorem IsQ.drew {W : World} {base q : Nat} {xs : List S73} (h : IsQ W base q xs) : IsQ W.drew base q xs := h.fr ((Fr.refl base [] W).drew) (by simp) (by simp)

/-- What an item's place holds. -/
theorem IsQ.at {W : World} {base q : Nat} {xs : List S73} (h : IsQ W base q xs) (i : Int) (hi : 0 ≤ i) (hi' : i < xs.length) : ∃ g c cur, W.heap[q]? = some (.cells #[.bool true, .slice (some ⟨g, 0, none⟩) xs.length c] 108 (0, 0)) ∧
    W.heap[g]? = some (.cells cur 73 (0, 0)) ∧ base ≤ g ∧ k73.R 73 W base Any (.slice (some ⟨g, 0, none⟩) xs.length c) xs ∧
    ∀ i : Int, 0 ≤ i → i < xs.length → W.cell? ⟨g, i.toNat * 3, none⟩ = some (.int .i64 (rd_T73 xs i).f0) ∧ W.cell? ⟨g, i.toNat * 3 + 1, none⟩ = some (.int .i64 (rd_T73 xs i).f1) ∧ W.cell? ⟨g, i.toNat * 3 + 2, none⟩ = some (.int .i64 (rd_T73 xs i).f2) := by
  obtain ⟨⟨v, hb, hR⟩, hq, hn⟩ := h
  obtain ⟨g, c, cur, rfl, hg, hh, hc, hs⟩ := R_plain hR (by omega)
  refine ⟨g, c, cur, hb, hh, hg, hR, fun i hi hi' => ?_⟩
  obtain ⟨A, c', he, _, hC⟩ := Kd.R_reads hR
  injection he with he1 he2 he3
  subst he1
  obtain ⟨ad, e, h0, h1, h2⟩ := at_T73 hC i hi hi'
  injection e with e
  subst e
  simp only [add_plain] at h0 h1 h2
  exact ⟨h0, h1, h2⟩

set_option maxHeartbeats 400000 in
theorem items_less (W : World) (base q : Nat) (xs : List S73) (h : IsQ W base q xs) (i j : Int) (hi : 0 ≤ i) (hi' : i < xs.length) (hj : 0 ≤ j) (hj' : j < xs.length) :
    Calls Try.prog 97 #[.pointer (some ⟨q, 1, none⟩), .int .i64 i, .int .i64 j] W fun e w' => e = .returned (.bool (lessI (rd_T73 xs i) (rd_T73 xs j))) ∧ Below W.heap.size W w' := by
  obtain ⟨g, c, cur, hb, hh, hg, hR, hat⟩ := h.at i hi hi'
  obtain ⟨x0, x1, x2⟩ := hat i hi hi'
  obtain ⟨y0, y1, y2⟩ := hat j hj hj'
  have hl : W.cell? ⟨q, 1, none⟩ = some (.slice (some ⟨g, 0, none⟩) xs.length c) := (blk_cell hb 1).trans rfl
  clear hb hR hat hh hg h
  generalize rd_T73 xs i = xi at *
  generalize rd_T73 xs j = xj at *
  go_enter Try.func97, Try.ntmps97
  go_wp2
  refine Rt.region (by kernel_rfl) (by kernel_rfl) ?_
  go_wp2_with (go_at_call 100; refine (less_c xi xj _).mono ?_; rintro e w' ⟨rfl, hb⟩)
  refine ⟨rfl, rfl, ?_⟩
  go_wp2
  go_ret
  exact ⟨rfl, below_drew (Below.refl _ _) |>.trans hb⟩

/-- Blocks of items other than the queue's row stand; the row is the same one, or a new one. -/
def OwnQ (q : Nat) (w W : World) : Prop := ∀ v : Value, w.heap[q]? = some (.cells #[.bool true, v] 108 (0, 0)) → (∀ (k : Nat) (cs : Array Value), w.heap[k]? = some (.cells cs 73 (0, 0)) → some k ≠ v.ownBlock → W.heap[k]? = some (.cells cs 73 (0, 0))) ∧
  ∃ v' : Value, W.heap[q]? = some (.cells #[.bool true, v'] 108 (0, 0)) ∧ (v'.ownBlock = v.ownBlock ∨ ∃ b, v'.ownBlock = some b ∧ w.heap.size ≤ b)
theorem OwnQ.trans {q : Nat} {w W W2 : World} (h : OwnQ q w W) (k : OwnQ q W W2) (hs : w.heap.size ≤ W.heap.size) : OwnQ q w W2 := fun v hv => by
  obtain ⟨h1, v1, hv1, o1⟩ := h v hv
  obtain ⟨h2, v2, hv2, o2⟩ := k v1 hv1
  refine ⟨fun k cs hk hne => h2 k cs (h1 k cs hk hne) ?_, v2, hv2, ?_⟩
  · rcases o1 with o1 | ⟨b, o1, hb⟩
    · rw [o1]; exact hne
    · rw [o1]; intro e; injection e with e; have := blk_lt hk; omega
  · rcases o2 with o2 | ⟨b, o2, hb⟩
    · rw [o2]; exact o1
    · exact Or.inr ⟨b, o2, by omega⟩
theorem OwnQ.of_fr {q b : Nat} {T : List Nat} {w W : World} (h : Fr b T w W) (h1 : 73 ∉ T) (h2 : 108 ∉ T) : OwnQ q w W := fun v hv => ⟨fun _ _ hk _ => h.blk hk h1, v, h.blk hv h2, Or.inl rfl⟩
theorem OwnQ.below {q : Nat} {w W : World} (h : Below w.heap.size w W) : OwnQ q w W := OwnQ.of_fr (Fr.of_below h 0 []) (by simp) (by simp)
theorem OwnQ.put {q g n c : Nat} {W w1 : World} {cs : Array Value} (hb : W.heap[q]? = some (.cells #[.bool true, .slice (some ⟨g, 0, none⟩) n c] 108 (0, 0))) (hh : W.heap[g]? = some (.cells cs 73 (0, 0))) (hg : W.grownBy w1 (some g)) : OwnQ q W w1 := fun v hv => by
  have hqg : q ≠ g := blk_ne hb hh (by decide)
  have e : v = .slice (some ⟨g, 0, none⟩) n c := by
    rw [hb] at hv; injection hv with hv; injection hv with hv; injection hv with hv; injection hv with _ hv; injection hv with hv; exact hv.symm
  subst e
  exact ⟨fun k cs hk hne => blk_grown hk hg hne, _, blk_grown hv hg (by simpa using hqg), Or.inl rfl⟩
theorem grown_drew (W : World) (r : Option Nat) : W.grownBy W.drew r := ⟨rfl, rfl, rfl, Nat.le_refl _, fun _ _ _ => rfl⟩
structure FrS (q base : Nat) (T : List Nat) (w W : World) : Prop where
  fr : Fr base T w W
  own : OwnQ q w W
theorem FrS.refl (q base : Nat) (T : List Nat) (w : World) : FrS q base T w w := ⟨Fr.refl _ _ _, OwnQ.below (Below.refl _ _)⟩
theorem FrS.trans {q base : Nat} {T : List Nat} {w W W2 : World} (h : FrS q base T w W) (k : FrS q base T W W2) : FrS q base T w W2 := ⟨h.fr.trans k.fr, h.own.trans k.own h.fr.size⟩
theorem FrS.of_below {w W : World} (h : Below w.heap.size w W) (q base : Nat) (T : List Nat) : FrS q base T w W := ⟨Fr.of_below h base T, OwnQ.below h⟩
theorem FrS.then_below {q base : Nat} {T : List Nat} {w W W2 : World} (h : FrS q base T w W) (k : Below W.heap.size W W2) : FrS q base T w W2 := h.trans (FrS.of_below k q base T)
theorem FrS.mono {q base base' : Nat} {T T' : List Nat} {w W : World} (h : FrS q base T w W) (hb : base' ≤ base) (hT : ∀ t, t ∈ T → t ∈ T') : FrS q base' T' w W := ⟨h.fr.mono hb hT, h.own⟩

def swpI (xs : List S73) (i j : Nat) : List S73 := (xs.set i (xs.getD j z73)).set j (xs.getD i z73)

set_option maxHeartbeats 400000 in
theorem items_swap (W : World) (base q : Nat) (xs : List S73) (h : IsQ W base q xs) (i j : Int) (hi : 0 ≤ i) (hi' : i < xs.length) (hj : 0 ≤ j) (hj' : j < xs.length) :
    Calls Try.prog 99 #[.pointer (some ⟨q, 1, none⟩), .int .i64 i, .int .i64 j] W fun e w' => e = .returned (.tuple #[]) ∧ IsQ w' base q (swpI xs i.toNat j.toNat) ∧ FrS q base [73] W w' := by
  have hle := h.le
  have hln := h.len
  obtain ⟨g, c, cur, hb, hh, hg, hR, hat⟩ := h.at i hi hi'
  obtain ⟨x0, x1, x2⟩ := hat i hi hi'
  obtain ⟨y0, y1, y2⟩ := hat j hj hj'
  have hl : W.cell? ⟨q, 1, none⟩ = some (.slice (some ⟨g, 0, none⟩) xs.length c) := (blk_cell hb 1).trans rfl
  have HB := Aside0.mk hb
  have HR := Aside0.mk hR
  have HAT := Aside0.mk hat
  have HH := Aside0.mk hh
  clear hb hR hat hh hg h
  obtain ⟨xi, hxi⟩ : ∃ x, rd_T73 xs i = x := ⟨_, rfl⟩
  obtain ⟨xj, hxj⟩ : ∃ x, rd_T73 xs j = x := ⟨_, rfl⟩
  rw [hxi] at x0 x1 x2
  rw [hxj] at y0 y1 y2
  go_enter Try.func99, Try.ntmps99
  go_wp2
  refine Rt.region (by kernel_rfl) (by kernel_rfl) ?_
  have HF := Aside0.mk ((Fr.refl base [73] W).drew)
  have HR' := Aside0.mk (Kd.R_drew HR.out)
  have hM : ∀ (g : Nat) (w : World) (x : S73), k73.M w base (fun k => k ≠ g) x (Value.agg #[.int .i64 x.f0, .int .i64 x.f1, .int .i64 x.f2]).cells.toList := fun g w x => k73_mkM w base _ x
  have HM := Aside0.mk hM
  clear hM
  go_wp2_with (first
    | ((with_reducible refine gate_ (.store 73 (.tmp 30) (.tmp 22)) rfl ?_); refine put_all k73 73 (.tmp 30) (.tmp 22) 73 i xs xj (.agg #[.int .i64 xj.f0, .int .i64 xj.f1, .int .i64 xj.f2]) rfl rfl rfl rfl rfl (by kernel_rfl) HR'.out hi hi' (HM.out _ _ _) HF.out (List.mem_singleton.2 rfl) ?_; intro w1 hR1 hF1 hg1; have H1 := Aside0.mk hR1; have G1 := Aside0.mk hg1; have F1 := Aside0.mk hF1; clear hR1 hF1 hg1)
    | ((with_reducible refine gate_ (.store 73 (.tmp 31) (.tmp 29)) rfl ?_); refine put_all k73 73 (.tmp 31) (.tmp 29) 73 j _ xi (.agg #[.int .i64 xi.f0, .int .i64 xi.f1, .int .i64 xi.f2]) rfl rfl rfl rfl rfl (by kernel_rfl) H1.out hj hj' (HM.out _ _ _) F1.out (List.mem_singleton.2 rfl) ?_; intro w2 hR2 hF2 hg2; have H2 := Aside0.mk hR2; have G2 := Aside0.mk hg2; have F2 := Aside0.mk hF2; clear hR2 hF2 hg2))
  refine ⟨rfl, rfl, ?_⟩
  go_wp2
  go_end0
  refine ⟨rfl, ⟨⟨.slice (some ⟨g, 0, none⟩) xs.length c, F2.out.blk HB.out (by decide), ?_⟩, hle, by simpa [swpI] using hln⟩, F2.out, OwnQ.put HB.out HH.out ((World.grownBy.trans (grown_drew W _) G1.out).trans G2.out)⟩
  have := H2.out
  rw [← hxi, ← hxj] at this
  exact this

set_option maxHeartbeats 400000 in
theorem items_len (W : World) (base q : Nat) (xs : List S73) (h : IsQ W base q xs) :
    Calls Try.prog 57 #[.pointer (some ⟨q, 1, none⟩)] W fun e w' => e = .returned (.int .i64 xs.length) ∧ Below W.heap.size W w' := by
  obtain ⟨⟨v, hb, hR⟩, hq, hn⟩ := h
  obtain ⟨A, c, rfl, hc, hC⟩ := Kd.R_reads hR
  have hl : W.cell? ⟨q, 1, none⟩ = some (.slice A xs.length c) := (blk_cell hb 1).trans rfl
  clear hb hR hC
  go_enter Try.func57, Try.ntmps57
  go_wp2
  go_ret
  exact ⟨rfl, Below.refl _ _⟩
end Go.Proofs.Ytaeacdnefklakaa.L
