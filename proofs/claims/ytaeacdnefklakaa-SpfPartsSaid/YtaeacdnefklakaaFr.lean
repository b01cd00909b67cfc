/-
  Frames told by the types of blocks: what a call may have written (blocks of types T, from base on), and how what is known of memory is carried over it.
  Conditions: as each lemma states them.
-/
import Derived.Test.YtaeacdnefklakaaWWords
import Derived.Test.YtaeacdnefklakaaWLast
import Derived.Test.YtaeacdnefklakaaWMore
import Derived.Test.YtaeacdnefklakaaWKept
namespace Go.Fr
set_option linter.unusedVariables false
set_option linter.unusedSimpArgs false
open Go.RowKit Go.Proofs.YtaeacdnefklakaaW.PrintWords Go.Proofs.YtaeacdnefklakaaW.PrintLast Go.Proofs.YtaeacdnefklakaaW.PrintMore

/-- From w to W: new blocks; and writes into blocks from base on, of element types T. -/
structure Fr (base : Nat) (T : List Nat) (w W : World) : Prop where
  os : W.os = w.os
  tape : W.tape = w.tape
  output : W.output = w.output
  size : w.heap.size ≤ W.heap.size
  low : ∀ k, k < base → k < w.heap.size → W.heap[k]? = w.heap[k]?
  typ : ∀ (k : Nat) (o : Obj), w.heap[k]? = some o → (∀ cs t fr, o = .cells cs t fr → t ∉ T) → (∀ es c, o = .map es c → 0 ∉ T) → W.heap[k]? = some o

section
variable {base base' : Nat} {T T' : List Nat} {w W W2 : World}
theorem Fr.refl (base : Nat) (T : List Nat) (w : World) : Fr base T w w := ⟨rfl, rfl, rfl, Nat.le_refl _, fun _ _ _ => rfl, fun _ _ h _ _ => h⟩
theorem Fr.trans (h : Fr base T w W) (k : Fr base T W W2) : Fr base T w W2 :=
  ⟨k.os.trans h.os, k.tape.trans h.tape, k.output.trans h.output, Nat.le_trans h.size k.size, fun i hi hl => (k.low i hi (Nat.lt_of_lt_of_le hl h.size)).trans (h.low i hi hl), fun i o ho hc hm => k.typ i o (h.typ i o ho hc hm) hc hm⟩
theorem Fr.mono (h : Fr base T w W) (hb : base' ≤ base) (hT : ∀ t, t ∈ T → t ∈ T') : Fr base' T' w W :=
  ⟨h.os, h.tape, h.output, h.size, fun i hi hl => h.low i (Nat.lt_of_lt_of_le hi hb) hl, fun i o ho hc hm => h.typ i o ho (fun cs t fr e ht => hc cs t fr e (hT t ht)) (fun es c e ht => hm es c e (hT 0 ht))⟩
theorem Fr.of_below (h : Below w.heap.size w W) (base : Nat) (T : List Nat) : Fr base T w W :=
  ⟨h.os, h.tape, h.output, h.size, fun i _ hl => h.block i hl, fun i o ho _ _ => (h.block i (Array.getElem?_eq_some_iff.1 ho).1).trans ho⟩
theorem Fr.then_below (h : Fr base T w W) (k : Below W.heap.size W W2) : Fr base T w W2 := h.trans (Fr.of_below k base T)
theorem Fr.alloc (h : Fr base T w W) (o : Obj) : Fr base T w (W.alloc o) := h.then_below ((Below.refl _ _).alloc (Nat.le_refl _) o)
theorem Fr.drew (h : Fr base T w W) : Fr base T w W.drew := ⟨h.os, h.tape, h.output, h.size, h.low, h.typ⟩
theorem Fr.drewN (h : Fr base T w W) (n : Nat) : Fr base T w (W.drewN n) := h.then_below (pw_below_drewN (Below.refl _ _) n)
/-- A store. -/
theorem Fr.setCell (h : Fr base T w W) {p : Addr} {cs : Array Value} {t : Nat} {fr : Nat × Nat} (hb : W.heap[p.block]? = some (.cells cs t fr)) (ht : t ∈ T) (hle : base ≤ p.block) (u : Value) : Fr base T w (W.setCell p u) := by
  refine h.trans ⟨rfl, rfl, rfl, by simp [World.setCell], fun i hi _ => Below.heap_setCell _ _ _ _ (by omega), fun i o ho hc _ => ?_⟩
  by_cases hi : i = p.block
  · subst hi
    rw [hb] at ho
    injection ho with ho
    exact absurd ht (hc _ _ _ ho.symm)
  · rw [Below.heap_setCell _ _ _ _ hi]; exact ho
/-- One row has been written or made anew. -/
theorem Fr.grown (h : Fr base T w W) {row : Option Nat} (hg : W.grownBy W2 row) (hr : ∀ k, row = some k → base ≤ k ∧ ∃ cs t fr, W.heap[k]? = some (.cells cs t fr) ∧ t ∈ T) : Fr base T w W2 := by
  refine h.trans ⟨hg.os, hg.tape, hg.output, hg.size, fun i hi hl => hg.block i hl (fun e => by have := (hr i e.symm).1; omega), fun i o ho hc _ => ?_⟩
  rw [hg.block i (Array.getElem?_eq_some_iff.1 ho).1 (fun e => ?_)]
  · exact ho
  · obtain ⟨_, cs, t, fr, hb, ht⟩ := hr i e.symm
    rw [hb] at ho
    injection ho with ho
    exact hc _ _ _ ho.symm ht
theorem Fr.below (h : Fr base T w W) (hb : base ≤ w.heap.size) : Below base w W := ⟨h.os, h.tape, h.output, h.size, fun k hk => h.low k hk (Nat.lt_of_lt_of_le hk hb)⟩
theorem Fr.blk (h : Fr base T w W) {k : Nat} {cs : Array Value} {t : Nat} {fr : Nat × Nat} (hk : w.heap[k]? = some (.cells cs t fr)) (ht : t ∉ T) : W.heap[k]? = some (.cells cs t fr) :=
  h.typ k _ hk (fun _ _ _ e => by cases e; exact ht) (fun _ _ e => by cases e)
theorem Fr.map (h : Fr base T w W) {k : Nat} {es : Array MapEntry} {c : Nat} (hk : w.heap[k]? = some (.map es c)) (ht : 0 ∉ T) : W.heap[k]? = some (.map es c) :=
  h.typ k _ hk (fun _ _ _ e => by cases e) (fun _ _ e => by cases e; exact ht)
/-- A store into a map. -/
theorem Fr.setMap (h : Fr base T w W) {b : Nat} {es : Array MapEntry} {c : Nat} (hb : W.heap[b]? = some (.map es c)) (ht : 0 ∈ T) (hle : base ≤ b) (hg : W2.os = W.os ∧ W2.tape = W.tape ∧ W2.output = W.output ∧ W.heap.size ≤ W2.heap.size ∧ ∀ k, k < W.heap.size → k ≠ b → W2.heap[k]? = W.heap[k]?) : Fr base T w W2 := by
  refine h.trans ⟨hg.1, hg.2.1, hg.2.2.1, hg.2.2.2.1, fun i hi hl => hg.2.2.2.2 i hl (by omega), fun i o ho _ hm => ?_⟩
  rw [hg.2.2.2.2 i (Array.getElem?_eq_some_iff.1 ho).1 (fun e => ?_)]
  · exact ho
  · subst e
    rw [hb] at ho
    injection ho with ho
    exact hm _ _ ho.symm ht
section
variable {α : Type} {d : Kd α} {e b : Nat} {ok : Nat → Prop} {v : Value} {xs : List α}
/-- Rows of other types are as they were. -/
theorem R_fr (h : d.R e w b ok v xs) (hf : Fr base T w W) (ht : ∀ q, q ∈ e :: d.E → q ∉ T) : d.R e W b ok v xs :=
  Kd.R_mono (Kd.R_move (Kd.R_bound h) (fun k hk => by
    obtain ⟨_, _, _, q, hq, cells, hc⟩ := hk
    rw [hc]
    exact hf.blk hc (ht q hq))) (fun _ hk => hk.1)
/-- The row's block. -/
theorem R_block (h : d.R e w b ok v xs) : ∀ k, v.ownBlock = some k → b ≤ k ∧ ∃ cs fr, w.heap[k]? = some (.cells cs e fr) := fun k hk => by
  obtain ⟨inner, ho⟩ := Kd.R_own h
  obtain ⟨cells, hc⟩ := own_typed ho k hk
  exact ⟨own_base ho k hk, cells, _, hc⟩
/-- Behind an append or a store into a row: the frame. -/
theorem Fr.row (h : Fr base T w W) (hR : d.R e W base ok v xs) (hg : W.grownBy W2 v.ownBlock) (ht : e ∈ T) : Fr base T w W2 :=
  h.grown hg (fun k hk => by obtain ⟨hb, cs, fr, hc⟩ := R_block hR k hk; exact ⟨hb, cs, e, fr, hc, ht⟩)
/-- Where a row that is owned lies: at the beginning of its block, none of it frozen. -/
theorem R_plain (h : d.R e w b ok v xs) (hn : 0 < xs.length) : ∃ g c cur, v = .slice (some ⟨g, 0, none⟩) xs.length c ∧ b ≤ g ∧ w.heap[g]? = some (.cells cur e (0, 0)) ∧ xs.length ≤ c ∧ cur.size = c * d.sz := by
  obtain ⟨inner, ho⟩ := Kd.R_own h
  rcases ho.2 with ⟨_, h0⟩ | ⟨g, cap, cur, hv, hg, hh, hc, _, hs, _⟩
  · omega
  · exact ⟨g, cap, cur, hv, hg, hh, hc, hs⟩
end
end

/-! ### arms of a walk: stores into rows of one's own, an append -/
def Any : Nat → Prop := fun _ => True
section
variable {P : Program} {ops : Array Oper} {rest : List Oper} {o : Oper} {a : Act} {Q : Exit → Act → World → Prop} {α : Type}
/-- out[i] = x'. -/
theorem put_all (d : Kd α) {base : Nat} {T : List Nat} {W0 W : World} (t : TypeId) (p x : Operand) (e : TypeId) {g n cap : Nat} (i : Int) (xs : List α) (x' : α) (u : Value) (hN : o.dst = none) (hgd : o.guard = none) (ho : o.op = .store t p x)
    (haddr : a.eval p = .pointer (some ⟨g, i.toNat * d.sz, none⟩)) (hx : a.eval x = u) (ht : (P.info? t).map (·.size) = some d.sz)
    (HO : d.R e W base Any (.slice (some ⟨g, 0, none⟩) n cap) xs) (h0 : 0 ≤ i) (hi : i < n) (hM : d.M W base (fun k => k ≠ g) x' u.cells.toList) (HF : Fr base T W0 W) (hT : e ∈ T)
    (h : ∀ w1, d.R e w1 base Any (.slice (some ⟨g, 0, none⟩) n cap) (xs.set i.toNat x') → Fr base T W0 w1 → W.grownBy w1 (some g) → wpList P ops Q rest a w1) : wpList P ops Q (o :: rest) a W := by
  obtain ⟨c, hcl, _, hcc⟩ := Kd.R_get HO x' i h0 hi
  have hlen := d.K_len (d.K_of_M hM)
  refine Kd.R_store d (w0 := W) base hN hgd t p x ho e i 0 xs x' u u.cells.toList c Any (fun k => k ≠ g) haddr rfl hx rfl (by rw [hlen]; exact ht) (d.K_one (d.K_of_M hM)) HO h0 hi hcl
    (fun j q hq => by have := hcc j q hq; rw [add_plain] at this; exact this) (by rw [hlen]; omega) ?_ (fun _ hk => ⟨trivial, hk⟩) (Below.refl _ _) ?_
  · rw [List.take_zero, List.nil_append, Nat.zero_add, hlen, List.drop_of_length_le (by omega), List.append_nil]; exact hM
  · intro w1 hR _ hg
    exact h w1 hR (HF.trans (Fr.row (Fr.refl _ _ _) HO hg hT)) hg
/-- out[i].f = u: the cells from j on. -/
theorem put_part (d : Kd α) {base : Nat} {T : List Nat} {W0 W : World} (t : TypeId) (p x : Operand) (e : TypeId) {g n cap o' : Nat} (i : Int) (j : Nat) (xs : List α) (x' : α) (u : Value) (c : List Value) (hN : o.dst = none) (hgd : o.guard = none) (ho : o.op = .store t p x)
    (haddr : a.eval p = .pointer (some ⟨g, o', none⟩)) (hoff : o' = i.toNat * d.sz + j) (hx : a.eval x = u) (hu : u.oneCell' = true) (ht : (P.info? t).map (·.size) = some 1)
    (HO : d.R e W base Any (.slice (some ⟨g, 0, none⟩) n cap) xs) (h0 : 0 ≤ i) (hi : i < n) (hcl : c.length = d.sz) (hcc : ∀ j u, c[j]? = some u → W.cell? ⟨g, i.toNat * d.sz + j, none⟩ = some u) (hj : j + 1 ≤ d.sz)
    (hM : d.M W base (fun k => k ≠ g) x' (c.set j u)) (HF : Fr base T W0 W) (hT : e ∈ T)
    (h : ∀ w1, d.R e w1 base Any (.slice (some ⟨g, 0, none⟩) n cap) (xs.set i.toNat x') → Fr base T W0 w1 → W.grownBy w1 (some g) → wpList P ops Q rest a w1) : wpList P ops Q (o :: rest) a W := by
  have huc : u.cells.toList = [u] := by cases u <;> first | rfl | (simp [Value.oneCell'] at hu)
  refine Kd.R_store d (w0 := W) base hN hgd t p x ho e i j xs x' u [u] c Any (fun k => k ≠ g) haddr hoff hx huc ht (fun q hq => by rw [List.mem_singleton.1 hq]; exact hu) HO h0 hi hcl hcc hj ?_ (fun _ hk => ⟨trivial, hk⟩) (Below.refl _ _) ?_
  · have : c.take j ++ [u] ++ c.drop (j + [u].length) = c.set j u := by
      rw [List.set_eq_take_append_cons_drop, if_pos (by omega)]
      simp
    rw [this]; exact hM
  · intro w1 hR _ hg
    exact h w1 hR (HF.trans (Fr.row (Fr.refl _ _ _) HO hg hT)) hg
/-- append(v, x): behind 'at_builtin'; the goal's world is W with the box of x. -/
theorem app1 (d : Kd α) {base : Nat} {T : List Nat} {W0 W : World} (s x : Operand) (t e : TypeId) (z : Value) (bytes : Nat) (v : Value) (xs : List α) (p : α) (cs : List Value) (hgd : o.guard = none)
    (ho : o.op = .call { callee := .builtin .append, args := #[s, x], argTypes := #[t, t] })
    (ht : P.underlying t = some (.slice e)) (hinfo : (P.info? e).map (fun i => (i.zero, i.size, i.bytes)) = some (some z, d.sz, bytes)) (hz : z.cells.size = d.sz) (hs0 : 0 < d.sz) (hb0 : 0 < bytes)
    (hs : a.eval s = v) (hx : a.eval x = .slice (some ⟨W.heap.size, 0, none⟩) 1 1) (hp : d.M W base (fun k => some k ≠ v.ownBlock) p cs)
    (HO : d.R e W base Any v xs) (hbase : base ≤ W.heap.size) (hl : (xs.length + 1) * bytes ≤ 140737488355328) (HF : Fr base T W0 W) (hT : e ∈ T)
    (h : ∀ v1 w1, d.R e w1 base Any v1 (xs ++ [p]) → Fr base T W0 w1 → W.grownBy w1 v.ownBlock → (v1.ownBlock = v.ownBlock ∨ ∃ b, v1.ownBlock = some b ∧ W.heap.size ≤ b) → wpList P ops Q rest (a.put o.dst v1) w1) :
    wpList P ops Q (o :: rest) a (W.alloc (.cells cs.toArray e)) :=
  Kd.R_append d (w0 := W) base hgd s x t e z bytes ho ht hinfo hz hs0 hb0 v xs p cs Any _ hs hx hp (fun _ hk => ⟨trivial, hk⟩) (fun _ _ => trivial) HO (Below.refl _ _) hbase hl
    (fun v1 w1 hR _ hg hat => h v1 w1 hR (HF.trans (Fr.row (Fr.refl _ _ _) HO hg hT)) hg hat)
end
/-- Elements whose rows are of other types than the row's own. -/
theorem M_ne {α : Type} {d : Kd α} {w : World} {base : Nat} {ok : Nat → Prop} {x : α} {cs : List Value} {g t : Nat} {cells : Array Value} (h : d.M w base ok x cs) (hb : w.heap[g]? = some (.cells cells t (0, 0))) (ht : ∀ q, q ∈ d.E → q ≠ t) : d.M w base (fun k => k ≠ g) x cs :=
  d.M_mono (fun _ hk => hk.2) (Kd.M_types h hb ht)
end Go.Fr
