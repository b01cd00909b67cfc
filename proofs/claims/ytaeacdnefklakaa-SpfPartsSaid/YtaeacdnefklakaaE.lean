/-
  The engine of the walks: what is known of the slots (E), and of memory (l), ahead of each operation and behind it; rows, numbers, calls, code.
  Conditions: as each lemma states them.
-/
import Derived.Test.YtaeacdnefklakaaEa
import Derived.KernelRfl
import Derived.Maps.AppendAt
import Derived.Laws.MakeOwn
namespace Go.Se
open Go.RowKit
set_option linter.unusedVariables false
set_option linter.unusedSimpArgs false


/-- What is known of the slots. -/
structure Env (N : Nat) (a : Act) (E : List (Nat × Value)) : Prop where
  size : a.tmps.size = N
  defers : a.defers = []
  get : ∀ p ∈ E, a.tmps[p.1]? = some p.2
/-- The value of an operand; of a slot: what stands there. -/
class Ev (N : Nat) (E : List (Nat × Value)) (x : Operand) (v : outParam Value) : Prop where
  out : ∀ a, Env N a E → a.eval x = v
  slot : ∀ a, Env N a E → ∀ t, x = .tmp t → a.tmps[t]? = some v
theorem Ev.get {N : Nat} {E : List (Nat × Value)} {t : Nat} {v : Value} (h : Ev N E (.tmp t) v) (a : Act) (ha : Env N a E) : a.tmps[t]? = some v := h.slot a ha t rfl
def fresh (d N : Nat) : List (Nat × Value) → Bool
  | [] => Nat.blt d N
  | p :: E => match Nat.beq p.1 d with
    | true => false
    | false => fresh d N E
/-- E' is a part of E. -/
inductive Pk : List (Nat × Value) → List (Nat × Value) → Prop
  | n {E} : Pk E []
  | t {p E E'} : Pk E E' → Pk (p :: E) (p :: E')
  | s {p E E'} : Pk E E' → Pk (p :: E) E'

section
variable {N : Nat} {a : Act} {E E' : List (Nat × Value)} {d t : Nat} {v : Value}
theorem fresh_lt : ∀ {E : List (Nat × Value)}, fresh d N E = true → d < N ∧ ∀ p ∈ E, p.1 ≠ d
  | [], h => ⟨Nat.le_of_ble_eq_true h, by simp⟩
  | p :: E, h => by
    unfold fresh at h
    split at h
    · cases h
    · rename_i hb
      obtain ⟨h1, h2⟩ := fresh_lt h
      refine ⟨h1, fun q hq => ?_⟩
      rcases List.mem_cons.1 hq with rfl | hq
      · exact Nat.ne_of_beq_eq_false hb
      · exact h2 q hq
theorem Env.put (h : Env N a E) (hf : fresh d N E = true) (v : Value) : Env N (a.put (some d) v) ((d, v) :: E) := by
  obtain ⟨h1, h2⟩ := fresh_lt hf
  refine ⟨by simp [Act.put, h.size], h.defers, fun p hp => ?_⟩
  rcases List.mem_cons.1 hp with rfl | hp
  · simp [Act.put, h.size, h1]
  · have := h2 p hp
    simp only [Act.put]
    rw [Array.getElem?_setIfInBounds_ne (by omega)]
    exact h.get p hp
theorem Env.put_none (h : Env N a E) (v : Value) : Env N (a.put none v) E := h
theorem Pk.mem (k : Pk E E') : ∀ p ∈ E', p ∈ E := by
  induction k with
  | n => simp
  | t _ ih =>
    intro p hp
    rcases List.mem_cons.1 hp with rfl | hp
    · exact List.mem_cons_self
    · exact List.mem_cons_of_mem _ (ih p hp)
  | s _ ih => exact fun p hp => List.mem_cons_of_mem _ (ih p hp)
theorem Env.pick (h : Env N a E) (k : Pk E E') : Env N a E' := ⟨h.size, h.defers, fun p hp => h.get p (k.mem p hp)⟩
theorem pk_all : ∀ E : List (Nat × Value), Pk E E
  | [] => .n
  | p :: E => .t (pk_all E)
instance (priority := 2000) Ev.z : Ev N ((t, v) :: E) (.tmp t) v := ⟨fun a ha => by
  have := ha.get _ List.mem_cons_self
  simp only at this
  simp [Act.eval, Array.getD_eq_getD_getElem?, this], fun a ha u hu => by injection hu with hu; subst hu; exact ha.get _ List.mem_cons_self⟩
instance (priority := 3000) Ev.c : Ev N E (.const v) v := ⟨fun _ _ => rfl, fun _ _ _ h => by cases h⟩
instance (priority := 3000) Ev.g {g : Nat} : Ev N E (.global g) (.pointer (some ⟨g, 0, none⟩)) := ⟨fun _ _ => rfl, fun _ _ _ h => by cases h⟩
instance (priority := 3000) Ev.f {f : FuncId} : Ev N E (.func f) (.func (.func f) #[] #[]) := ⟨fun _ _ => rfl, fun _ _ _ h => by cases h⟩
instance (priority := 1000) Ev.s {p : Nat × Value} {t : Nat} [h : Ev N E (.tmp t) v] : Ev N (p :: E) (.tmp t) v := ⟨fun a ha => h.out a (ha.pick (.s (pk_all E))), fun a ha u hu => h.slot a (ha.pick (.s (pk_all E))) u hu⟩
end
class Evs (N : Nat) (E : List (Nat × Value)) (xs : List Operand) (vs : outParam (List Value)) : Prop where
  out : ∀ a, Env N a E → xs.map a.eval = vs
instance Evs.n {N E} : Evs N E [] [] := ⟨fun _ _ => rfl⟩
instance Evs.c {N E} {x : Operand} {v : Value} {xs : List Operand} {vs : List Value} [hx : Ev N E x v] [h : Evs N E xs vs] : Evs N E (x :: xs) (v :: vs) := ⟨fun a ha => by rw [List.map_cons, hx.out a ha, h.out a ha]⟩
/-- The operations that are left, from here. -/
def Sx (P : Program) (W0 : World) (N : Nat) (ops : Array Oper) (rest : List Oper) (E : List (Nat × Value)) (l : List HP) (Q : Exit → Act → World → Prop) : Prop :=
  ∀ a W, Env N a E → Sat W0 l W → wpList P ops Q rest a W
def Cx (P : Program) (W0 : World) (N : Nat) (c : Code) (E : List (Nat × Value)) (l : List HP) (Q : Exit → Act → World → Prop) : Prop :=
  ∀ a W, Env N a E → Sat W0 l W → c.wp P Q a W
def Kx (W0 : World) (N : Nat) (e : Exit) (E : List (Nat × Value)) (l : List HP) (Q : Exit → Act → World → Prop) : Prop :=
  ∀ a W, Env N a E → Sat W0 l W → Q e a W

section
variable {P : Program} {W0 : World} {N : Nat} {ops : Array Oper} {rest : List Oper} {E E' : List (Nat × Value)} {l l' : List HP} {Q : Exit → Act → World → Prop}
theorem Sx.pick (k : Pk E E') (h : Sx P W0 N ops rest E' l Q) : Sx P W0 N ops rest E l Q := fun a W ha hl => h a W (ha.pick k) hl
theorem Cx.pick {c : Code} (k : Pk E E') (h : Cx P W0 N c E' l Q) : Cx P W0 N c E l Q := fun a W ha hl => h a W (ha.pick k) hl
theorem Kx.pick {e : Exit} (k : Pk E E') (h : Kx W0 N e E' l Q) : Kx W0 N e E l Q := fun a W ha hl => h a W (ha.pick k) hl
theorem Sx.conv (k : ∀ W, Sat W0 l W → Sat W0 l' W) (h : Sx P W0 N ops rest E l' Q) : Sx P W0 N ops rest E l Q := fun a W ha hl => h a W ha (k W hl)
theorem Cx.conv {c : Code} (k : ∀ W, Sat W0 l W → Sat W0 l' W) (h : Cx P W0 N c E l' Q) : Cx P W0 N c E l Q := fun a W ha hl => h a W ha (k W hl)
theorem Kx.conv {e : Exit} (k : ∀ W, Sat W0 l W → Sat W0 l' W) (h : Kx W0 N e E l' Q) : Kx W0 N e E l Q := fun a W ha hl => h a W ha (k W hl)
theorem Sx.open_ {α : Sort _} {φ : α → Prop} {l' : α → List HP} (k : ∀ W, Sat W0 l W → ∃ x, φ x ∧ Sat W0 (l' x) W) (h : ∀ x, φ x → Sx P W0 N ops rest E (l' x) Q) : Sx P W0 N ops rest E l Q := fun a W ha hl => let ⟨x, hx, hs⟩ := k W hl; h x hx a W ha hs
theorem Cx.open_ {c : Code} {α : Sort _} {φ : α → Prop} {l' : α → List HP} (k : ∀ W, Sat W0 l W → ∃ x, φ x ∧ Sat W0 (l' x) W) (h : ∀ x, φ x → Cx P W0 N c E (l' x) Q) : Cx P W0 N c E l Q := fun a W ha hl => let ⟨x, hx, hs⟩ := k W hl; h x hx a W ha hs
theorem Kx.open_ {e : Exit} {α : Sort _} {φ : α → Prop} {l' : α → List HP} (k : ∀ W, Sat W0 l W → ∃ x, φ x ∧ Sat W0 (l' x) W) (h : ∀ x, φ x → Kx W0 N e E (l' x) Q) : Kx W0 N e E l Q := fun a W ha hl => let ⟨x, hx, hs⟩ := k W hl; h x hx a W ha hs
theorem Sx.nil (h : Kx W0 N .normal E l Q) : Sx P W0 N ops [] E l Q := fun a W ha hl => h a W ha hl

variable {o : Oper} {d : Nat} {op : Op} {ty : TypeId} {pos : String} {aft : Array Edge}
theorem wpl_value {a : Act} {W W' : World} {v : Value} (hg : o.guard = none) (hr : (execOp a.eval o).run P W = .ok (.value v) W') (h : wpList P ops Q rest (a.put o.dst v) W') : wpList P ops Q (o :: rest) a W :=
  wpList_plain hg fun K hK => by
    unfold Oper.wp
    rw [hr]
    exact hK _ _ h
theorem wpl_skip {a : Act} {W W' : World} (hg : o.guard = none) (hr : (execOp a.eval o).run P W = .ok .skip W') (h : wpList P ops Q rest (a.put o.dst undef) W') : wpList P ops Q (o :: rest) a W :=
  wpList_plain hg fun K hK => by
    unfold Oper.wp
    rw [hr]
    exact hK _ _ h
/-- An operation that yields a value. -/
theorem Sx.val {v : Value} (hf : fresh d N E = true) (hr : ∀ a W, Env N a E → Sat W0 l W → ∃ W', (execOp a.eval ⟨some d, op, ty, pos, aft, none⟩).run P W = .ok (.value v) W' ∧ Sat W0 l' W')
    (h : Sx P W0 N ops rest ((d, v) :: E) l' Q) : Sx P W0 N ops (⟨some d, op, ty, pos, aft, none⟩ :: rest) E l Q := fun a W ha hl =>
  let ⟨W', h1, h2⟩ := hr a W ha hl
  wpl_value rfl h1 (h _ _ (ha.put hf v) h2)
/-- The same, where memory is as it was. -/
theorem Sx.val0 {v : Value} (hf : fresh d N E = true) (hr : ∀ a W, Env N a E → Sat W0 l W → (execOp a.eval ⟨some d, op, ty, pos, aft, none⟩).run P W = .ok (.value v) W)
    (h : Sx P W0 N ops rest ((d, v) :: E) l Q) : Sx P W0 N ops (⟨some d, op, ty, pos, aft, none⟩ :: rest) E l Q := Sx.val hf (fun a W ha hl => ⟨W, hr a W ha hl, hl⟩) h
/-- An operation that only acts. -/
theorem Sx.act (hr : ∀ a W, Env N a E → Sat W0 l W → ∃ W', (execOp a.eval ⟨none, op, ty, pos, aft, none⟩).run P W = .ok .skip W' ∧ Sat W0 l' W')
    (h : Sx P W0 N ops rest E l' Q) : Sx P W0 N ops (⟨none, op, ty, pos, aft, none⟩ :: rest) E l Q := fun a W ha hl =>
  let ⟨W', h1, h2⟩ := hr a W ha hl
  wpl_skip rfl h1 (h _ _ (ha.put_none _) h2)

/-- An operation that yields a value, and leaves memory as it was. -/
class OpV (P : Program) (N : Nat) (E : List (Nat × Value)) (l : List HP) (op : Op) (v : outParam Value) : Prop where
  out : ∀ {W0 : World} (a : Act) (W : World) (dst : Option Tmp) (ty : TypeId) (pos : String) (aft : Array Edge), Env N a E → Sat W0 l W → (execOp a.eval ⟨dst, op, ty, pos, aft, none⟩).run P W = .ok (.value v) W
theorem Sx.v {v : Value} [hv : OpV P N E l op v] (hf : fresh d N E = true := by kernel_rfl) (h : Sx P W0 N ops rest ((d, v) :: E) l Q) : Sx P W0 N ops (⟨some d, op, ty, pos, aft, none⟩ :: rest) E l Q :=
  Sx.val0 hf (fun a W ha hl => hv.out a W _ _ _ _ ha hl) h

/-! ### guards -/
/-- Operation j writes slot t. -/
class GD (os : List Oper) (j : Nat) (t : outParam Nat) : Prop where
  out : (os[j]?).bind (·.dst) = some t
instance GD.z {t op ty pos aft gd os} : GD (⟨some t, op, ty, pos, aft, gd⟩ :: os) 0 t := ⟨rfl⟩
instance GD.s {o : Oper} {os : List Oper} {j t : Nat} [h : GD os j t] : GD (o :: os) (j + 1) t := ⟨by simpa using h.out⟩
theorem yields {os : List Oper} {a : Act} {j t : Nat} {b : Bool} (hj : GD os j t) (hb : Ev N E (.tmp t) (.bool b)) (ha : Env N a E) : yielded os.toArray a.tmps j = some b := by
  have h := hb.out a ha
  have hj := hj.out
  simp only [Act.eval] at h
  unfold yielded
  rw [List.getElem?_toArray, hj]
  simp only [Option.bind_some]
  rw [Array.getD_eq_getD_getElem?] at h
  cases e : a.tmps[t]? with
  | none => rw [e] at h; cases h
  | some u => rw [e] at h; simp only [Option.getD_some] at h; subst h; rfl
variable {os : List Oper}
theorem Sx.gyes {j t : Nat} {want : Bool} {dst : Option Nat} [hj : GD os j t] [hb : Ev N E (.tmp t) (.bool want)] (h : Sx P W0 N os.toArray (⟨dst, op, ty, pos, aft, none⟩ :: rest) E l Q) : Sx P W0 N os.toArray (⟨dst, op, ty, pos, aft, some (j, want)⟩ :: rest) E l Q := fun a W ha hl => by
  have hw : Region.wanted ⟨dst, op, ty, pos, aft, some (j, want)⟩ (yielded os.toArray a.tmps) = true := by
    simp only [Region.wanted, yields hj hb ha]; cases want <;> rfl
  have h' := h a W ha hl
  unfold wpList at h' ⊢
  rw [if_pos hw]
  rw [if_pos (show Region.wanted ⟨dst, op, ty, pos, aft, none⟩ (yielded os.toArray a.tmps) = true from rfl)] at h'
  exact h'
theorem Sx.gno {j t : Nat} {want b : Bool} [hj : GD os j t] [hb : Ev N E (.tmp t) (.bool b)] (hne : b = !want := by rfl) (hf : fresh d N E = true := by kernel_rfl) (h : Sx P W0 N os.toArray rest ((d, undef) :: E) l Q) : Sx P W0 N os.toArray (⟨some d, op, ty, pos, aft, some (j, want)⟩ :: rest) E l Q := fun a W ha hl => by
  have hw : Region.wanted ⟨some d, op, ty, pos, aft, some (j, want)⟩ (yielded os.toArray a.tmps) = false := by
    simp only [Region.wanted, yields hj hb ha, hne]; cases want <;> rfl
  unfold wpList
  rw [if_neg (by rw [hw]; simp)]
  exact h _ _ (ha.put hf _) hl
theorem Sx.gno0 {j t : Nat} {want b : Bool} [hj : GD os j t] [hb : Ev N E (.tmp t) (.bool b)] (hne : b = !want := by rfl) (h : Sx P W0 N os.toArray rest E l Q) : Sx P W0 N os.toArray (⟨none, op, ty, pos, aft, some (j, want)⟩ :: rest) E l Q := fun a W ha hl => by
  have hw : Region.wanted ⟨none, op, ty, pos, aft, some (j, want)⟩ (yielded os.toArray a.tmps) = false := by
    simp only [Region.wanted, yields hj hb ha, hne]; cases want <;> rfl
  unfold wpList
  rw [if_neg (by rw [hw]; simp)]
  exact h _ _ (ha.put_none _) hl

/-! ### operations that touch no memory -/
instance OpV.move {x : Operand} {v : Value} [hx : Ev N E x v] : OpV P N E l (.move x) (v) := ⟨fun {W0} a W dst ty pos aft ha _ => by simp [execOp, hx.out a ha]⟩
instance OpV.assign {x : Operand} {v : Value} [hx : Ev N E x v] : OpV P N E l (.assign x) (v) := ⟨fun {W0} a W dst ty pos aft ha _ => by simp [execOp, hx.out a ha]⟩
instance OpV.pick_t {c x y : Operand} {v : Value} [hc : Ev N E c (.bool true)] [hx : Ev N E x v] : OpV P N E l (.pick c x y) (v) := ⟨fun {W0} a W dst ty pos aft ha _ => by simp [execOp, hx.out a ha, hc.out a ha, asBool]⟩
instance OpV.pick_f {c x y : Operand} {v : Value} [hc : Ev N E c (.bool false)] [hy : Ev N E y v] : OpV P N E l (.pick c x y) (v) := ⟨fun {W0} a W dst ty pos aft ha _ => by simp [execOp, hy.out a ha, hc.out a ha, asBool]⟩
instance OpV.nilCheck {x : Operand} {p : Addr} [hx : Ev N E x (.pointer (some p))] : OpV P N E l (.nilCheck x) (.pointer (some p)) := ⟨fun {W0} a W dst ty pos aft ha _ => by simp [execOp, hx.out a ha]⟩
class Nth (cs : List Value) (j : Nat) (v : outParam Value) : Prop where
  out : cs[j]? = some v
instance Nth.z {v : Value} {cs : List Value} : Nth (v :: cs) 0 v := ⟨rfl⟩
instance Nth.s {u v : Value} {cs : List Value} {j : Nat} [h : Nth cs j v] : Nth (u :: cs) (j + 1) v := ⟨by simpa using h.out⟩
instance OpV.extract {x : Operand} {vs : List Value} {i : Nat} {v : Value} [hx : Ev N E x (.tuple vs.toArray)] [hv : Nth vs i v] : OpV P N E l (.extract x i) (v) := ⟨fun {W0} a W dst ty pos aft ha _ => by simp [execOp, hx.out a ha, Instr.extract, hv.out]⟩
def concB (P : Program) (t : TypeId) : Bool := match P.underlying t with | some (.interface _) => false | some _ => true | none => false
theorem Sx.makeInterface {x : Operand} {t : TypeId} {v : Value} [hx : Ev N E x v] (ht : concB P t = true := by kernel_rfl) (hf : fresh d N E = true := by kernel_rfl) (h : Sx P W0 N ops rest ((d, .iface t v) :: E) l Q) : Sx P W0 N ops (⟨some d, .makeInterface t x, ty, pos, aft, none⟩ :: rest) E l Q :=
  Sx.val0 hf (fun a W ha _ => by
    unfold concB at ht
    simp only [execOp, hx.out a ha, Instr.makeInterface, underlying]
    cases e : P.underlying t with
    | none => rw [e] at ht; cases ht
    | some u =>
      rw [e] at ht
      cases u <;> simp_all) h
instance OpV.makeFunc {fn : Fn} {xs ys : List Operand} {vs us : List Value} [hx : Evs N E xs vs] [hy : Evs N E ys us] : OpV P N E l (.makeFunc fn xs.toArray ys.toArray) (.func fn vs.toArray us.toArray) := ⟨fun {W0} a W dst ty pos aft ha _ => by simp [execOp, hx.out a ha, hy.out a ha, Instr.makeFunc]⟩
/-- Sums of small numbers. -/
class Plus (a b : Nat) (c : outParam Nat) : Prop where
  out : a + b = c
instance (priority := 3000) {b : Nat} : Plus 0 b b := ⟨Nat.zero_add b⟩
instance (priority := 2900) {a : Nat} : Plus a 0 a := ⟨rfl⟩
instance : Plus 1 1 2 := ⟨rfl⟩
instance : Plus 1 2 3 := ⟨rfl⟩
instance : Plus 1 3 4 := ⟨rfl⟩
instance : Plus 1 4 5 := ⟨rfl⟩
instance : Plus 1 5 6 := ⟨rfl⟩
instance : Plus 1 6 7 := ⟨rfl⟩
instance : Plus 1 7 8 := ⟨rfl⟩
instance : Plus 1 8 9 := ⟨rfl⟩
instance : Plus 1 9 10 := ⟨rfl⟩
instance : Plus 1 10 11 := ⟨rfl⟩
instance : Plus 1 11 12 := ⟨rfl⟩
instance : Plus 1 12 13 := ⟨rfl⟩
instance : Plus 1 13 14 := ⟨rfl⟩
instance : Plus 1 14 15 := ⟨rfl⟩
instance : Plus 1 15 16 := ⟨rfl⟩
instance : Plus 1 16 17 := ⟨rfl⟩
instance : Plus 1 17 18 := ⟨rfl⟩
instance : Plus 1 18 19 := ⟨rfl⟩
instance : Plus 1 19 20 := ⟨rfl⟩
instance : Plus 1 20 21 := ⟨rfl⟩
instance : Plus 1 21 22 := ⟨rfl⟩
instance : Plus 1 22 23 := ⟨rfl⟩
instance : Plus 1 23 24 := ⟨rfl⟩
instance : Plus 2 1 3 := ⟨rfl⟩
instance : Plus 2 2 4 := ⟨rfl⟩
instance : Plus 2 3 5 := ⟨rfl⟩
instance : Plus 2 4 6 := ⟨rfl⟩
instance : Plus 2 5 7 := ⟨rfl⟩
instance : Plus 2 6 8 := ⟨rfl⟩
instance : Plus 2 7 9 := ⟨rfl⟩
instance : Plus 2 8 10 := ⟨rfl⟩
instance : Plus 2 9 11 := ⟨rfl⟩
instance : Plus 2 10 12 := ⟨rfl⟩
instance : Plus 2 11 13 := ⟨rfl⟩
instance : Plus 2 12 14 := ⟨rfl⟩
instance : Plus 2 13 15 := ⟨rfl⟩
instance : Plus 2 14 16 := ⟨rfl⟩
instance : Plus 2 15 17 := ⟨rfl⟩
instance : Plus 2 16 18 := ⟨rfl⟩
instance : Plus 2 17 19 := ⟨rfl⟩
instance : Plus 2 18 20 := ⟨rfl⟩
instance : Plus 2 19 21 := ⟨rfl⟩
instance : Plus 2 20 22 := ⟨rfl⟩
instance : Plus 2 21 23 := ⟨rfl⟩
instance : Plus 2 22 24 := ⟨rfl⟩
instance : Plus 2 23 25 := ⟨rfl⟩
instance : Plus 3 1 4 := ⟨rfl⟩
instance : Plus 3 2 5 := ⟨rfl⟩
instance : Plus 3 3 6 := ⟨rfl⟩
instance : Plus 3 4 7 := ⟨rfl⟩
instance : Plus 3 5 8 := ⟨rfl⟩
instance : Plus 3 6 9 := ⟨rfl⟩
instance : Plus 3 7 10 := ⟨rfl⟩
instance : Plus 3 8 11 := ⟨rfl⟩
instance : Plus 3 9 12 := ⟨rfl⟩
instance : Plus 3 10 13 := ⟨rfl⟩
instance : Plus 3 11 14 := ⟨rfl⟩
instance : Plus 3 12 15 := ⟨rfl⟩
instance : Plus 3 13 16 := ⟨rfl⟩
instance : Plus 3 14 17 := ⟨rfl⟩
instance : Plus 3 15 18 := ⟨rfl⟩
instance : Plus 3 16 19 := ⟨rfl⟩
instance : Plus 3 17 20 := ⟨rfl⟩
instance : Plus 3 18 21 := ⟨rfl⟩
instance : Plus 3 19 22 := ⟨rfl⟩
instance : Plus 3 20 23 := ⟨rfl⟩
instance : Plus 3 21 24 := ⟨rfl⟩
instance : Plus 3 22 25 := ⟨rfl⟩
instance : Plus 3 23 26 := ⟨rfl⟩
instance : Plus 4 1 5 := ⟨rfl⟩
instance : Plus 4 2 6 := ⟨rfl⟩
instance : Plus 4 3 7 := ⟨rfl⟩
instance : Plus 4 4 8 := ⟨rfl⟩
instance : Plus 4 5 9 := ⟨rfl⟩
instance : Plus 4 6 10 := ⟨rfl⟩
instance : Plus 4 7 11 := ⟨rfl⟩
instance : Plus 4 8 12 := ⟨rfl⟩
instance : Plus 4 9 13 := ⟨rfl⟩
instance : Plus 4 10 14 := ⟨rfl⟩
instance : Plus 4 11 15 := ⟨rfl⟩
instance : Plus 4 12 16 := ⟨rfl⟩
instance : Plus 4 13 17 := ⟨rfl⟩
instance : Plus 4 14 18 := ⟨rfl⟩
instance : Plus 4 15 19 := ⟨rfl⟩
instance : Plus 4 16 20 := ⟨rfl⟩
instance : Plus 4 17 21 := ⟨rfl⟩
instance : Plus 4 18 22 := ⟨rfl⟩
instance : Plus 4 19 23 := ⟨rfl⟩
instance : Plus 4 20 24 := ⟨rfl⟩
instance : Plus 4 21 25 := ⟨rfl⟩
instance : Plus 4 22 26 := ⟨rfl⟩
instance : Plus 4 23 27 := ⟨rfl⟩
instance : Plus 5 1 6 := ⟨rfl⟩
instance : Plus 5 2 7 := ⟨rfl⟩
instance : Plus 5 3 8 := ⟨rfl⟩
instance : Plus 5 4 9 := ⟨rfl⟩
instance : Plus 5 5 10 := ⟨rfl⟩
instance : Plus 5 6 11 := ⟨rfl⟩
instance : Plus 5 7 12 := ⟨rfl⟩
instance : Plus 5 8 13 := ⟨rfl⟩
instance : Plus 5 9 14 := ⟨rfl⟩
instance : Plus 5 10 15 := ⟨rfl⟩
instance : Plus 5 11 16 := ⟨rfl⟩
instance : Plus 5 12 17 := ⟨rfl⟩
instance : Plus 5 13 18 := ⟨rfl⟩
instance : Plus 5 14 19 := ⟨rfl⟩
instance : Plus 5 15 20 := ⟨rfl⟩
instance : Plus 5 16 21 := ⟨rfl⟩
instance : Plus 5 17 22 := ⟨rfl⟩
instance : Plus 5 18 23 := ⟨rfl⟩
instance : Plus 5 19 24 := ⟨rfl⟩
instance : Plus 5 20 25 := ⟨rfl⟩
instance : Plus 5 21 26 := ⟨rfl⟩
instance : Plus 5 22 27 := ⟨rfl⟩
instance : Plus 5 23 28 := ⟨rfl⟩
instance : Plus 6 1 7 := ⟨rfl⟩
instance : Plus 6 2 8 := ⟨rfl⟩
instance : Plus 6 3 9 := ⟨rfl⟩
instance : Plus 6 4 10 := ⟨rfl⟩
instance : Plus 6 5 11 := ⟨rfl⟩
instance : Plus 6 6 12 := ⟨rfl⟩
instance : Plus 6 7 13 := ⟨rfl⟩
instance : Plus 6 8 14 := ⟨rfl⟩
instance : Plus 6 9 15 := ⟨rfl⟩
instance : Plus 6 10 16 := ⟨rfl⟩
instance : Plus 6 11 17 := ⟨rfl⟩
instance : Plus 6 12 18 := ⟨rfl⟩
instance : Plus 6 13 19 := ⟨rfl⟩
instance : Plus 6 14 20 := ⟨rfl⟩
instance : Plus 6 15 21 := ⟨rfl⟩
instance : Plus 6 16 22 := ⟨rfl⟩
instance : Plus 6 17 23 := ⟨rfl⟩
instance : Plus 6 18 24 := ⟨rfl⟩
instance : Plus 6 19 25 := ⟨rfl⟩
instance : Plus 6 20 26 := ⟨rfl⟩
instance : Plus 6 21 27 := ⟨rfl⟩
instance : Plus 6 22 28 := ⟨rfl⟩
instance : Plus 6 23 29 := ⟨rfl⟩
instance : Plus 7 1 8 := ⟨rfl⟩
instance : Plus 7 2 9 := ⟨rfl⟩
instance : Plus 7 3 10 := ⟨rfl⟩
instance : Plus 7 4 11 := ⟨rfl⟩
instance : Plus 7 5 12 := ⟨rfl⟩
instance : Plus 7 6 13 := ⟨rfl⟩
instance : Plus 7 7 14 := ⟨rfl⟩
instance : Plus 7 8 15 := ⟨rfl⟩
instance : Plus 7 9 16 := ⟨rfl⟩
instance : Plus 7 10 17 := ⟨rfl⟩
instance : Plus 7 11 18 := ⟨rfl⟩
instance : Plus 7 12 19 := ⟨rfl⟩
instance : Plus 7 13 20 := ⟨rfl⟩
instance : Plus 7 14 21 := ⟨rfl⟩
instance : Plus 7 15 22 := ⟨rfl⟩
instance : Plus 7 16 23 := ⟨rfl⟩
instance : Plus 7 17 24 := ⟨rfl⟩
instance : Plus 7 18 25 := ⟨rfl⟩
instance : Plus 7 19 26 := ⟨rfl⟩
instance : Plus 7 20 27 := ⟨rfl⟩
instance : Plus 7 21 28 := ⟨rfl⟩
instance : Plus 7 22 29 := ⟨rfl⟩
instance : Plus 7 23 30 := ⟨rfl⟩
instance : Plus 8 1 9 := ⟨rfl⟩
instance : Plus 8 2 10 := ⟨rfl⟩
instance : Plus 8 3 11 := ⟨rfl⟩
instance : Plus 8 4 12 := ⟨rfl⟩
instance : Plus 8 5 13 := ⟨rfl⟩
instance : Plus 8 6 14 := ⟨rfl⟩
instance : Plus 8 7 15 := ⟨rfl⟩
instance : Plus 8 8 16 := ⟨rfl⟩
instance : Plus 8 9 17 := ⟨rfl⟩
instance : Plus 8 10 18 := ⟨rfl⟩
instance : Plus 8 11 19 := ⟨rfl⟩
instance : Plus 8 12 20 := ⟨rfl⟩
instance : Plus 8 13 21 := ⟨rfl⟩
instance : Plus 8 14 22 := ⟨rfl⟩
instance : Plus 8 15 23 := ⟨rfl⟩
instance : Plus 8 16 24 := ⟨rfl⟩
instance : Plus 8 17 25 := ⟨rfl⟩
instance : Plus 8 18 26 := ⟨rfl⟩
instance : Plus 8 19 27 := ⟨rfl⟩
instance : Plus 8 20 28 := ⟨rfl⟩
instance : Plus 8 21 29 := ⟨rfl⟩
instance : Plus 8 22 30 := ⟨rfl⟩
instance : Plus 9 1 10 := ⟨rfl⟩
instance : Plus 9 2 11 := ⟨rfl⟩
instance : Plus 9 3 12 := ⟨rfl⟩
instance : Plus 9 4 13 := ⟨rfl⟩
instance : Plus 9 5 14 := ⟨rfl⟩
instance : Plus 9 6 15 := ⟨rfl⟩
instance : Plus 9 7 16 := ⟨rfl⟩
instance : Plus 9 8 17 := ⟨rfl⟩
instance : Plus 9 9 18 := ⟨rfl⟩
instance : Plus 9 10 19 := ⟨rfl⟩
instance : Plus 9 11 20 := ⟨rfl⟩
instance : Plus 9 12 21 := ⟨rfl⟩
instance : Plus 9 13 22 := ⟨rfl⟩
instance : Plus 9 14 23 := ⟨rfl⟩
instance : Plus 9 15 24 := ⟨rfl⟩
instance : Plus 9 16 25 := ⟨rfl⟩
instance : Plus 9 17 26 := ⟨rfl⟩
instance : Plus 9 18 27 := ⟨rfl⟩
instance : Plus 9 19 28 := ⟨rfl⟩
instance : Plus 9 20 29 := ⟨rfl⟩
instance : Plus 9 21 30 := ⟨rfl⟩
instance : Plus 10 1 11 := ⟨rfl⟩
instance : Plus 10 2 12 := ⟨rfl⟩
instance : Plus 10 3 13 := ⟨rfl⟩
instance : Plus 10 4 14 := ⟨rfl⟩
instance : Plus 10 5 15 := ⟨rfl⟩
instance : Plus 10 6 16 := ⟨rfl⟩
instance : Plus 10 7 17 := ⟨rfl⟩
instance : Plus 10 8 18 := ⟨rfl⟩
instance : Plus 10 9 19 := ⟨rfl⟩
instance : Plus 10 10 20 := ⟨rfl⟩
instance : Plus 10 11 21 := ⟨rfl⟩
instance : Plus 10 12 22 := ⟨rfl⟩
instance : Plus 10 13 23 := ⟨rfl⟩
instance : Plus 10 14 24 := ⟨rfl⟩
instance : Plus 10 15 25 := ⟨rfl⟩
instance : Plus 10 16 26 := ⟨rfl⟩
instance : Plus 10 17 27 := ⟨rfl⟩
instance : Plus 10 18 28 := ⟨rfl⟩
instance : Plus 10 19 29 := ⟨rfl⟩
instance : Plus 10 20 30 := ⟨rfl⟩
instance : Plus 11 1 12 := ⟨rfl⟩
instance : Plus 11 2 13 := ⟨rfl⟩
instance : Plus 11 3 14 := ⟨rfl⟩
instance : Plus 11 4 15 := ⟨rfl⟩
instance : Plus 11 5 16 := ⟨rfl⟩
instance : Plus 11 6 17 := ⟨rfl⟩
instance : Plus 11 7 18 := ⟨rfl⟩
instance : Plus 11 8 19 := ⟨rfl⟩
instance : Plus 11 9 20 := ⟨rfl⟩
instance : Plus 11 10 21 := ⟨rfl⟩
instance : Plus 11 11 22 := ⟨rfl⟩
instance : Plus 11 12 23 := ⟨rfl⟩
instance : Plus 11 13 24 := ⟨rfl⟩
instance : Plus 11 14 25 := ⟨rfl⟩
instance : Plus 11 15 26 := ⟨rfl⟩
instance : Plus 11 16 27 := ⟨rfl⟩
instance : Plus 11 17 28 := ⟨rfl⟩
instance : Plus 11 18 29 := ⟨rfl⟩
instance : Plus 11 19 30 := ⟨rfl⟩
instance : Plus 12 1 13 := ⟨rfl⟩
instance : Plus 12 2 14 := ⟨rfl⟩
instance : Plus 12 3 15 := ⟨rfl⟩
instance : Plus 12 4 16 := ⟨rfl⟩
instance : Plus 12 5 17 := ⟨rfl⟩
instance : Plus 12 6 18 := ⟨rfl⟩
instance : Plus 12 7 19 := ⟨rfl⟩
instance : Plus 12 8 20 := ⟨rfl⟩
instance : Plus 12 9 21 := ⟨rfl⟩
instance : Plus 12 10 22 := ⟨rfl⟩
instance : Plus 12 11 23 := ⟨rfl⟩
instance : Plus 12 12 24 := ⟨rfl⟩
instance : Plus 12 13 25 := ⟨rfl⟩
instance : Plus 12 14 26 := ⟨rfl⟩
instance : Plus 12 15 27 := ⟨rfl⟩
instance : Plus 12 16 28 := ⟨rfl⟩
instance : Plus 12 17 29 := ⟨rfl⟩
instance : Plus 12 18 30 := ⟨rfl⟩
instance : Plus 13 1 14 := ⟨rfl⟩
instance : Plus 13 2 15 := ⟨rfl⟩
instance : Plus 13 3 16 := ⟨rfl⟩
instance : Plus 13 4 17 := ⟨rfl⟩
instance : Plus 13 5 18 := ⟨rfl⟩
instance : Plus 13 6 19 := ⟨rfl⟩
instance : Plus 13 7 20 := ⟨rfl⟩
instance : Plus 13 8 21 := ⟨rfl⟩
instance : Plus 13 9 22 := ⟨rfl⟩
instance : Plus 13 10 23 := ⟨rfl⟩
instance : Plus 13 11 24 := ⟨rfl⟩
instance : Plus 13 12 25 := ⟨rfl⟩
instance : Plus 13 13 26 := ⟨rfl⟩
instance : Plus 13 14 27 := ⟨rfl⟩
instance : Plus 13 15 28 := ⟨rfl⟩
instance : Plus 13 16 29 := ⟨rfl⟩
instance : Plus 13 17 30 := ⟨rfl⟩
instance : Plus 14 1 15 := ⟨rfl⟩
instance : Plus 14 2 16 := ⟨rfl⟩
instance : Plus 14 3 17 := ⟨rfl⟩
instance : Plus 14 4 18 := ⟨rfl⟩
instance : Plus 14 5 19 := ⟨rfl⟩
instance : Plus 14 6 20 := ⟨rfl⟩
instance : Plus 14 7 21 := ⟨rfl⟩
instance : Plus 14 8 22 := ⟨rfl⟩
instance : Plus 14 9 23 := ⟨rfl⟩
instance : Plus 14 10 24 := ⟨rfl⟩
instance : Plus 14 11 25 := ⟨rfl⟩
instance : Plus 14 12 26 := ⟨rfl⟩
instance : Plus 14 13 27 := ⟨rfl⟩
instance : Plus 14 14 28 := ⟨rfl⟩
instance : Plus 14 15 29 := ⟨rfl⟩
instance : Plus 14 16 30 := ⟨rfl⟩
instance : Plus 15 1 16 := ⟨rfl⟩
instance : Plus 15 2 17 := ⟨rfl⟩
instance : Plus 15 3 18 := ⟨rfl⟩
instance : Plus 15 4 19 := ⟨rfl⟩
instance : Plus 15 5 20 := ⟨rfl⟩
instance : Plus 15 6 21 := ⟨rfl⟩
instance : Plus 15 7 22 := ⟨rfl⟩
instance : Plus 15 8 23 := ⟨rfl⟩
instance : Plus 15 9 24 := ⟨rfl⟩
instance : Plus 15 10 25 := ⟨rfl⟩
instance : Plus 15 11 26 := ⟨rfl⟩
instance : Plus 15 12 27 := ⟨rfl⟩
instance : Plus 15 13 28 := ⟨rfl⟩
instance : Plus 15 14 29 := ⟨rfl⟩
instance : Plus 15 15 30 := ⟨rfl⟩
instance : Plus 16 1 17 := ⟨rfl⟩
instance : Plus 16 2 18 := ⟨rfl⟩
instance : Plus 16 3 19 := ⟨rfl⟩
instance : Plus 16 4 20 := ⟨rfl⟩
instance : Plus 16 5 21 := ⟨rfl⟩
instance : Plus 16 6 22 := ⟨rfl⟩
instance : Plus 16 7 23 := ⟨rfl⟩
instance : Plus 16 8 24 := ⟨rfl⟩
instance : Plus 16 9 25 := ⟨rfl⟩
instance : Plus 16 10 26 := ⟨rfl⟩
instance : Plus 16 11 27 := ⟨rfl⟩
instance : Plus 16 12 28 := ⟨rfl⟩
instance : Plus 16 13 29 := ⟨rfl⟩
instance : Plus 16 14 30 := ⟨rfl⟩
instance : Plus 17 1 18 := ⟨rfl⟩
instance : Plus 17 2 19 := ⟨rfl⟩
instance : Plus 17 3 20 := ⟨rfl⟩
instance : Plus 17 4 21 := ⟨rfl⟩
instance : Plus 17 5 22 := ⟨rfl⟩
instance : Plus 17 6 23 := ⟨rfl⟩
instance : Plus 17 7 24 := ⟨rfl⟩
instance : Plus 17 8 25 := ⟨rfl⟩
instance : Plus 17 9 26 := ⟨rfl⟩
instance : Plus 17 10 27 := ⟨rfl⟩
instance : Plus 17 11 28 := ⟨rfl⟩
instance : Plus 17 12 29 := ⟨rfl⟩
instance : Plus 17 13 30 := ⟨rfl⟩
instance : Plus 18 1 19 := ⟨rfl⟩
instance : Plus 18 2 20 := ⟨rfl⟩
instance : Plus 18 3 21 := ⟨rfl⟩
instance : Plus 18 4 22 := ⟨rfl⟩
instance : Plus 18 5 23 := ⟨rfl⟩
instance : Plus 18 6 24 := ⟨rfl⟩
instance : Plus 18 7 25 := ⟨rfl⟩
instance : Plus 18 8 26 := ⟨rfl⟩
instance : Plus 18 9 27 := ⟨rfl⟩
instance : Plus 18 10 28 := ⟨rfl⟩
instance : Plus 18 11 29 := ⟨rfl⟩
instance : Plus 18 12 30 := ⟨rfl⟩
instance : Plus 19 1 20 := ⟨rfl⟩
instance : Plus 19 2 21 := ⟨rfl⟩
instance : Plus 19 3 22 := ⟨rfl⟩
instance : Plus 19 4 23 := ⟨rfl⟩
instance : Plus 19 5 24 := ⟨rfl⟩
instance : Plus 19 6 25 := ⟨rfl⟩
instance : Plus 19 7 26 := ⟨rfl⟩
instance : Plus 19 8 27 := ⟨rfl⟩
instance : Plus 19 9 28 := ⟨rfl⟩
instance : Plus 19 10 29 := ⟨rfl⟩
instance : Plus 19 11 30 := ⟨rfl⟩
instance : Plus 20 1 21 := ⟨rfl⟩
instance : Plus 20 2 22 := ⟨rfl⟩
instance : Plus 20 3 23 := ⟨rfl⟩
instance : Plus 20 4 24 := ⟨rfl⟩
instance : Plus 20 5 25 := ⟨rfl⟩
instance : Plus 20 6 26 := ⟨rfl⟩
instance : Plus 20 7 27 := ⟨rfl⟩
instance : Plus 20 8 28 := ⟨rfl⟩
instance : Plus 20 9 29 := ⟨rfl⟩
instance : Plus 20 10 30 := ⟨rfl⟩
instance : Plus 21 1 22 := ⟨rfl⟩
instance : Plus 21 2 23 := ⟨rfl⟩
instance : Plus 21 3 24 := ⟨rfl⟩
instance : Plus 21 4 25 := ⟨rfl⟩
instance : Plus 21 5 26 := ⟨rfl⟩
instance : Plus 21 6 27 := ⟨rfl⟩
instance : Plus 21 7 28 := ⟨rfl⟩
instance : Plus 21 8 29 := ⟨rfl⟩
instance : Plus 21 9 30 := ⟨rfl⟩
instance : Plus 22 1 23 := ⟨rfl⟩
instance : Plus 22 2 24 := ⟨rfl⟩
instance : Plus 22 3 25 := ⟨rfl⟩
instance : Plus 22 4 26 := ⟨rfl⟩
instance : Plus 22 5 27 := ⟨rfl⟩
instance : Plus 22 6 28 := ⟨rfl⟩
instance : Plus 22 7 29 := ⟨rfl⟩
instance : Plus 22 8 30 := ⟨rfl⟩
instance : Plus 23 1 24 := ⟨rfl⟩
instance : Plus 23 2 25 := ⟨rfl⟩
instance : Plus 23 3 26 := ⟨rfl⟩
instance : Plus 23 4 27 := ⟨rfl⟩
instance : Plus 23 5 28 := ⟨rfl⟩
instance : Plus 23 6 29 := ⟨rfl⟩
instance : Plus 23 7 30 := ⟨rfl⟩
/-- The place of a field. -/
def fieldOff (P : Program) (s : TypeId) (f : Nat) : Option Nat := match P.underlying s with
  | some (.struct fs) => (fs[f]?).bind fun x => match P.info? x.type with
    | some i => if i.size = 0 then none else some x.offset
    | none => none
  | _ => none
class FO (P : Program) (s : TypeId) (f : Nat) (off : outParam Nat) : Prop where
  out : fieldOff P s f = some off
instance OpV.fieldAddr {s : TypeId} {x : Operand} {f off k j j2 : Nat} [hfo : FO P s f off] [hx : Ev N E x (.pointer (some ⟨k, j, none⟩))] [hj : Plus j off j2] : OpV P N E l (.fieldAddr s x f) (.pointer (some ⟨k, j2, none⟩)) := ⟨fun {W0} a W dst ty pos aft ha _ => by
    have ho := hfo.out
    have hj := hj.out
    subst hj
    unfold fieldOff at ho
    cases hu : P.underlying s with
    | none => rw [hu] at ho; cases ho
    | some u =>
      rw [hu] at ho
      cases u <;> try (cases ho; done)
      rename_i fs
      simp only at ho
      cases hfx : fs[f]? with
      | none => rw [hfx] at ho; cases ho
      | some fd =>
        rw [hfx] at ho
        simp only [Option.bind_some] at ho
        cases hi : P.info? fd.type with
        | none => rw [hi] at ho; cases ho
        | some i =>
          rw [hi] at ho
          simp only at ho
          split at ho
          · cases ho
          · rename_i hne
            injection ho with ho
            subst ho
            simp [execOp, hx.out a ha, Instr.fieldAt, underlying, hu, hfx, Instr.sureAddr, fieldPlace, Go.sizeOf, typeInfo, hi, hne, Addr.add]⟩
/-- E without what is told of slot d. -/
class Rm (E : List (Nat × Value)) (d : Nat) (E' : outParam (List (Nat × Value))) : Prop where
  out : Pk E E'
instance Rm.n {d : Nat} : Rm [] d [] := ⟨.n⟩
instance (priority := 2000) Rm.t {d : Nat} {v : Value} {E E' : List (Nat × Value)} [h : Rm E d E'] : Rm ((d, v) :: E) d E' := ⟨.s h.out⟩
instance (priority := 500) Rm.s {d : Nat} {p : Nat × Value} {E E' : List (Nat × Value)} [h : Rm E d E'] : Rm (p :: E) d (p :: E') := ⟨.t h.out⟩
theorem Env.put' {a : Act} {d : Nat} (h : Env N a E) (hr : Pk E E') (hf : fresh d N E' = true) (v : Value) : Env N (a.put (some d) v) ((d, v) :: E') := (h.pick hr).put hf v
/-- A slot that is written more than once. -/
class RSlot (d : Nat) : Prop where
  out : True
theorem Sx.moveR [hrs : RSlot d] {x : Operand} {v : Value} [hx : Ev N E x v] [hr : Rm E d E'] (hf : fresh d N E' = true := by kernel_rfl) (h : Sx P W0 N ops rest ((d, v) :: E') l Q) : Sx P W0 N ops (⟨some d, .move x, ty, pos, aft, none⟩ :: rest) E l Q := fun a W ha hl =>
  wpl_value (v := v) (W' := W) rfl (by simp [execOp, hx.out a ha]) (h _ _ (ha.put' hr.out hf v) hl)
theorem Sx.assignR [hrs : RSlot d] {x : Operand} {v : Value} [hx : Ev N E x v] [hr : Rm E d E'] (hf : fresh d N E' = true := by kernel_rfl) (h : Sx P W0 N ops rest ((d, v) :: E') l Q) : Sx P W0 N ops (⟨some d, .assign x, ty, pos, aft, none⟩ :: rest) E l Q := fun a W ha hl =>
  wpl_value (v := v) (W' := W) rfl (by simp [execOp, hx.out a ha]) (h _ _ (ha.put' hr.out hf v) hl)
end


/-- Block k is owned: its cells are cs. -/
def cel (k : Nat) (cs : List Value) (e : Nat) : HP := pt k (.cells cs.toArray e (0, 0))
/-- The same of a block that nobody writes. -/
def celi (k : Nat) (cs : List Value) (e : Nat) : HP := imm k (.cells cs.toArray e (0, 0))
instance {k cs e} : Pers (celi k cs e) := inferInstanceAs (Pers (imm _ _))
theorem Sat.cel_freeze {W0 W : World} {k : Nat} {cs : List Value} {e : Nat} {r : List HP} (h : Sat W0 (cel k cs e :: r) W) : Sat W0 (celi k cs e :: r) W := Sat.freeze h
class FCel (l : List HP) (k : Nat) (cs : outParam (List Value)) (e : outParam Nat) : Prop where
  out : ∀ W0 W, Sat W0 l W → W.heap[k]? = some (.cells cs.toArray e (0, 0))
instance FCel.z {k cs e l} : FCel (cel k cs e :: l) k cs e := ⟨fun _ _ h => h.mem⟩
instance FCel.zi {k cs e l} : FCel (celi k cs e :: l) k cs e := ⟨fun _ _ h => h.imm_mem⟩
instance (priority := 500) FCel.s {A k cs e l} [h : FCel l k cs e] : FCel (A :: l) k cs e := ⟨fun W0 W hs => h.out W0 W hs.drop⟩
/-- In l block k's cells are told; l' tells that they are cs. -/
class UCel (l : List HP) (k : Nat) (cs : List Value) (l' : outParam (List HP)) : Prop where
  out : ∃ A B r, Foc l A r ∧ Foc l' B r ∧ ∃ us e, A = cel k us e ∧ B = cel k cs e
instance UCel.z {k us cs e l} : UCel (cel k us e :: l) k cs (cel k cs e :: l) := ⟨_, _, _, .z, .z, us, e, rfl, rfl⟩
instance (priority := 500) UCel.s {A k cs l l'} [h : UCel l k cs l'] : UCel (A :: l) k cs (A :: l') := ⟨by
  obtain ⟨B, C, r, f, g, x⟩ := h.out
  exact ⟨B, C, _, .s f, .s g, x⟩⟩

/-- The cells of a value. -/
class Cells (v : Value) (us : outParam (List Value)) : Prop where
  out : v.cells.toList = us
  one : ∀ u ∈ us, u.oneCell' = true
class One (v : Value) : Prop where
  out : v.oneCell' = true
instance {k n} : One (.int k n) := ⟨rfl⟩
instance {b} : One (.bool b) := ⟨rfl⟩
instance {s} : One (.string s) := ⟨rfl⟩
instance {p} : One (.pointer p) := ⟨rfl⟩
instance {a n c} : One (.slice a n c) := ⟨rfl⟩
instance {r} : One (.map r) := ⟨rfl⟩
instance {f a b} : One (.func f a b) := ⟨rfl⟩
instance {t v} : One (.iface t v) := ⟨rfl⟩
instance : One .nilIface := ⟨rfl⟩
instance : One .nilFunc := ⟨rfl⟩
class Ones (us : List Value) : Prop where
  out : ∀ u ∈ us, u.oneCell' = true
instance : Ones [] := ⟨by simp⟩
instance {u us} [h : One u] [g : Ones us] : Ones (u :: us) := ⟨fun x hx => by rcases List.mem_cons.1 hx with rfl | hx; exact h.out; exact g.out _ hx⟩
instance (priority := 2000) Cells.agg {us : List Value} [h : Ones us] : Cells (.agg us.toArray) us := ⟨by simp [Value.cells], h.out⟩
instance (priority := 500) Cells.one_ {v : Value} [h : One v] : Cells v [v] := ⟨by
  have := h.out
  cases v <;> first | rfl | (simp [Value.oneCell'] at this), by simpa using h.out⟩
/-- cs with us from place j on is cs'. -/
class PutN (cs : List Value) (j : Nat) (us : List Value) (cs' : outParam (List Value)) : Prop where
  out : cs' = cs.take j ++ us ++ cs.drop (j + us.length) ∧ j + us.length ≤ cs.length
instance PutN.n {cs : List Value} : PutN cs 0 [] cs := ⟨by simp⟩
instance PutN.c {c u : Value} {cs us cs' : List Value} [h : PutN cs 0 us cs'] : PutN (c :: cs) 0 (u :: us) (u :: cs') := ⟨by
  obtain ⟨h1, h2⟩ := h.out
  subst h1
  simp at h2 ⊢
  exact h2⟩
instance PutN.s {c : Value} {cs us cs' : List Value} {j : Nat} [h : PutN cs j us cs'] : PutN (c :: cs) (j + 1) us (c :: cs') := ⟨by
  obtain ⟨h1, h2⟩ := h.out
  subst h1
  refine ⟨by simp [Nat.add_right_comm j 1], by simp; omega⟩⟩
/-- n cells of cs from place j on are us. -/
class Seg (cs : List Value) (j n : Nat) (us : outParam (List Value)) : Prop where
  out : (cs.drop j).take n = us ∧ j + n ≤ cs.length
instance Seg.n {cs : List Value} : Seg cs 0 0 [] := ⟨by simp⟩
instance Seg.c {c : Value} {cs us : List Value} {n : Nat} [h : Seg cs 0 n us] : Seg (c :: cs) 0 (n + 1) (c :: us) := ⟨by
  obtain ⟨h1, h2⟩ := h.out
  simp at h1 h2 ⊢
  exact ⟨h1, h2⟩⟩
instance Seg.s {c : Value} {cs us : List Value} {j n : Nat} [h : Seg cs j n us] : Seg (c :: cs) (j + 1) n us := ⟨by
  obtain ⟨h1, h2⟩ := h.out
  refine ⟨by simpa using h1, by simp; omega⟩⟩

/-- Types: of one cell; of n cells. -/
def scB (P : Program) (t : TypeId) : Bool := (match P.underlying t with | some (.struct _) => false | some (.array _ _) => false | some _ => true | none => false) && (P.info? t).map (·.size) == some 1
def agB (P : Program) (t : TypeId) (n : Nat) : Bool := (match P.underlying t with | some (.struct _) => true | some (.array _ _) => true | _ => false) && (P.info? t).map (·.size) == some n
class Sc (P : Program) (t : TypeId) : Prop where
  out : scB P t = true
class Ag (P : Program) (t : TypeId) (n : outParam Nat) : Prop where
  out : agB P t n = true
theorem Sc.size {P : Program} {t : TypeId} (h : Sc P t) : (P.info? t).map (·.size) = some 1 := by have := h.out; simp [scB] at this; simpa using this.2
theorem Ag.size {P : Program} {t n} (h : Ag P t n) : (P.info? t).map (·.size) = some n := by have := h.out; simp [agB] at this; simpa using this.2
theorem Sc.agg {P : Program} {t : TypeId} (h : Sc P t) (w : World) : (isAgg t).run P w = .ok false w := by
  have := h.out
  simp only [scB, Bool.and_eq_true] at this
  have h1 := this.1
  simp only [isAgg, Sem.run_bind, underlying]
  cases e : P.underlying t with
  | none => rw [e] at h1; cases h1
  | some u => rw [e] at h1; cases u <;> simp_all
theorem Ag.agg {P : Program} {t n} (h : Ag P t n) (w : World) : (isAgg t).run P w = .ok true w := by
  have := h.out
  simp only [agB, Bool.and_eq_true] at this
  have h1 := this.1
  simp only [isAgg, Sem.run_bind, underlying]
  cases e : P.underlying t with
  | none => rw [e] at h1; cases h1
  | some u => rw [e] at h1; cases u <;> simp_all
theorem run_sizeOf {P : Program} {t : TypeId} {n : Nat} (h : (P.info? t).map (·.size) = some n) (w : World) : (Go.sizeOf t).run P w = .ok n w := by
  obtain ⟨i, hi, rfl⟩ := Option.map_eq_some_iff.1 h
  simp [Go.sizeOf, typeInfo, hi]
theorem blkc {W : World} {k : Nat} {cs : List Value} {e : Nat} {fr : Nat × Nat} (h : W.heap[k]? = some (.cells cs.toArray e fr)) (j : Nat) : W.cell? ⟨k, j, none⟩ = cs[j]? := by simp [World.cell?, h]
theorem addr_add (k j n : Nat) : (⟨k, j, none⟩ : Addr).add n = ⟨k, j + n, none⟩ := by
  unfold Addr.add
  split
  · rename_i e; subst e; rfl
  · rfl
theorem run_loadN {P : Program} {W : World} {a : Addr} {us : List Value} (h : ∀ j u, us[j]? = some u → W.cell? (a.add j) = some u) : (loadCells a us.length).run P W = .ok us.toArray W :=
  run_loadCells_list (a := a) (cs := us) (h := h) ..

theorem Chg.refl (W : World) (k : Nat) : Chg W W k := ⟨rfl, rfl, rfl, fun _ _ _ => rfl⟩
theorem blk_size {W : World} {k : Nat} {o : Obj} (h : W.heap[k]? = some o) : k < W.heap.size := (Array.getElem?_eq_some_iff.1 h).1
/-- A store of one cell. -/
theorem run_store1 {P : Program} {W : World} {k j e : Nat} {cs : List Value} {v : Value} (hg : W.heap[k]? = some (.cells cs.toArray e (0, 0))) (hj : j < cs.length) (h1 : v.oneCell' = true) :
    (Go.store ⟨k, j, none⟩ v).run P W = .ok () (W.setCell ⟨k, j, none⟩ v) ∧ (W.setCell ⟨k, j, none⟩ v).heap[k]? = some (.cells (cs.set j v).toArray e (0, 0)) ∧ Chg W (W.setCell ⟨k, j, none⟩ v) k ∧ (W.setCell ⟨k, j, none⟩ v).heap.size = W.heap.size := by
  have hlt := blk_size hg
  refine ⟨?_, ?_, ⟨rfl, rfl, rfl, fun i hi _ => ?_⟩, by simp [World.setCell]⟩
  · have hc : W.cell? ⟨k, j, none⟩ = some cs[j] := (blkc hg j).trans (List.getElem?_eq_getElem hj)
    have hfz : W.frozen? ⟨k, j, none⟩ = false := by simp [World.frozen?, hg]; try omega
    rw [run_store P W _ v _ h1]
    simp [stored, hc, hfz]
  · simp [World.setCell, Array.getElem?_modify, hg]
  · simp [World.setCell, Array.getElem?_modify, Ne.symm hi]
theorem run_storesN {P : Program} {k e : Nat} : ∀ (us : List Value) (j i : Nat) (cs : List Value) (W : World), W.heap[k]? = some (.cells cs.toArray e (0, 0)) → j + i + us.length ≤ cs.length → (∀ u ∈ us, u.oneCell' = true) →
    ∃ W', (storeCells ⟨k, j, none⟩ us i).run P W = .ok () W' ∧ W'.heap[k]? = some (.cells (cs.take (j + i) ++ us ++ cs.drop (j + i + us.length)).toArray e (0, 0)) ∧ Chg W W' k ∧ W'.heap.size = W.heap.size
  | [], j, i, cs, W, hg, _, _ => ⟨W, rfl, by simpa using hg, Chg.refl _ _, rfl⟩
  | u :: us, j, i, cs, W, hg, hn, h1 => by
    simp only [List.length_cons] at hn
    obtain ⟨r1, r2, r3, r4⟩ := run_store1 (P := P) hg (show j + i < cs.length by omega) (h1 u List.mem_cons_self)
    obtain ⟨W', q1, q2, q3, q4⟩ := run_storesN (P := P) us j (i + 1) (cs.set (j + i) u) _ r2 (by simp; omega) (fun x hx => h1 x (List.mem_cons_of_mem _ hx))
    refine ⟨W', ?_, ?_, ⟨q3.os.trans r3.os, q3.tape.trans r3.tape, q3.output.trans r3.output, fun i hi hl => (q3.block i hi (by omega)).trans (r3.block i hi hl)⟩, by omega⟩
    · simp only [storeCells, Sem.run_bind, addr_add, r1, Result.andThen_ok]
      exact q1
    · rw [q2]
      have e1 : (cs.set (j + i) u).take (j + (i + 1)) = cs.take (j + i) ++ [u] := by
        rw [show j + (i + 1) = (j + i) + 1 from rfl, List.take_succ_eq_append_getElem (by simp; omega)]
        rw [List.take_set_of_le (by omega)]
        simp
      have e2 : (cs.set (j + i) u).drop (j + (i + 1) + us.length) = cs.drop (j + i + (u :: us).length) := by
        rw [List.drop_set_of_lt (by omega)]
        simp only [List.length_cons]
        congr 1; omega
      rw [e1, e2]
      simp
theorem run_storeN {P : Program} {W : World} {k j e : Nat} {cs : List Value} (t : TypeId) (v : Value) (us : List Value) (hg : W.heap[k]? = some (.cells cs.toArray e (0, 0))) (hu : v.cells.toList = us) (ht : (P.info? t).map (·.size) = some us.length)
    (hn : j + us.length ≤ cs.length) (h1 : ∀ u ∈ us, u.oneCell' = true) : ∃ W', (Instr.storeAt t (.pointer (some ⟨k, j, none⟩)) v).run P W = .ok () W' ∧ W'.heap[k]? = some (.cells (cs.take j ++ us ++ cs.drop (j + us.length)).toArray e (0, 0)) ∧ Chg W W' k := by
  obtain ⟨W', q1, q2, q3, _⟩ := run_storesN (P := P) us j 0 cs W hg (by omega) h1
  refine ⟨W', ?_, q2, q3⟩
  have hsz : v.cells.size = us.length := by rw [← hu, Array.length_toList]
  simp only [Instr.storeAt, Instr.sureAddr, storeVar, Sem.run_bind, Sem.run_pure, Result.andThen_ok, run_sizeOf ht, hsz, hu]
  simp [q1]

section
variable {P : Program} {W0 : World} {N : Nat} {ops : Array Oper} {rest : List Oper} {E : List (Nat × Value)} {l l' : List HP} {Q : Exit → Act → World → Prop}
variable {d : Nat} {op : Op} {ty : TypeId} {pos : String} {aft : Array Edge}
instance OpV.load {x : Operand} {t : TypeId} {k j e : Nat} {cs : List Value} {v : Value} [ht : Sc P t] [hx : Ev N E x (.pointer (some ⟨k, j, none⟩))] [hc : FCel l k cs e] [hv : Nth cs j v] : OpV P N E l (.load t x) (v) := ⟨fun {W0} a W dst ty pos aft ha hl => by
    have hcell : W.cell? ⟨k, j, none⟩ = some v := (blkc (hc.out W0 W hl) j).trans hv.out
    simp [execOp, hx.out a ha, Instr.loadAt, Instr.sureAddr, loadVar, ht.agg, Go.load, Sem.run, hcell]⟩
instance OpV.loadN {x : Operand} {t : TypeId} {k j e n : Nat} {cs us : List Value} [ht : Ag P t n] [hx : Ev N E x (.pointer (some ⟨k, j, none⟩))] [hc : FCel l k cs e] [hv : Seg cs j n us] : OpV P N E l (.load t x) (.agg us.toArray) := ⟨fun {W0} a W dst ty pos aft ha hl => by
    obtain ⟨hus, hn⟩ := hv.out
    have hl' : us.length = n := by rw [← hus]; simp; omega
    have hr : (loadCells ⟨k, j, none⟩ n).run P W = .ok us.toArray W := by
      rw [← hl']
      refine run_loadN fun i u hi => ?_
      rw [addr_add, blkc (hc.out W0 W hl)]
      rw [← hus, List.getElem?_take, List.getElem?_drop] at hi
      split at hi
      · exact hi
      · cases hi
    simp [execOp, hx.out a ha, Instr.loadAt, Instr.sureAddr, loadVar, ht.agg, run_sizeOf ht.size, hr]⟩
theorem Sat.upd {W W' : World} {k : Nat} {cs cs' : List Value} {e : Nat} (h : Sat W0 l W) (hu : UCel l k cs' l') (hg : W.heap[k]? = some (.cells cs.toArray e (0, 0))) (hc : Chg W W' k) (hk : W'.heap[k]? = some (.cells cs'.toArray e (0, 0))) : Sat W0 l' W' := by
  obtain ⟨A, B, r, f, g, us, e', rfl, rfl⟩ := hu.out
  have h1 := h.foc f
  have := Sat.mem h1
  rw [hg] at this
  injection this with this
  injection this with _ this
  subst this
  exact (Sat.put h1 hc hk).unfoc g
/-- A store: of one cell, or of several. -/
theorem Sx.store {x y : Operand} {t : TypeId} {k j e : Nat} {cs cs' us : List Value} {v : Value} [hx : Ev N E x (.pointer (some ⟨k, j, none⟩))] [hy : Ev N E y v] [hus : Cells v us] [hc : FCel l k cs e] [hp : PutN cs j us cs'] [hu : UCel l k cs' l']
    (ht : (P.info? t).map (·.size) = some us.length := by kernel_rfl) (h : Sx P W0 N ops rest E l' Q) : Sx P W0 N ops (⟨none, .store t x y, ty, pos, aft, none⟩ :: rest) E l Q :=
  Sx.act (fun a W ha hl => by
    have hg := hc.out W0 W hl
    obtain ⟨hcs, hn⟩ := hp.out
    obtain ⟨W', h1, hk, hch⟩ := run_storeN (P := P) t v us hg hus.out ht hn hus.one
    rw [← hcs] at hk
    refine ⟨W', ?_, hl.upd hu hg hch hk⟩
    simp [execOp, hx.out a ha, hy.out a ha, h1]) h
end


/-- A kind: how an element's cells are told. -/
structure Ky (α : Type) where
  sz : Nat
  enc : α → List Value
  len : ∀ x, (enc x).length = sz
  one : ∀ x, ∀ u ∈ enc x, u.oneCell' = true
  pos : 0 < sz

section
variable {α : Type} (K : Ky α)
def encs (xs : List α) : List Value := xs.flatMap K.enc
theorem encs_nil : encs K [] = [] := rfl
theorem encs_cons (x : α) (xs : List α) : encs K (x :: xs) = K.enc x ++ encs K xs := by simp [encs]
theorem encs_append (xs ys : List α) : encs K (xs ++ ys) = encs K xs ++ encs K ys := by simp [encs]
theorem encs_len : ∀ xs : List α, (encs K xs).length = xs.length * K.sz
  | [] => by simp [encs]
  | x :: xs => by rw [encs_cons, List.length_append, K.len, encs_len xs, List.length_cons, Nat.add_mul]; omega
theorem encs_one (xs : List α) : ∀ u ∈ encs K xs, u.oneCell' = true := fun u hu => by
  obtain ⟨x, _, hx⟩ := List.mem_flatMap.1 hu
  exact K.one x u hx
theorem encs_get : ∀ (xs : List α) (i : Nat) (x : α), xs[i]? = some x → ∀ j u, (K.enc x)[j]? = some u → (encs K xs)[i * K.sz + j]? = some u
  | [], i, x, h, _, _, _ => by simp at h
  | y :: xs, 0, x, h, j, u, hu => by
    simp at h; subst h
    rw [encs_cons, Nat.zero_mul, Nat.zero_add, List.getElem?_append_left (List.getElem?_eq_some_iff.1 hu).1]; exact hu
  | y :: xs, i + 1, x, h, j, u, hu => by
    have := encs_get xs i x (by simpa using h) j u hu
    rw [encs_cons, List.getElem?_append_right (by rw [K.len, Nat.add_mul]; omega), K.len, show (i + 1) * K.sz + j - K.sz = i * K.sz + j by rw [Nat.add_mul]; omega]; exact this
theorem encs_set : ∀ (xs : List α) (i : Nat) (x x' : α), xs[i]? = some x → encs K (xs.set i x') = (encs K xs).take (i * K.sz) ++ K.enc x' ++ (encs K xs).drop (i * K.sz + K.sz)
  | [], i, x, x', h => by simp at h
  | y :: xs, 0, x, x', h => by
    simp only [List.set_cons_zero, encs_cons, Nat.zero_mul, List.take_zero, List.nil_append, Nat.zero_add]
    rw [List.drop_append, K.len, Nat.sub_self, List.drop_of_length_le (by rw [K.len]; omega), List.nil_append, List.drop_zero]
  | y :: xs, i + 1, x, x', h => by
    have ih := encs_set xs i x x' (by simpa using h)
    have hs := K.len y
    have e1 : (i + 1) * K.sz = K.sz + i * K.sz := by rw [Nat.add_mul]; omega
    have t1 : (K.enc y ++ encs K xs).take (K.sz + i * K.sz) = K.enc y ++ (encs K xs).take (i * K.sz) := by
      rw [List.take_append, hs, List.take_of_length_le (by omega), Nat.add_sub_cancel_left]
    have t2 : (K.enc y ++ encs K xs).drop (K.sz + i * K.sz + K.sz) = (encs K xs).drop (i * K.sz + K.sz) := by
      rw [List.drop_append, hs, List.drop_of_length_le (by omega), List.nil_append]; congr 1; omega
    rw [List.set_cons_succ, encs_cons, ih, encs_cons, e1, t1, t2]
    simp
theorem encs_split (xs : List α) (i : Nat) (x : α) (h : xs[i]? = some x) : encs K xs = (encs K xs).take (i * K.sz) ++ K.enc x ++ (encs K xs).drop (i * K.sz + K.sz) := by
  have := encs_set K xs i x x h
  have e : xs.set i x = xs := by
    apply List.ext_getElem?
    intro j
    rw [List.getElem?_set]
    split
    · rename_i hj; subst hj; rw [h, if_pos (List.getElem?_eq_some_iff.1 h).1]
    · rfl
  rwa [e] at this
theorem seg_put (pre ex post tail us : List Value) (j : Nat) (h : j + us.length ≤ ex.length) :
    ((pre ++ ex ++ post ++ tail).take (pre.length + j) ++ us ++ (pre ++ ex ++ post ++ tail).drop (pre.length + j + us.length)).take (pre.length + ex.length + post.length) = pre ++ (ex.take j ++ us ++ ex.drop (j + us.length)) ++ post := by
  have a1 : (pre ++ ex ++ post ++ tail).take (pre.length + j) = pre ++ ex.take j := by
    simp only [List.append_assoc]
    rw [List.take_length_add_append, List.take_append_of_le_length (by omega)]
  have a2 : (pre ++ ex ++ post ++ tail).drop (pre.length + j + us.length) = ex.drop (j + us.length) ++ post ++ tail := by
    simp only [List.append_assoc]
    rw [Nat.add_assoc, List.drop_length_add_append, List.drop_append_of_le_length (by omega)]
  have a3 : (pre ++ ex.take j ++ us ++ (ex.drop (j + us.length) ++ post ++ tail)) = (pre ++ (ex.take j ++ us ++ ex.drop (j + us.length)) ++ post) ++ tail := by simp
  rw [a1, a2, a3, List.take_left' (by simp; omega)]
end

/-- The place of cell n of a slice. -/
def eaddr (A : Option Addr) (n : Nat) : Addr := (A.getD ⟨0, 0, none⟩).add n
def eoff (i : Int) (sz j : Nat) : Nat := i.toNat * sz + j
def gt {α : Type} [Inhabited α] (xs : List α) (i : Int) : α := xs.getD i.toNat default
theorem gt_get {α : Type} [Inhabited α] {xs : List α} {i : Int} (h0 : 0 ≤ i) (h1 : i < xs.length) : xs[i.toNat]? = some (gt xs i) := by
  have : i.toNat < xs.length := by omega
  simp [gt, this]

/-- In a world a row can be read. -/
def RowAt {α : Type} (W : World) (K : Ky α) (A : Option Addr) (xs : List α) : Prop := ∀ i x, xs[i]? = some x → ∃ a, A = some a ∧ ∀ j u, (K.enc x)[j]? = some u → W.cell? (a.add (i * K.sz + j)) = some u
/-- A row of one's own: a slice at A, of capacity c. -/
def orow {α : Type} (K : Ky α) (e : TypeId) (A : Option Addr) (c : Nat) (xs : List α) : HP :=
  ⟨fun _ h => (A = none ∧ c = 0 ∧ xs = []) ∨ ∃ g cur, A = some ⟨g, 0, none⟩ ∧ h g = some (.cells cur e (0, 0)) ∧ xs.length ≤ c ∧ c ≤ maxLen ∧ cur.size = c * K.sz ∧ cur.toList.take (xs.length * K.sz) = encs K xs, fun _ h => h⟩
def icell (im : Hp) (a : Addr) (u : Value) : Prop := a.spot = none ∧ ∃ cs e fr, im a.block = some (.cells cs e fr) ∧ cs[a.off]? = some u
/-- A row that nobody writes. -/
def irow {α : Type} (K : Ky α) (A : Option Addr) (xs : List α) : HP :=
  ps (fun im => ∀ i x, xs[i]? = some x → ∃ a, A = some a ∧ ∀ j u, (K.enc x)[j]? = some u → icell im (a.add (i * K.sz + j)) u) fun hi h i x hx => by
    obtain ⟨a, hA, hc⟩ := h i x hx
    refine ⟨a, hA, fun j u hu => ?_⟩
    obtain ⟨h1, cs, e, fr, h2, h3⟩ := hc j u hu
    exact ⟨h1, cs, e, fr, hi _ _ h2, h3⟩
instance {α : Type} {K : Ky α} {A xs} : Pers (irow K A xs) := inferInstanceAs (Pers (ps _ _))
theorem icell_at {im : Hp} {W : World} (h : ∀ k o, im k = some o → W.heap[k]? = some o) {a : Addr} {u : Value} (hc : icell im a u) : W.cell? a = some u := by
  obtain ⟨h1, cs, e, fr, h2, h3⟩ := hc
  simp [World.cell?, h _ _ h2, h1, h3]
section
variable {α : Type} {K : Ky α} {e : TypeId} {A : Option Addr} {c : Nat} {xs : List α} {W0 W W' : World} {r l : List HP}
theorem irow_at (h : Sat W0 (irow K A xs :: r) W) : RowAt W K A xs := by
  obtain ⟨im, h1, h2⟩ := h.ps_mem
  intro i x hx
  obtain ⟨a, hA, hc⟩ := h2 i x hx
  exact ⟨a, hA, fun j u hu => icell_at h1 (hc j u hu)⟩
theorem Sat.orow (h : Sat W0 (orow K e A c xs :: r) W) : (A = none ∧ c = 0 ∧ xs = [] ∧ Sat W0 r W) ∨ ∃ g cur, A = some ⟨g, 0, none⟩ ∧ Sat W0 (pt g (.cells cur e (0, 0)) :: r) W ∧ xs.length ≤ c ∧ c ≤ maxLen ∧ cur.size = c * K.sz ∧ cur.toList.take (xs.length * K.sz) = encs K xs := by
  have hd := h.drop
  obtain ⟨im, g, h1, h2, h3, g1, g2, d, e_, a, s⟩ := h.get
  rcases a with ⟨a1, a2, a3⟩ | ⟨k, cur, a1, a2, a3⟩
  · exact .inl ⟨a1, a2, a3, hd⟩
  · exact .inr ⟨k, cur, a1, ⟨h.os, h.tape, h.output, im, g, h1, h2, h3, g1, g2, d, e_, a2, s⟩, a3⟩
theorem Sat.orow_mk {g : Nat} {cur : Array Value} (h : Sat W0 (pt g (.cells cur e (0, 0)) :: r) W) (h1 : xs.length ≤ c) (h2 : c ≤ maxLen) (h3 : cur.size = c * K.sz) (h4 : cur.toList.take (xs.length * K.sz) = encs K xs) : Sat W0 (Se.orow K e (some ⟨g, 0, none⟩) c xs :: r) W := by
  obtain ⟨im, g', k1, k2, k3, g1, g2, d, e_, a, s⟩ := h.get
  exact ⟨h.os, h.tape, h.output, im, g', k1, k2, k3, g1, g2, d, e_, .inr ⟨g, cur, rfl, a, h1, h2, h3, h4⟩, s⟩
theorem Sat.orow_nil (h : Sat W0 r W) : Sat W0 (Se.orow K e none 0 [] :: r) W := h.imp fun im g s => ⟨fun _ => none, g, fun _ => .inl rfl, funext fun _ => rfl, .inl ⟨rfl, rfl, rfl⟩, s⟩
theorem row_cells {g : Nat} {cur : Array Value} {fr} (hg : W.heap[g]? = some (.cells cur e fr)) (h4 : cur.toList.take (xs.length * K.sz) = encs K xs) : RowAt W K (some ⟨g, 0, none⟩) xs := fun i x hx => by
  refine ⟨_, rfl, fun j u hu => ?_⟩
  have h := encs_get K xs i x hx j u hu
  rw [← h4, List.getElem?_take] at h
  split at h
  · rw [addr_add]
    simp only [World.cell?, hg, Nat.zero_add]
    simpa using h
  · cases h
theorem orow_at (h : Sat W0 (orow K e A c xs :: r) W) : RowAt W K A xs := by
  rcases h.orow with ⟨_, _, rfl, _⟩ | ⟨g, cur, rfl, hs, h1, h2, h3, h4⟩
  · intro i x hx; simp at hx
  · exact row_cells hs.mem h4
theorem orow_cap (h : Sat W0 (orow K e A c xs :: r) W) : xs.length ≤ c ∧ c ≤ maxLen := by
  rcases h.orow with ⟨_, rfl, rfl, _⟩ | ⟨g, cur, rfl, hs, h1, h2, h3, h4⟩
  · exact ⟨Nat.le_refl _, Nat.zero_le _⟩
  · exact ⟨h1, h2⟩
/-- What is written no more. -/
theorem Sat.orow_freeze (h : Sat W0 (Se.orow K e A c xs :: r) W) : Sat W0 (irow K A xs :: r) W := by
  rcases h.orow with ⟨rfl, rfl, rfl, hs⟩ | ⟨g, cur, rfl, hs, h1, h2, h3, h4⟩
  · exact hs.imp fun im g s => ⟨fun _ => none, g, fun _ => .inl rfl, funext fun _ => rfl, fun i x hx => (by simp at hx), s⟩
  · obtain ⟨im, g', k1, k2, k3, g1, g2, d, e_, a, s⟩ := hs.freeze.get
    refine ⟨hs.os, hs.tape, hs.output, im, g', k1, k2, k3, g1, g2, d, e_, fun i x hx => ⟨_, rfl, fun j u hu => ?_⟩, s⟩
    rw [addr_add]
    refine ⟨rfl, cur, e, _, a, ?_⟩
    have h := encs_get K xs i x hx j u hu
    rw [← h4, List.getElem?_take] at h
    split at h
    · simpa using h
    · cases h

/-- A row among what is known. -/
class FRow (l : List HP) (A : Option Addr) {α : outParam Type} (K : outParam (Ky α)) (xs : outParam (List α)) : Prop where
  out : ∀ W0 W, Sat W0 l W → RowAt W K A xs
instance FRow.z {c} : FRow (orow K e A c xs :: l) A K xs := ⟨fun _ _ h => orow_at h⟩
instance FRow.zi : FRow (irow K A xs :: l) A K xs := ⟨fun _ _ h => irow_at h⟩
instance (priority := 500) FRow.s {B : HP} [h : FRow l A K xs] : FRow (B :: l) A K xs := ⟨fun W0 W hs => h.out W0 W hs.drop⟩
/-- A row of one's own, and l' where another one stands in its place. -/
class URow (l : List HP) (A : Option Addr) (e : TypeId) {α : outParam Type} (K : outParam (Ky α)) (c : outParam Nat) (xs : outParam (List α)) (r : outParam (List HP)) : Prop where
  out : Foc l (orow K e A c xs) r
instance URow.z : URow (orow K e A c xs :: l) A e K c xs l := ⟨.z⟩
instance (priority := 500) URow.s {B : HP} {r} [h : URow l A e K c xs r] : URow (B :: l) A e K c xs (B :: r) := ⟨.s h.out⟩

class URowA (l : List HP) (A : Option Addr) (e : outParam TypeId) {α : outParam Type} (K : outParam (Ky α)) (c : outParam Nat) (xs : outParam (List α)) (r : outParam (List HP)) : Prop where
  out : Foc l (orow K e A c xs) r
instance URowA.z : URowA (orow K e A c xs :: l) A e K c xs l := ⟨.z⟩
instance (priority := 500) URowA.s {B : HP} {r} [h : URowA l A e K c xs r] : URowA (B :: l) A e K c xs (B :: r) := ⟨.s h.out⟩
/-- Cell j of an element. -/
class EncAt (K : Ky α) (j : Nat) (f : outParam (α → Value)) : Prop where
  out : ∀ x, (K.enc x)[j]? = some (f x)
/-- Cells j .. of an element. -/
class EncSeg (K : Ky α) (j n : Nat) (f : outParam (α → List Value)) : Prop where
  out : ∀ x, ((K.enc x).drop j).take n = f x ∧ j + n ≤ K.sz
/-- An element whose cells from j on are us. -/
class EncPut (K : Ky α) (j : Nat) (us : List Value) (g : outParam (α → α)) : Prop where
  out : ∀ x, K.enc (g x) = (K.enc x).take j ++ us ++ (K.enc x).drop (j + us.length) ∧ j + us.length ≤ K.sz
/-- A value is an element. -/
class EncOf (K : Ky α) (v : Value) (x : outParam α) : Prop where
  out : v.cells.toList = K.enc x
class EncAll (K : Ky α) (vs : List Value) (xs : outParam (List α)) : Prop where
  out : (vs.map fun v => v.cells.toList) = xs.map K.enc
instance : EncAll K [] [] := ⟨rfl⟩
instance {v : Value} {x : α} {vs : List Value} [h : EncOf K v x] [g : EncAll K vs xs] : EncAll K (v :: vs) (x :: xs) := ⟨by simp [h.out, g.out]⟩
end
/-- The kind of a type of elements. -/
class KOf (P : Program) (e : TypeId) {α : outParam Type} (K : outParam (Ky α)) : Prop where
  out : (P.info? e).map (·.size) = some K.sz
def slB (P : Program) (t e : TypeId) : Bool := match P.underlying t with | some (.slice e') => e' == e | _ => false
/-- t is a slice of e. -/
class SlT (P : Program) (t : TypeId) (e : outParam TypeId) : Prop where
  out : slB P t e = true
theorem SlT.und {P : Program} {t e : TypeId} (h : SlT P t e) : P.underlying t = some (.slice e) := by
  have := h.out
  unfold slB at this
  cases hu : P.underlying t with
  | none => rw [hu] at this; cases this
  | some u => rw [hu] at this; cases u <;> simp_all
/-- What a new row of e is made of. -/
class ElT (P : Program) (e : TypeId) (z : outParam Value) (sz : outParam Nat) (bytes : outParam Nat) : Prop where
  out : (P.info? e).map (fun i => (i.zero, i.size, i.bytes)) = some (some z, sz, bytes) ∧ z.cells.size = sz

section
variable {α : Type} {K : Ky α} {e : TypeId} {A : Option Addr} {c : Nat} {xs : List α}
variable {P : Program} {W0 : World} {N : Nat} {ops : Array Oper} {rest : List Oper} {E : List (Nat × Value)} {l l' r : List HP} {Q : Exit → Act → World → Prop}
variable {d : Nat} {op : Op} {ty : TypeId} {pos : String} {aft : Array Edge}
/-- An index that is in its row. -/
class InB (i : Int) (n : Nat) : Prop where
  h0 : 0 ≤ i
  h1 : i < n
instance {α : Type} {i : Int} {xs : List α} {j : Nat} {y : α} [h : InB i xs.length] : InB i (xs.set j y).length := ⟨h.h0, by rw [List.length_set]; exact h.h1⟩
/-- A kind's size. -/
class SzIs {α : Type} (K : Ky α) (sz : Nat) : Prop where
  out : sz = K.sz
instance {α : Type} {K : Ky α} : SzIs K K.sz := ⟨rfl⟩
theorem run_indexAt_row {W : World} {t : TypeId} {a : Addr} {n c : Nat} {k : IntKind} {i : Int} {sz : Nat} (ht : P.underlying t = some (.slice e)) (hs : (P.info? e).map (·.size) = some sz) (h0 : 0 ≤ i) (h1 : i < n) :
    (Instr.indexAt t (.slice (some a) n c) (.int k i)).run P W = .ok (.pointer (some (a.add (i.toNat * sz)))) W := by
  simp [Instr.indexAt, asIntOf, underlying, ht, h0, h1, run_sizeOf hs]
/-- &xs[i] -/
theorem Sx.indexAddr [Inhabited α] {x y : Operand} {t : TypeId} {k : IntKind} {i : Int} {n : Nat} [ht : SlT P t e] [hx : Ev N E x (.slice A n c)] [hy : Ev N E y (.int k i)] [hr : FRow l A K xs] [hk : KOf P e K]
    (hn : n = xs.length := by first | rfl | (simp; first | done | fail)) (h0 : 0 ≤ i := by omega) (h1 : i < xs.length := by first | omega | (simp only [List.length_set, List.length_append, List.length_cons, List.length_nil, List.length_take, List.length_replicate]; omega)) (hf : fresh d N E = true := by kernel_rfl)
    (h : InB i xs.length → Sx P W0 N ops rest ((d, .pointer (some (eaddr A (eoff i K.sz 0)))) :: E) l Q) : Sx P W0 N ops (⟨some d, .indexAddr t x y, ty, pos, aft, none⟩ :: rest) E l Q :=
  Sx.val0 hf (fun a W ha hl => by
    obtain ⟨ad, rfl, _⟩ := hr.out W0 W hl i.toNat (gt xs i) (gt_get h0 h1)
    subst hn
    simp [execOp, hx.out a ha, hy.out a ha, run_indexAt_row ht.und hk.out h0 h1, eaddr, eoff]) (h ⟨h0, h1⟩)
/-- The same, of a row with the same kind that is known by its element type alone. -/
theorem add_add (a : Addr) (n m : Nat) : (a.add n).add m = a.add (n + m) := by
  simp only [Addr.add]
  by_cases h1 : m = 0
  · subst h1; simp
  · rw [if_neg h1]
    by_cases h2 : n = 0
    · subst h2; simp [h1]
    · rw [if_neg h2, if_neg (by omega)]
      simp [Nat.add_assoc]
theorem eaddr_add (A : Option Addr) (n m : Nat) : (eaddr A n).add m = eaddr A (n + m) := add_add _ _ _
/-- &xs[i].f -/
instance OpV.fieldE {s : TypeId} {x : Operand} {f off j j2 sz : Nat} {i : Int} [hfo : FO P s f off] [hx : Ev N E x (.pointer (some (eaddr A (eoff i sz j))))] [hj : Plus j off j2] : OpV P N E l (.fieldAddr s x f) (.pointer (some (eaddr A (eoff i sz j2)))) := ⟨fun {W0} a W dst ty pos aft ha hl => by
    have ho := hfo.out
    have hj := hj.out
    subst hj
    unfold fieldOff at ho
    cases hu : P.underlying s with
    | none => rw [hu] at ho; cases ho
    | some u =>
      rw [hu] at ho
      cases u <;> try (cases ho; done)
      rename_i fs
      simp only at ho
      cases hfx : fs[f]? with
      | none => rw [hfx] at ho; cases ho
      | some fd =>
        rw [hfx] at ho
        simp only [Option.bind_some] at ho
        cases hi : P.info? fd.type with
        | none => rw [hi] at ho; cases ho
        | some i' =>
          rw [hi] at ho
          simp only at ho
          split at ho
          · cases ho
          · rename_i hne
            injection ho with ho
            subst ho
            simp [execOp, hx.out a ha, Instr.fieldAt, underlying, hu, hfx, Instr.sureAddr, fieldPlace, Go.sizeOf, typeInfo, hi, hne, eaddr_add, eoff, Nat.add_assoc]⟩
/-- xs[i].f, one cell. -/
instance OpV.loadE [Inhabited α] {x : Operand} {t : TypeId} {j sz : Nat} {i : Int} {f : α → Value} [ht : Sc P t] [hx : Ev N E x (.pointer (some (eaddr A (eoff i sz j))))] [hr : FRow l A K xs] [hg : EncAt K j f]
    [hsz : SzIs K sz] [hin : InB i xs.length] : OpV P N E l (.load t x) (f (gt xs i)) := ⟨fun {W0} a W dst ty pos aft ha hl => by
    obtain ⟨ad, rfl, hc⟩ := hr.out W0 W hl i.toNat (gt xs i) (gt_get hin.h0 hin.h1)
    have hcell := hc j _ (hg.out _)
    have hsz := hsz.out
    subst hsz
    simp [execOp, hx.out a ha, Instr.loadAt, Instr.sureAddr, loadVar, ht.agg, Go.load, Sem.run, eaddr, eoff, hcell]⟩
/-- xs[i], or a struct in it. -/
instance OpV.loadEN [Inhabited α] {x : Operand} {t : TypeId} {j sz n : Nat} {i : Int} {f : α → List Value} [ht : Ag P t n] [hx : Ev N E x (.pointer (some (eaddr A (eoff i sz j))))] [hr : FRow l A K xs] [hg : EncSeg K j n f]
    [hsz : SzIs K sz] [hin : InB i xs.length] : OpV P N E l (.load t x) (.agg (f (gt xs i)).toArray) := ⟨fun {W0} a W dst ty pos aft ha hl => by
    obtain ⟨ad, rfl, hc⟩ := hr.out W0 W hl i.toNat (gt xs i) (gt_get hin.h0 hin.h1)
    obtain ⟨hs, hn⟩ := hg.out (gt xs i)
    have hsz := hsz.out
    subst hsz
    have hl' : (f (gt xs i)).length = n := by rw [← hs]; simp [K.len]; omega
    have hr : (loadCells (eaddr (some ad) (eoff i K.sz j)) n).run P W = .ok (f (gt xs i)).toArray W := by
      rw [← hl']
      refine run_loadN fun m u hm => ?_
      rw [eaddr_add]
      rw [← hs, List.getElem?_take, List.getElem?_drop] at hm
      split at hm
      · have := hc (j + m) u hm
        simpa [eaddr, eoff, Nat.add_assoc] using this
      · cases hm
    simp [execOp, hx.out a ha, Instr.loadAt, Instr.sureAddr, loadVar, ht.agg, run_sizeOf ht.size, hr]⟩
/-- xs[i].f = v, xs[i] = v -/
theorem Sx.storeE [Inhabited α] {x y : Operand} {t : TypeId} {j sz : Nat} {i : Int} {v : Value} {us : List Value} {g : α → α} [hx : Ev N E x (.pointer (some (eaddr A (eoff i sz j))))] [hy : Ev N E y v] [hus : Cells v us] [hr : URowA l A e K c xs r] [hg : EncPut K j us g]
    [hsz : SzIs K sz] [hin : InB i xs.length] (ht : (P.info? t).map (·.size) = some us.length := by kernel_rfl)
    (h : Sx P W0 N ops rest E (orow K e A c (xs.set i.toNat (g (gt xs i))) :: r) Q) : Sx P W0 N ops (⟨none, .store t x y, ty, pos, aft, none⟩ :: rest) E l Q :=
  Sx.act (fun a W ha hl => by
    have hsz := hsz.out
    have h0 := hin.h0
    have h1 := hin.h1
    subst hsz
    obtain ⟨hp, hn⟩ := hg.out (gt xs i)
    have hx1 := gt_get h0 h1
    have hil : i.toNat < xs.length := by omega
    rcases (hl.foc hr.out).orow with ⟨_, _, rfl, _⟩ | ⟨k, cur, rfl, hs, g1, g2, g3, g4⟩
    · simp at hil
    · have hk := hs.mem
      have hle : i.toNat * K.sz + K.sz ≤ xs.length * K.sz := by rw [← Nat.succ_mul]; exact Nat.mul_le_mul_right _ hil
      have hlen : xs.length * K.sz ≤ cur.size := by rw [g3]; exact Nat.mul_le_mul_right _ g1
      have hk' : W.heap[k]? = some (.cells cur.toList.toArray e (0, 0)) := by simpa using hk
      obtain ⟨W', r1, r2, r3⟩ := run_storeN (P := P) (j := eoff i K.sz j) t v us hk' hus.out ht (by simp [eoff]; omega) hus.one
      refine ⟨W', ?_, ?_⟩
      · have : eaddr (some ⟨k, 0, none⟩) (eoff i K.sz j) = ⟨k, eoff i K.sz j, none⟩ := by simp only [eaddr, Option.getD_some]; rw [addr_add, Nat.zero_add]
        simp [execOp, hx.out a ha, hy.out a ha, this, r1]
      · refine Sat.orow_mk (hs.put r3 r2) (by simpa using g1) g2 (by simp [eoff]; omega) ?_
        rw [List.length_set, encs_set K xs i.toNat _ _ hx1, hp, ← g4]
        simp only [eoff]
        have hsp := encs_split K xs i.toNat _ hx1
        have hL : cur.toList = (encs K xs).take (i.toNat * K.sz) ++ K.enc (gt xs i) ++ (encs K xs).drop (i.toNat * K.sz + K.sz) ++ cur.toList.drop (xs.length * K.sz) := by
          rw [← hsp, ← g4, List.take_append_drop]
        have hel := encs_len K xs
        have hpl : ((encs K xs).take (i.toNat * K.sz)).length = i.toNat * K.sz := by simp; omega
        have h := seg_put ((encs K xs).take (i.toNat * K.sz)) (K.enc (gt xs i)) ((encs K xs).drop (i.toNat * K.sz + K.sz)) (cur.toList.drop (xs.length * K.sz)) us j (by rw [K.len]; exact hn)
        rw [← hL, hpl, K.len, List.length_drop, hel, show i.toNat * K.sz + K.sz + (xs.length * K.sz - (i.toNat * K.sz + K.sz)) = xs.length * K.sz by omega] at h
        rw [h, g4]) h
end


section
variable {α : Type} {K : Ky α} {e : TypeId} {A A2 : Option Addr} {c n c2 n2 : Nat} {xs ys : List α}
variable {P : Program} {W0 : World} {N : Nat} {ops : Array Oper} {rest : List Oper} {E : List (Nat × Value)} {l l' r : List HP} {Q : Exit → Act → World → Prop}
variable {d : Nat} {op : Op} {ty : TypeId} {pos : String} {aft : Array Edge}
theorem Chg.of_grown {W W' : World} {k : Nat} (h : W.grownBy W' (some k)) : Chg W W' k := ⟨h.os, h.tape, h.output, fun j hj hl => h.block j hl (by simpa using hj)⟩
theorem below_of_grown {W W' : World} (h : W.grownBy W' none) : Below W.heap.size W W' := ⟨h.os, h.tape, h.output, h.size, fun j hl => h.block j hl (by simp)⟩
theorem row_news {W : World} {a : Addr} (h : RowAt W K (some a) ys) : ∀ j u, (encs K ys)[j]? = some u → W.cell? (a.add j) = some u := by
  have key : ∀ (zs : List α) (b : Nat), (∀ i x, zs[i]? = some x → ∀ j u, (K.enc x)[j]? = some u → W.cell? (a.add ((b + i) * K.sz + j)) = some u) → ∀ j u, (encs K zs)[j]? = some u → W.cell? (a.add (b * K.sz + j)) = some u := by
    intro zs
    induction zs with
    | nil => intro b _ j u hu; simp [encs] at hu
    | cons z zs ih =>
      intro b hz j u hu
      rw [encs_cons, List.getElem?_append, K.len] at hu
      split at hu
      · simpa using hz 0 z rfl j u hu
      · rename_i hge
        have := ih (b + 1) (fun i x hx j u hu => by
          have := hz (i + 1) x (by simpa using hx) j u hu
          rwa [show b + (i + 1) = b + 1 + i by omega] at this) (j - K.sz) u hu
        rwa [show (b + 1) * K.sz + (j - K.sz) = b * K.sz + j by rw [Nat.add_mul]; omega] at this
  intro j u hu
  have := key ys 0 (fun i x hx j u hu => by
    obtain ⟨ad, hA, hc⟩ := h i x hx
    injection hA with hA
    subst hA
    rw [Nat.zero_add]; exact hc j u hu) j u hu
  simpa using this
/-- append(xs, ys...): the owned row grows, or is another one. -/
theorem run_append_orow {W : World} {t : TypeId} {z : Value} {bytes : Nat} (ht : P.underlying t = some (.slice e)) (hel : (P.info? e).map (fun i => (i.zero, i.size, i.bytes)) = some (some z, K.sz, bytes) ∧ z.cells.size = K.sz)
    (hl : Sat W0 (orow K e A c xs :: r) W) (hys : RowAt W K A2 ys) (hb : (xs.length + ys.length) * bytes ≤ 140737488355328) (hm : xs.length + ys.length ≤ maxLen) :
    ∃ A' c' W', (Builtin.append_ #[t, t] ty #[.slice A xs.length c, .slice A2 ys.length c2]).run P W = .ok (.slice A' (xs ++ ys).length c') W' ∧ Sat W0 (orow K e A' c' (xs ++ ys) :: r) W' := by
  obtain ⟨hinfo, hzs⟩ := hel
  obtain ⟨i0, hi, hzz⟩ := Option.map_eq_some_iff.1 hinfo
  simp only [Prod.mk.injEq] at hzz
  obtain ⟨hz0, hz1, hz2⟩ := hzz
  have hcap := orow_cap hl
  cases A2 with
  | none =>
    have hy0 : ys = [] := by
      cases ys with
      | nil => rfl
      | cons y ys => obtain ⟨a, h, _⟩ := hys 0 y rfl; cases h
    subst hy0
    refine ⟨A, c, W, ?_, by simpa using hl⟩
    have h1 : ¬ (c < xs.length) := by omega
    rcases A with _ | a <;> simp [Builtin.append_, run_underlying ht, Go.sizeOf, typeInfo, hi, Builtin.lenOf, hcap.1, Builtin.firstCells, storeCells]
  | some a2 =>
    have hnews := row_news hys
    rcases hl.orow with ⟨rfl, rfl, rfl, hs⟩ | ⟨g, cur, rfl, hs, g1, g2, g3, g4⟩
    · obtain ⟨v', W', h1, h2, h3, h4, h5⟩ := run_append_own_at (P := P) W W.heap.size t ty e i0 z K.sz bytes ht hi hz0 hz1 hz2 hzs K.pos (.slice none 0 0) 0 [] (W.ownsRow_nil _ _ _) a2 ys.length c2 (encs K ys) (encs_len K ys) hnews (encs_one K ys) (by simpa using hm) (by simpa using hb) (Nat.le_refl _)
      obtain ⟨_, h2⟩ := h2
      have hbw := below_of_grown h3
      simp only [List.nil_append, Nat.zero_add] at h2
      rcases h2 with ⟨rfl, h0⟩ | ⟨g, cap, cur, rfl, hg, hh, hc1, hc2, hc3, hc4⟩
      · have : ys = [] := List.eq_nil_of_length_eq_zero h0
        subst this
        exact ⟨none, 0, W', by simpa using h1, (hs.below hbw).orow_nil⟩
      · refine ⟨some ⟨g, 0, none⟩, cap, W', by simpa using h1, ?_⟩
        exact Sat.orow_mk (hs.new hbw hg hh) (by simpa using hc1) hc2 hc3 (by simpa using hc4)
    · have hown : W.ownsRow g e K.sz (.slice (some ⟨g, 0, none⟩) xs.length c) xs.length (encs K xs) := ⟨encs_len K xs, .inr ⟨g, c, cur, rfl, Nat.le_refl _, hs.mem, g1, g2, g3, g4⟩⟩
      obtain ⟨v', W', h1, h2, h3, h4, h5⟩ := run_append_own_at (P := P) W g t ty e i0 z K.sz bytes ht hi hz0 hz1 hz2 hzs K.pos _ _ _ hown a2 ys.length c2 (encs K ys) (encs_len K ys) hnews (encs_one K ys) hm hb (Nat.le_of_lt (blk_size hs.mem))
      obtain ⟨_, h2⟩ := h2
      rcases h2 with ⟨rfl, h0⟩ | ⟨g', cap, cur', rfl, hg, hh, hc1, hc2, hc3, hc4⟩
      · exact absurd (h4.1 rfl).1 (by simp)
      · refine ⟨some ⟨g', 0, none⟩, cap, W', by simpa using h1, ?_⟩
        have hch := Chg.of_grown h3
        rw [← encs_append] at hc4
        rcases h5 with h5 | h5
        · have e1 : g' = g := by simpa [Value.ownBlock] using h5
          subst e1
          exact Sat.orow_mk (hs.put hch hh) (by simpa using hc1) hc2 hc3 (by simpa using hc4)
        · have e1 : g' = W.heap.size := by simpa [Value.ownBlock] using h5
          subst e1
          exact Sat.orow_mk (Sat.new_of hs hch (Nat.le_refl _) hh) (by simpa using hc1) hc2 hc3 (by simpa using hc4)
/-- The walk's append, to a row of one's own. -/
theorem Sx.append {x y : Operand} {t : TypeId} {z : Value} {sz bytes : Nat} [ht : SlT P t e] [hel : ElT P e z sz bytes] [hx : Ev N E x (.slice A n c)] [hy : Ev N E y (.slice A2 n2 c2)] [hr : URow l A e K c xs r] [hr2 : FRow l A2 K ys]
    (hsz : sz = K.sz := by rfl) (hn : n = xs.length := by first | rfl | (simp; first | done | fail)) (hn2 : n2 = ys.length := by first | rfl | (simp; first | done | fail)) (hb : (xs.length + ys.length) * bytes ≤ 140737488355328 := by (try simp only [List.length_append, List.length_cons, List.length_nil]); omega)
    (hm : xs.length + ys.length ≤ maxLen := by (try simp only [List.length_append, List.length_cons, List.length_nil]); unfold maxLen; omega) (hf : fresh d N E = true := by kernel_rfl)
    (h : ∀ A' c', Sx P W0 N ops rest ((d, .slice A' (xs ++ ys).length c') :: E) (orow K e A' c' (xs ++ ys) :: r) Q) :
    Sx P W0 N ops (⟨some d, .call ⟨.builtin .append, #[x, y], #[t, t]⟩, ty, pos, aft, none⟩ :: rest) E l Q := fun a W ha hl => by
  subst hsz hn hn2
  obtain ⟨A', c', W', h1, h2⟩ := run_append_orow (P := P) (ty := ty) (c2 := c2) ht.und hel.out (hl.foc hr.out) (hr2.out W0 W hl) hb hm
  refine wpl_value (v := .slice A' (xs ++ ys).length c') (W' := W') rfl ?_ (h A' c' _ _ (ha.put hf _) h2)
  simp [execOp, resolve, invoke, builtin, hx.out a ha, hy.out a ha, h1]
/-- append to nil. -/
theorem Sx.append0 {x y : Operand} {t : TypeId} {z : Value} {sz bytes : Nat} [ht : SlT P t e] [hel : ElT P e z sz bytes] [hx : Ev N E x (.slice none 0 0)] [hy : Ev N E y (.slice A2 n2 c2)] [hr2 : FRow l A2 K ys]
    (hsz : sz = K.sz := by rfl) (hn2 : n2 = ys.length := by first | rfl | (simp; first | done | fail)) (hb : ys.length * bytes ≤ 140737488355328 := by (try simp only [List.length_append, List.length_cons, List.length_nil]); omega)
    (hm : ys.length ≤ maxLen := by (try simp only [List.length_append, List.length_cons, List.length_nil]); unfold maxLen; omega) (hf : fresh d N E = true := by kernel_rfl)
    (h : ∀ A' c', Sx P W0 N ops rest ((d, .slice A' ys.length c') :: E) (orow K e A' c' ys :: l) Q) :
    Sx P W0 N ops (⟨some d, .call ⟨.builtin .append, #[x, y], #[t, t]⟩, ty, pos, aft, none⟩ :: rest) E l Q := fun a W ha hl => by
  subst hsz hn2
  obtain ⟨A', c', W', h1, h2⟩ := run_append_orow (P := P) (ty := ty) (c2 := c2) (xs := []) ht.und hel.out hl.orow_nil (hr2.out W0 W hl) (by simpa using hb) (by simpa using hm)
  refine wpl_value (v := .slice A' ys.length c') (W' := W') rfl ?_ (h A' c' _ _ (ha.put hf _) h2)
  simp only [List.nil_append, List.length_nil] at h1
  simp [execOp, resolve, invoke, builtin, hx.out a ha, hy.out a ha, h1]
/-- append to a slice that is full: another row. -/
theorem Sx.appendC {x y : Operand} {t : TypeId} {z : Value} {sz bytes : Nat} [ht : SlT P t e] [hel : ElT P e z sz bytes] [hx : Ev N E x (.slice A n n)] [hy : Ev N E y (.slice A2 n2 c2)] [hr : FRow l A K xs] [hr2 : FRow l A2 K ys]
    (hsz : sz = K.sz := by rfl) (hn : n = xs.length := by first | rfl | (simp; first | done | fail)) (hn2 : n2 = ys.length := by first | rfl | (simp; first | done | fail)) (h0 : 0 < xs.length := by omega) (h1 : 0 < ys.length := by (try simp only [List.length_append, List.length_cons, List.length_nil]); omega) (hb : (xs.length + ys.length) * bytes ≤ 140737488355328 := by (try simp only [List.length_append, List.length_cons, List.length_nil]); omega)
    (hm : xs.length + ys.length ≤ maxLen := by (try simp only [List.length_append, List.length_cons, List.length_nil]); unfold maxLen; omega) (hf : fresh d N E = true := by kernel_rfl)
    (h : ∀ A' c', Sx P W0 N ops rest ((d, .slice A' (xs ++ ys).length c') :: E) (orow K e A' c' (xs ++ ys) :: l) Q) :
    Sx P W0 N ops (⟨some d, .call ⟨.builtin .append, #[x, y], #[t, t]⟩, ty, pos, aft, none⟩ :: rest) E l Q := fun a W ha hl => by
  subst hsz hn hn2
  obtain ⟨hinfo, hzs⟩ := hel.out
  obtain ⟨i0, hi, hzz⟩ := Option.map_eq_some_iff.1 hinfo
  simp only [Prod.mk.injEq] at hzz
  obtain ⟨hz0, hz1, hz2⟩ := hzz
  have hxr := hr.out W0 W hl
  have hyr := hr2.out W0 W hl
  obtain ⟨a1, rfl, _⟩ := hxr 0 xs[0] (List.getElem?_eq_getElem h0)
  obtain ⟨a2, rfl, _⟩ := hyr 0 ys[0] (List.getElem?_eq_getElem h1)
  have hfit : Builtin.nextslicecap (xs.length + ys.length) xs.length * i0.bytes ≤ 281474976710656 := by rw [hz2]; exact growslice_fits (by omega) hb
  have hr1 := run_append_grow (P := P) (w := W) t ty e i0 z ht.und hi hz0 a1 xs.length xs.length (encs K xs) (by rw [hz1]; exact encs_len K xs) (row_news hxr) a2 ys.length c2 (encs K ys) (by rw [hz1]; exact encs_len K ys) (row_news hyr) (by omega) (by unfold maxLen at hm; omega) hfit
  have hge := grownCap_ge W (xs.length + ys.length) xs.length e
  have hle := grownCap_le_maxLen W (xs.length + ys.length) xs.length e hm
  generalize grownCap W (xs.length + ys.length) xs.length e = G at hr1 hge hle
  have hsat : Sat W0 (orow K e (some ⟨W.heap.size, 0, none⟩) G (xs ++ ys) :: l) (W.drew.alloc (.cells ((encs K xs).toArray ++ (encs K ys).toArray ++ Builtin.zeroCells z.cells (G - (xs.length + ys.length))) e)) := by
    refine Sat.orow_mk (cur := (encs K xs).toArray ++ (encs K ys).toArray ++ Builtin.zeroCells z.cells (G - (xs.length + ys.length))) (hl.new ((belowD W).trans ((belowA W.drew _).mono (by simp))) (Nat.le_refl _) ?_) (by simpa using hge) hle ?_ ?_
    · have := newA W.drew (.cells ((encs K xs).toArray ++ (encs K ys).toArray ++ Builtin.zeroCells z.cells (G - (xs.length + ys.length))) e)
      simpa using this
    · simp only [Array.size_append, List.size_toArray, size_zeroCells, encs_len, hzs]
      rw [← Nat.add_mul, ← Nat.add_mul]
      congr 1; omega
    · rw [encs_append]
      simp only [Array.toList_append]
      rw [List.take_left' (by simp [encs_len, Nat.add_mul])]
  refine wpl_value (v := .slice (some ⟨W.heap.size, 0, none⟩) (xs ++ ys).length G) rfl ?_ (h _ _ _ _ (ha.put hf _) hsat)
  simp [execOp, resolve, invoke, builtin, hx.out a ha, hy.out a ha, hr1]
end


/-- The zero of a type. -/
class ZV (P : Program) (t : TypeId) (z : outParam Value) : Prop where
  out : (P.info? t).bind (·.zero) = some z
/-- The operands of a full literal. -/
class PartsL (ps : List (Nat × Operand)) (i : Nat) (xs : outParam (List Operand)) : Prop where
  out : ps = (xs.zipIdx i).map fun p => (p.2, p.1)
instance {i} : PartsL [] i [] := ⟨rfl⟩
instance {ps : List (Nat × Operand)} {i : Nat} {x : Operand} {xs : List Operand} [h : PartsL ps (i + 1) xs] : PartsL ((i, x) :: ps) i (x :: xs) := ⟨by rw [h.out]; simp⟩

theorem wrap64_in {n : Int} (h0 : -9223372036854775808 ≤ n) (h1 : n ≤ 9223372036854775807) : IntKind.i64.wrap n = n := by
  rw [IntKind.wrap_i64]; omega

section
variable {α : Type} {K : Ky α} {e : TypeId} {A A2 : Option Addr} {c n c2 n2 : Nat} {xs ys : List α}
variable {P : Program} {W0 : World} {N : Nat} {ops : Array Oper} {rest : List Oper} {E : List (Nat × Value)} {l l' r : List HP} {Q : Exit → Act → World → Prop}
variable {d : Nat} {op : Op} {ty ty2 : TypeId} {pos : String} {aft : Array Edge}

theorem Sat.newCel {W : World} {us : List Value} {t : TypeId} (h : Sat W0 l W) : Sat W0 (cel W.heap.size us t :: l) (W.alloc (.cells us.toArray t (0, 0))) := h.new (belowA _ _) (Nat.le_refl _) (newA _ _)
theorem Sx.box {t : TypeId} {x : Operand} {v : Value} {us : List Value} [hx : Ev N E x v] [hus : Cells v us] (hf : fresh d N E = true := by kernel_rfl)
    (h : ∀ k, Sx P W0 N ops rest ((d, .pointer (some ⟨k, 0, none⟩)) :: E) (cel k us t :: l) Q) : Sx P W0 N ops (⟨some d, .box t x, ty, pos, aft, none⟩ :: rest) E l Q := fun a W ha hl => by
  have hv : v.cells = us.toArray := by rw [← hus.out]
  refine wpl_value (v := .pointer (some ⟨W.heap.size, 0, none⟩)) (W' := W.alloc (.cells us.toArray t (0, 0))) rfl ?_ (h _ _ _ (ha.put hf _) hl.newCel)
  simp [execOp, hx.out a ha, Instr.box, newVar, newRow, hv]
theorem Sx.alloc {t : TypeId} {z : Value} {us : List Value} [hz : ZV P t z] [hus : Cells z us] (hf : fresh d N E = true := by kernel_rfl)
    (h : ∀ k, Sx P W0 N ops rest ((d, .pointer (some ⟨k, 0, none⟩)) :: E) (cel k us t :: l) Q) : Sx P W0 N ops (⟨some d, .alloc t, ty, pos, aft, none⟩ :: rest) E l Q := fun a W ha hl => by
  have hv : z.cells = us.toArray := by rw [← hus.out]
  obtain ⟨i, hi, hiz⟩ := Option.bind_eq_some_iff.1 hz.out
  refine wpl_value (v := .pointer (some ⟨W.heap.size, 0, none⟩)) (W' := W.alloc (.cells us.toArray t (0, 0))) rfl ?_ (h _ _ _ (ha.put hf _) hl.newCel)
  simp [execOp, Instr.alloc, zeroValue, typeInfo, hi, hiz, newVar, newRow, hv]
/-- T{..}, by a closed fact on the type. -/
theorem Sx.build {t : TypeId} {ps : List (Nat × Operand)} {v : Value} (hr : ∀ a, Env N a E → ∀ W, (Instr.build t (ps.map fun p => (p.1, a.eval p.2)).toArray).run P W = .ok v W) (hf : fresh d N E = true := by kernel_rfl)
    (h : Sx P W0 N ops rest ((d, v) :: E) l Q) : Sx P W0 N ops (⟨some d, .build t ps.toArray, ty, pos, aft, none⟩ :: rest) E l Q :=
  Sx.val0 hf (fun a W ha _ => by
    have := hr a ha W
    simp [execOp]
    rw [this]; simp) h
/-- Operands with places. -/
class EvP (N : Nat) (E : List (Nat × Value)) (ps : List (Nat × Operand)) (vs : outParam (List (Nat × Value))) : Prop where
  out : ∀ a, Env N a E → (ps.map fun p => (p.1, a.eval p.2)) = vs
instance EvP.nn : EvP N E [] [] := ⟨fun _ _ => rfl⟩
instance EvP.cc {i : Nat} {x : Operand} {v : Value} {ps : List (Nat × Operand)} {vs : List (Nat × Value)} [hx : Ev N E x v] [h : EvP N E ps vs] : EvP N E ((i, x) :: ps) ((i, v) :: vs) := ⟨fun a ha => by rw [List.map_cons, hx.out a ha, h.out a ha]⟩
/-- What a literal builds: its cells are put one after the other. -/
class PO (P : Program) (t : TypeId) (i : Nat) (off : outParam Nat) : Prop where
  out : True
instance {t : TypeId} {i off : Nat} [FO P t i off] : PO P t i off := ⟨trivial⟩
class FillL (P : Program) (t : TypeId) (zs : List Value) (vs : List (Nat × Value)) (cs : outParam (List Value)) : Prop where
  out : True
instance {t : TypeId} {zs : List Value} : FillL P t zs [] zs := ⟨trivial⟩
instance {t : TypeId} {zs zs' us cs : List Value} {i off : Nat} {v : Value} {vs : List (Nat × Value)} [PO P t i off] [Cells v us] [PutN zs off us zs'] [FillL P t zs' vs cs] : FillL P t zs ((i, v) :: vs) cs := ⟨trivial⟩
theorem Sx.buildC {t : TypeId} {ps : List (Nat × Operand)} {vs : List (Nat × Value)} {zs cs : List Value} [hp : EvP N E ps vs] [hz : ZV P t (.agg zs.toArray)] [hb : FillL P t zs vs cs] (hr : ∀ W, (Instr.build t vs.toArray).run P W = .ok (.agg cs.toArray) W := by intro W; kernel_rfl) (hf : fresh d N E = true := by kernel_rfl)
    (h : Sx P W0 N ops rest ((d, .agg cs.toArray) :: E) l Q) : Sx P W0 N ops (⟨some d, .build t ps.toArray, ty, pos, aft, none⟩ :: rest) E l Q :=
  Sx.build (fun a ha W => by rw [hp.out a ha]; exact hr W) hf h
theorem encs_all {vs : List Value} (h : (vs.map fun v => v.cells.toList) = xs.map K.enc) : vs.flatMap (fun v => v.cells.toList) = encs K xs := by
  unfold encs
  rw [List.flatMap_def, List.flatMap_def, h]
theorem set_run (off : Nat) : ∀ (us : List Value) (b : Nat) (cs : Array Value), off + b + us.length ≤ cs.size →
    (us.zipIdx b).foldl (fun cs (p : Value × Nat) => cs.setIfInBounds (off + p.2) p.1) cs = (cs.toList.take (off + b) ++ us ++ cs.toList.drop (off + b + us.length)).toArray
  | [], b, cs, _ => by simp
  | u :: us, b, cs, h => by
    simp only [List.length_cons] at h
    rw [List.zipIdx_cons, List.foldl_cons, set_run off us (b + 1) _ (by simp; omega)]
    simp only [Array.toList_setIfInBounds]
    congr 1
    have e1 : (cs.toList.set (off + b) u).take (off + (b + 1)) = cs.toList.take (off + b) ++ [u] := by
      rw [show off + (b + 1) = (off + b) + 1 from rfl, List.take_succ_eq_append_getElem (by simp; omega), List.take_set_of_le (by omega)]
      simp
    have e2 : (cs.toList.set (off + b) u).drop (off + (b + 1) + us.length) = cs.toList.drop (off + b + (u :: us).length) := by
      rw [List.drop_set_of_lt (by omega)]
      simp only [List.length_cons]
      congr 1; omega
    rw [e1, e2]; simp
theorem fill_all (sz : Nat) : ∀ (vs : List Value) (i : Nat) (cs : Array Value), (∀ v ∈ vs, v.cells.size = sz) → (i + vs.length) * sz = cs.size →
    Instr.fill (fun i => some (i * sz, sz)) cs ((vs.zipIdx i).map fun p => (p.2, p.1)) = some (cs.toList.take (i * sz) ++ vs.flatMap fun v => v.cells.toList).toArray
  | [], i, cs, _, h => by
    simp only [List.length_nil, Nat.add_zero] at h
    simp only [List.zipIdx_nil, List.map_nil, Instr.fill, List.flatMap_nil, List.append_nil, h]
    rw [List.take_of_length_le (by simp)]
  | v :: vs, i, cs, hv, h => by
    have h1 := hv v List.mem_cons_self
    simp only [List.length_cons] at h
    have hle : i * sz + sz ≤ cs.size := by rw [← h, ← Nat.succ_mul]; exact Nat.mul_le_mul_right _ (by omega)
    have hsr := set_run (i * sz) v.cells.toList 0 cs (by simp [h1]; omega)
    have hz : v.cells.zipIdx.foldl (fun cs (p : Value × Nat) => cs.setIfInBounds (i * sz + p.2) p.1) cs = (v.cells.toList.zipIdx 0).foldl (fun cs (p : Value × Nat) => cs.setIfInBounds (i * sz + p.2) p.1) cs := by
      rw [← Array.foldl_toList]; simp
    simp only [List.zipIdx_cons, List.map_cons, Instr.fill]
    rw [if_neg (by simp [h1]; omega), hz, hsr]
    rw [fill_all sz vs (i + 1) _ (fun u hu => hv u (List.mem_cons_of_mem _ hu)) (by
      simp only [List.size_toArray, List.length_append, List.length_take, List.length_drop, Array.length_toList, h1]
      rw [show (i + 1 + vs.length) = i + (vs.length + 1) by omega, h]; omega)]
    simp only [List.flatMap_cons]
    congr 2
    simp only [Nat.add_zero]
    rw [← List.append_assoc]
    congr 1
    have e3 : (cs.toList.take (i * sz) ++ v.cells.toList).length = (i + 1) * sz := by
      simp only [List.length_append, List.length_take, Array.length_toList, h1]
      rw [Nat.add_mul]; omega
    rw [List.take_left' e3]
/-- []T{..} -/
theorem Sx.buildSlice {t : TypeId} {ps : List (Nat × Operand)} {os : List Operand} {vs : List Value} {z : Value} {sz bytes : Nat} [ht : SlT P t e] [hel : ElT P e z sz bytes] [hk : KOf P e K] [hp : PartsL ps 0 os] [hv : Evs N E os vs] [hx : EncAll K vs xs]
    (hsz : sz = K.sz := by rfl) (hn : n = vs.length := by rfl) (hb : n * sz ≤ 16777216 := by decide) (h0 : 0 < n := by decide) (hf : fresh d N E = true := by kernel_rfl)
    (h : ∀ A c, Sx P W0 N ops rest ((d, .slice A xs.length c) :: E) (orow K e A c xs :: l) Q) : Sx P W0 N ops (⟨some d, .buildSlice t n ps.toArray, ty, pos, aft, none⟩ :: rest) E l Q := fun a W ha hl => by
  subst hn hsz
  obtain ⟨hinfo, hzs⟩ := hel.out
  obtain ⟨i0, hi, hzz⟩ := Option.map_eq_some_iff.1 hinfo
  simp only [Prod.mk.injEq] at hzz
  obtain ⟨hz0, hz1, hz2⟩ := hzz
  have hpos := K.pos
  have hlen : vs.length = xs.length := by have := congrArg List.length hx.out; simpa using this
  have hsizes : ∀ v ∈ vs, v.cells.size = K.sz := fun v hv => by
    have : v.cells.toList ∈ vs.map (fun v => v.cells.toList) := List.mem_map_of_mem hv
    rw [hx.out] at this
    obtain ⟨x, _, hxe⟩ := List.mem_map.1 this
    rw [← Array.length_toList, ← hxe, K.len]
  have hev := hv.out a ha
  have hmap : (ps.map fun p => (p.1, a.eval p.2)) = (vs.zipIdx 0).map fun p => (p.2, p.1) := by
    rw [hp.out, ← hev, List.zipIdx_map]
    simp [List.map_map, Function.comp_def]
  have hcs : ((Array.range (vs.length * K.sz)).map fun i => z.cells[i % z.cells.size]!).size = vs.length * K.sz := by simp
  have hfill := fill_all K.sz vs 0 ((Array.range (vs.length * K.sz)).map fun i => z.cells[i % z.cells.size]!) hsizes (by rw [hcs]; simp)
  rw [encs_all hx.out] at hfill
  simp only [Nat.zero_mul, List.take_zero, List.nil_append] at hfill
  have hsat : Sat W0 (orow K e (some ⟨W.heap.size, 0, none⟩) vs.length xs :: l) (W.alloc (.cells (encs K xs).toArray e (0, 0))) :=
    Sat.orow_mk (cur := (encs K xs).toArray) (hl.new (belowA _ _) (Nat.le_refl _) (newA _ _)) (by omega) (by unfold maxLen; have : vs.length * 1 ≤ vs.length * K.sz := Nat.mul_le_mul_left _ hpos; omega) (by simp [encs_len, hlen]) (by simp only []; rw [List.take_of_length_le (by rw [encs_len]; omega)])
  refine wpl_value (v := .slice (some ⟨W.heap.size, 0, none⟩) xs.length vs.length) (W' := W.alloc (.cells (encs K xs).toArray e (0, 0))) rfl ?_ (h _ _ _ _ (ha.put hf _) hsat)
  have hne : ¬ (vs.length * K.sz = 0) := by have : vs.length * 1 ≤ vs.length * K.sz := Nat.mul_le_mul_left _ hpos; omega
  have hne2 : ¬ (vs = [] ∨ K.sz = 0) := by
    rintro (h | h)
    · rw [h] at h0; simp at h0
    · omega
  have hng : ¬ (16777216 < vs.length * K.sz) := by omega
  simp [execOp, Instr.buildSlice, underlying, ht.und, run_sizeOf (show (P.info? e).map (·.size) = some K.sz by rw [hi]; simp [hz1]), hng, hne, hne2, zeroValue, typeInfo, hi, hz0, hmap]
  rw [hfill]
  simp [newRow, ← hlen]

/-! ### slices of slices -/
class IRow (l : List HP) (A : Option Addr) {α : outParam Type} (K : outParam (Ky α)) (xs : outParam (List α)) : Prop where
  out : ∃ r, Foc l (irow K A xs) r
instance IRow.z {l : List HP} : IRow (irow K A xs :: l) A K xs := ⟨_, .z⟩
instance (priority := 500) IRow.s {B : HP} {l : List HP} [h : IRow l A K xs] : IRow (B :: l) A K xs := ⟨let ⟨r, f⟩ := h.out; ⟨_, .s f⟩⟩
theorem run_slice {W : World} {t : TypeId} {kl kh km : IntKind} {lo hi mx : Option (IntKind × Int)} (ht : P.underlying t = some (.slice e)) {sz : Nat} (hs : (P.info? e).map (·.size) = some sz) {m h' lw : Nat}
    (h1 : m = (mx.map fun p => p.2.toNat).getD c) (h2 : h' = (hi.map fun p => p.2.toNat).getD n) (h3 : lw = (lo.map fun p => p.2.toNat).getD 0)
    (b1 : ∀ p ∈ mx, 0 ≤ p.2 ∧ p.2 ≤ c) (b2 : ∀ p ∈ hi, 0 ≤ p.2 ∧ p.2 ≤ m) (b3 : ∀ p ∈ lo, 0 ≤ p.2 ∧ p.2 ≤ h') (b4 : mx.isSome = true → hi.isSome = true) :
    (Instr.sliceAt t (.slice A n c) (lo.map fun p => .int p.1 p.2) (hi.map fun p => .int p.1 p.2) (mx.map fun p => .int p.1 p.2)).run P W = .ok (.slice (if m = lw then A else A.map (·.add (lw * sz))) (h' - lw) (m - lw)) W := by
  subst h1 h2 h3
  cases mx <;> cases hi <;> cases lo <;> simp_all [Instr.sliceAt, Instr.slice, underlying, Instr.sliceBounds, Instr.sliceBound, asIntOf, run_sizeOf hs]
/-- xs[:m] of an owned row. -/
theorem Sx.sliceTo {x y : Operand} {t : TypeId} {k : IntKind} {m : Int} [ht : SlT P t e] [hx : Ev N E x (.slice A n c)] [hy : Ev N E y (.int k m)] [hr : URow l A e K c xs r] [hk : KOf P e K]
    (hn : n = xs.length := by first | rfl | (simp; first | done | fail)) (h0 : 0 ≤ m := by omega) (h1 : m ≤ xs.length := by first | omega | (simp only [List.length_set, List.length_append, List.length_cons, List.length_nil, List.length_take, List.length_replicate]; omega)) (hf : fresh d N E = true := by kernel_rfl)
    (h : Sx P W0 N ops rest ((d, .slice A (xs.take m.toNat).length c) :: E) (orow K e A c (xs.take m.toNat) :: r) Q) : Sx P W0 N ops (⟨some d, .slice t x none (some y) none, ty, pos, aft, none⟩ :: rest) E l Q :=
  Sx.val hf (fun a W ha hl => by
    subst hn
    have hs := hl.foc hr.out
    have hc := orow_cap hs
    refine ⟨W, ?_, ?_⟩
    · have := run_slice (P := P) (W := W) (A := A) (n := xs.length) (c := c) (kl := .i64) (kh := .i64) (km := .i64) (lo := none) (hi := some (k, m)) (mx := none) ht.und hk.out (m := c) (h' := m.toNat) (lw := 0) rfl rfl rfl (by simp) (by intro p hp; simp at hp; subst hp; exact ⟨h0, by simp only; omega⟩) (by simp) (by simp)
      have e1 : (xs.take m.toNat).length = m.toNat := by simp; omega
      rw [e1]
      have hA : A.map (fun x => x.add 0) = A := by cases A <;> simp [Addr.add]
      simp only [Option.map_none, Option.map_some, Nat.zero_mul, hA, ite_self, Nat.sub_zero] at this
      simp [execOp, hx.out a ha, hy.out a ha, this]
    · rcases hs.orow with ⟨rfl, rfl, rfl, hs2⟩ | ⟨g, cur, rfl, hs2, g1, g2, g3, g4⟩
      · simpa using hs2.orow_nil
      · refine Sat.orow_mk hs2 (by simp; omega) g2 g3 ?_
        rw [List.length_take, Nat.min_eq_left (show m.toNat ≤ xs.length by omega)]
        have e2 : encs K (xs.take m.toNat) = (encs K xs).take (m.toNat * K.sz) := by
          conv => rhs; rw [← List.take_append_drop m.toNat xs, encs_append]
          have e3 : (encs K (xs.take m.toNat)).length = m.toNat * K.sz := by rw [encs_len, List.length_take, Nat.min_eq_left (by omega)]
          rw [List.take_left' e3]
        rw [e2, ← g4, List.take_take, Nat.min_eq_left (Nat.mul_le_mul_right _ (by omega))]) h
theorem Sat.irow_take {W : World} (m : Nat) (h : Sat W0 (irow K A xs :: r) W) : Sat W0 (irow K A (xs.take m) :: r) W := h.imp fun im g s => by
  obtain ⟨g1, g2, d1, e1, a, s⟩ := s
  exact ⟨g1, g2, d1, e1, fun i x hx => a i x (by rw [List.getElem?_take] at hx; split at hx; exact hx; cases hx), s⟩
/-- xs[:n:n] -/
theorem Sx.slice3 {x y z : Operand} {t : TypeId} {k k2 : IntKind} {m : Nat} [ht : SlT P t e] [hx : Ev N E x (.slice A n c)] [hy : Ev N E y (.int k m)] [hz : Ev N E z (.int k2 m)] [hr : FRow l A K xs] [hk : KOf P e K]
    (hn : n = xs.length := by first | rfl | (simp; first | done | fail)) (hm : m = xs.length := by first | rfl | (simp; first | done | fail)) (hc : m ≤ c := by omega) (hf : fresh d N E = true := by kernel_rfl)
    (h : Sx P W0 N ops rest ((d, .slice A m m) :: E) l Q) : Sx P W0 N ops (⟨some d, .slice t x none (some y) (some z), ty, pos, aft, none⟩ :: rest) E l Q :=
  Sx.val0 hf (fun a W ha hl => by
    subst hn
    have := run_slice (P := P) (W := W) (A := A) (n := xs.length) (c := c) (kl := .i64) (kh := .i64) (km := .i64) (lo := none) (hi := some (k, (m : Int))) (mx := some (k2, (m : Int))) ht.und hk.out (m := m) (h' := m) (lw := 0) (by simp) (by simp) rfl (by intro p hp; simp at hp; subst hp; simp only; omega) (by intro p hp; simp at hp; subst hp; simp only; omega) (by simp) (by simp)
    have hA : A.map (fun x => x.add 0) = A := by cases A <;> simp [Addr.add]
    simp only [Option.map_none, Option.map_some, Nat.zero_mul, hA, ite_self, Nat.sub_zero] at this
    simp [execOp, hx.out a ha, hy.out a ha, hz.out a ha, this]) h

/-! ### numbers -/
variable {k : IntKind} {x y : Operand} {a1 b1 : Int}
theorem Sx.add {t : TypeId} [hx : Ev N E x (.int .i64 a1)] [hy : Ev N E y (.int .i64 b1)] (h0 : -9223372036854775808 ≤ a1 + b1 ∧ a1 + b1 ≤ 9223372036854775807 := by omega) (hf : fresh d N E = true := by kernel_rfl)
    (h : Sx P W0 N ops rest ((d, .int .i64 (a1 + b1)) :: E) l Q) : Sx P W0 N ops (⟨some d, .binOp .add t x y ty2, ty, pos, aft, none⟩ :: rest) E l Q :=
  Sx.val0 hf (fun a W ha _ => by simp [execOp, hx.out a ha, hy.out a ha, eqGuard, binOp, Op.intArith, wrap64_in h0.1 h0.2]) h
theorem Sx.sub {t : TypeId} [hx : Ev N E x (.int .i64 a1)] [hy : Ev N E y (.int .i64 b1)] (h0 : -9223372036854775808 ≤ a1 - b1 ∧ a1 - b1 ≤ 9223372036854775807 := by omega) (hf : fresh d N E = true := by kernel_rfl)
    (h : Sx P W0 N ops rest ((d, .int .i64 (a1 - b1)) :: E) l Q) : Sx P W0 N ops (⟨some d, .binOp .sub t x y ty2, ty, pos, aft, none⟩ :: rest) E l Q :=
  Sx.val0 hf (fun a W ha _ => by simp [execOp, hx.out a ha, hy.out a ha, eqGuard, binOp, Op.intArith, wrap64_in h0.1 h0.2]) h
theorem Sx.mul {t : TypeId} [hx : Ev N E x (.int .i64 a1)] [hy : Ev N E y (.int .i64 b1)] (h0 : -9223372036854775808 ≤ a1 * b1 ∧ a1 * b1 ≤ 9223372036854775807 := by omega) (hf : fresh d N E = true := by kernel_rfl)
    (h : Sx P W0 N ops rest ((d, .int .i64 (a1 * b1)) :: E) l Q) : Sx P W0 N ops (⟨some d, .binOp .mul t x y ty2, ty, pos, aft, none⟩ :: rest) E l Q :=
  Sx.val0 hf (fun a W ha _ => by simp [execOp, hx.out a ha, hy.out a ha, eqGuard, binOp, Op.intArith, wrap64_in h0.1 h0.2]) h
theorem Sx.addw {t : TypeId} [hx : Ev N E x (.int k a1)] [hy : Ev N E y (.int k b1)] (hf : fresh d N E = true := by kernel_rfl)
    (h : Sx P W0 N ops rest ((d, .int k (k.wrap (a1 + b1))) :: E) l Q) : Sx P W0 N ops (⟨some d, .binOp .add t x y ty2, ty, pos, aft, none⟩ :: rest) E l Q :=
  Sx.val0 hf (fun a W ha _ => by simp [execOp, hx.out a ha, hy.out a ha, eqGuard, binOp, Op.intArith]) h
theorem Sx.subw {t : TypeId} [hx : Ev N E x (.int k a1)] [hy : Ev N E y (.int k b1)] (hf : fresh d N E = true := by kernel_rfl)
    (h : Sx P W0 N ops rest ((d, .int k (k.wrap (a1 - b1))) :: E) l Q) : Sx P W0 N ops (⟨some d, .binOp .sub t x y ty2, ty, pos, aft, none⟩ :: rest) E l Q :=
  Sx.val0 hf (fun a W ha _ => by simp [execOp, hx.out a ha, hy.out a ha, eqGuard, binOp, Op.intArith]) h
theorem Sx.quo {t : TypeId} [hx : Ev N E x (.int .i64 a1)] [hy : Ev N E y (.int .i64 b1)] (h0 : 0 ≤ a1 ∧ a1 ≤ 9223372036854775807 := by omega) (h1 : 0 < b1 := by omega) (hf : fresh d N E = true := by kernel_rfl)
    (h : Sx P W0 N ops rest ((d, .int .i64 (a1 / b1)) :: E) l Q) : Sx P W0 N ops (⟨some d, .binOp .quo t x y ty2, ty, pos, aft, none⟩ :: rest) E l Q :=
  Sx.val0 hf (fun a W ha _ => by
    have e1 : a1.tdiv b1 = a1 / b1 := Int.tdiv_eq_ediv_of_nonneg h0.1
    have e2 : IntKind.i64.wrap (a1 / b1) = a1 / b1 := wrap64_in (by have := Int.ediv_nonneg h0.1 (Int.le_of_lt h1); omega) (by have := Int.ediv_le_self b1 h0.1; omega)
    have hne : b1 ≠ 0 := by omega
    simp [execOp, hx.out a ha, hy.out a ha, eqGuard, binOp, Op.intDiv, e1, e2, hne]) h
theorem Sx.quow {t : TypeId} [hx : Ev N E x (.int k a1)] [hy : Ev N E y (.int k b1)] {r1 : Int} (hr : k.wrap (a1.tdiv b1) = r1) (h1 : b1 ≠ 0 := by decide) (hf : fresh d N E = true := by kernel_rfl)
    (h : Sx P W0 N ops rest ((d, .int k r1) :: E) l Q) : Sx P W0 N ops (⟨some d, .binOp .quo t x y ty2, ty, pos, aft, none⟩ :: rest) E l Q :=
  Sx.val0 hf (fun a W ha _ => by simp [execOp, hx.out a ha, hy.out a ha, eqGuard, binOp, Op.intDiv, h1, hr]) h
theorem Sx.rem {t : TypeId} [hx : Ev N E x (.int k a1)] [hy : Ev N E y (.int k b1)] (h0 : 0 ≤ a1 := by omega) (h1 : 0 < b1 := by omega) (hf : fresh d N E = true := by kernel_rfl)
    (h : Sx P W0 N ops rest ((d, .int k (a1 % b1)) :: E) l Q) : Sx P W0 N ops (⟨some d, .binOp .rem t x y ty2, ty, pos, aft, none⟩ :: rest) E l Q :=
  Sx.val0 hf (fun a W ha _ => by
    have e1 : a1.tmod b1 = a1 % b1 := Int.tmod_eq_emod_of_nonneg h0
    have hne : b1 ≠ 0 := by omega
    simp [execOp, hx.out a ha, hy.out a ha, eqGuard, binOp, Op.intDiv, e1, hne]) h
instance OpV.lss {t : TypeId} [hx : Ev N E x (.int k a1)] [hy : Ev N E y (.int k b1)] : OpV P N E l (.binOp .lss t x y ty2) (.bool (decide (a1 < b1))) := ⟨fun {W0} a W dst ty pos aft ha _ => by simp [execOp, hx.out a ha, hy.out a ha, eqGuard, binOp, Op.intCmp]⟩
instance OpV.leq {t : TypeId} [hx : Ev N E x (.int k a1)] [hy : Ev N E y (.int k b1)] : OpV P N E l (.binOp .leq t x y ty2) (.bool (decide (a1 ≤ b1))) := ⟨fun {W0} a W dst ty pos aft ha _ => by simp [execOp, hx.out a ha, hy.out a ha, eqGuard, binOp, Op.intCmp]⟩
instance OpV.gtr {t : TypeId} [hx : Ev N E x (.int k a1)] [hy : Ev N E y (.int k b1)] : OpV P N E l (.binOp .gtr t x y ty2) (.bool (decide (b1 < a1))) := ⟨fun {W0} a W dst ty pos aft ha _ => by simp [execOp, hx.out a ha, hy.out a ha, eqGuard, binOp, Op.intCmp]⟩
instance OpV.geq {t : TypeId} [hx : Ev N E x (.int k a1)] [hy : Ev N E y (.int k b1)] : OpV P N E l (.binOp .geq t x y ty2) (.bool (decide (b1 ≤ a1))) := ⟨fun {W0} a W dst ty pos aft ha _ => by simp [execOp, hx.out a ha, hy.out a ha, eqGuard, binOp, Op.intCmp]⟩
instance OpV.eql {t : TypeId} [hx : Ev N E x (.int k a1)] [hy : Ev N E y (.int k b1)] : OpV P N E l (.binOp .eql t x y ty2) (.bool (decide (a1 = b1))) := ⟨fun {W0} a W dst ty pos aft ha _ => by
    have : (a1 == b1) = decide (a1 = b1) := by by_cases e : a1 = b1 <;> simp [e]
    simp [execOp, hx.out a ha, hy.out a ha, eqGuard, binOp, Op.intCmp, this]⟩
instance OpV.neq {t : TypeId} [hx : Ev N E x (.int k a1)] [hy : Ev N E y (.int k b1)] : OpV P N E l (.binOp .neq t x y ty2) (.bool (decide (a1 ≠ b1))) := ⟨fun {W0} a W dst ty pos aft ha _ => by
    have : (a1 != b1) = decide (a1 ≠ b1) := by by_cases e : a1 = b1 <;> simp [e]
    simp [execOp, hx.out a ha, hy.out a ha, eqGuard, binOp, Op.intCmp, this]⟩
theorem Sx.typeAssert {t t2 : TypeId} {v : Value} [hx : Ev N E x (.iface t v)] (ht : concB P t = true := by kernel_rfl) (hf : fresh d N E = true := by kernel_rfl)
    (h : Sx P W0 N ops rest ((d, .tuple (List.toArray [v, .bool true])) :: E) l Q) : Sx P W0 N ops (⟨some d, .typeAssert x t2 t true, ty, pos, aft, none⟩ :: rest) E l Q :=
  Sx.val0 hf (fun a W ha _ => by
    unfold concB at ht
    simp only [execOp, hx.out a ha, Instr.typeAssert, underlying]
    cases e : P.underlying t with
    | none => rw [e] at ht; cases ht
    | some u =>
      rw [e] at ht
      cases u <;> simp_all) h
instance (priority := 1500) OpV.not_dec {t : TypeId} {p : Prop} [hp : Decidable p] [hx : Ev N E x (.bool (decide p))] : OpV P N E l (.unOp .not t x) (.bool (decide (¬ p))) := ⟨fun {W0} a W dst ty pos aft ha _ => by simp [execOp, hx.out a ha, Op.unary]⟩
instance OpV.not {t : TypeId} {b : Bool} [hx : Ev N E x (.bool b)] : OpV P N E l (.unOp .not t x) (.bool (!b)) := ⟨fun {W0} a W dst ty pos aft ha _ => by simp [execOp, hx.out a ha, Op.unary]⟩
/-- A conversion among whole numbers. -/
def inB (P : Program) (t : TypeId) (k : IntKind) : Bool := match P.underlying t with | some (.int k') => k' == k | _ => false
class InT (P : Program) (t : TypeId) (k : outParam IntKind) : Prop where
  out : P.underlying t = some (.int k)
def knownB (P : Program) (t : TypeId) : Bool := (P.underlying t).isSome
theorem Sx.convi {s t : TypeId} {k1 k2 : IntKind} [ht : InT P t k2] [hx : Ev N E x (.int k1 a1)] (hs : knownB P s = true := by kernel_rfl) (h0 : k2.wrap a1 = a1 := by first | rfl | (simp only [Go.IntKind.wrap_i64]; omega)) (hf : fresh d N E = true := by kernel_rfl)
    (h : Sx P W0 N ops rest ((d, .int k2 a1) :: E) l Q) : Sx P W0 N ops (⟨some d, .convert s t x, ty, pos, aft, none⟩ :: rest) E l Q :=
  Sx.val0 hf (fun a W ha _ => by
    unfold knownB at hs
    cases e : P.underlying s with
    | none => rw [e] at hs; cases hs
    | some u => simp [execOp, hx.out a ha, convert, underlying, e, ht.out, Conv.intToInt, h0]) h
theorem Sx.convw {s t : TypeId} {k1 k2 : IntKind} [ht : InT P t k2] [hx : Ev N E x (.int k1 a1)] (hs : knownB P s = true := by kernel_rfl) (hf : fresh d N E = true := by kernel_rfl)
    (h : Sx P W0 N ops rest ((d, .int k2 (k2.wrap a1)) :: E) l Q) : Sx P W0 N ops (⟨some d, .convert s t x, ty, pos, aft, none⟩ :: rest) E l Q :=
  Sx.val0 hf (fun a W ha _ => by
    unfold knownB at hs
    cases e : P.underlying s with
    | none => rw [e] at hs; cases hs
    | some u => simp [execOp, hx.out a ha, convert, underlying, e, ht.out, Conv.intToInt]) h
instance OpV.len {t : TypeId} [ht : SlT P t e] [hx : Ev N E x (.slice A n c)] : OpV P N E l (.call ⟨.builtin .len, #[x], #[t]⟩) (.int .i64 n) := ⟨fun {W0} a W dst ty pos aft ha _ => by simp [execOp, resolve, invoke, builtin, hx.out a ha, Builtin.len_, underlying, ht.und, goInt]⟩
instance OpV.cap {t : TypeId} [ht : SlT P t e] [hx : Ev N E x (.slice A n c)] : OpV P N E l (.call ⟨.builtin .cap, #[x], #[t]⟩) (.int .i64 c) := ⟨fun {W0} a W dst ty pos aft ha _ => by simp [execOp, resolve, invoke, builtin, hx.out a ha, Builtin.cap_, underlying, ht.und, goInt]⟩
instance OpV.min {ts : Array TypeId} [hx : Ev N E x (.int k a1)] [hy : Ev N E y (.int k b1)] : OpV P N E l (.call ⟨.builtin .min, #[x, y], ts⟩) (.int k (Min.min a1 b1)) := ⟨fun {W0} a W dst ty pos aft ha _ => by
    have : (if b1 < a1 then b1 else a1) = Min.min a1 b1 := by split <;> omega
    simp [execOp, resolve, invoke, builtin, hx.out a ha, hy.out a ha, Builtin.min_, Builtin.min2, this]⟩
instance OpV.max {ts : Array TypeId} [hx : Ev N E x (.int k a1)] [hy : Ev N E y (.int k b1)] : OpV P N E l (.call ⟨.builtin .max, #[x, y], ts⟩) (.int k (Max.max a1 b1)) := ⟨fun {W0} a W dst ty pos aft ha _ => by
    have : (if a1 < b1 then b1 else a1) = Max.max a1 b1 := by split <;> omega
    simp [execOp, resolve, invoke, builtin, hx.out a ha, hy.out a ha, Builtin.max_, Builtin.max2, this]⟩
/-- A slice against nil. -/
theorem equal_slice_nil {t : TypeId} (ht : P.underlying t = some (.slice e)) (W : World) : (Op.equal t (.slice A n c) (.slice none 0 0)).run P W = .ok (decide (A = none)) W := by
  have he : ∀ m, (Op.equalIn (m + 1) t (.slice A n c) (.slice none 0 0)).run P W = .ok (decide (A = none)) W := fun m => by
    simp only [Op.equalIn]
    cases A <;> simp [underlying, ht]
  exact he 9999
instance OpV.eqNil {t : TypeId} [ht : SlT P t e] [hx : Ev N E x (.slice A n c)] [hy : Ev N E y (.slice none 0 0)] : OpV P N E l (.binOp .eql t x y ty2) (.bool (decide (A = none))) := ⟨fun {W0} a W dst ty pos aft ha _ => by simp [execOp, hx.out a ha, hy.out a ha, eqGuard, binOp, equal_slice_nil ht.und]⟩
instance OpV.neqNil {t : TypeId} [ht : SlT P t e] [hx : Ev N E x (.slice A n c)] [hy : Ev N E y (.slice none 0 0)] : OpV P N E l (.binOp .neq t x y ty2) (.bool (decide (A ≠ none))) := ⟨fun {W0} a W dst ty pos aft ha _ => by simp [execOp, hx.out a ha, hy.out a ha, eqGuard, binOp, equal_slice_nil ht.und]⟩
/-- A pointer against nil. -/
def ptrB (P : Program) (t : TypeId) : Bool := match P.underlying t with | some (.pointer _) => true | _ => false
theorem equal_ptr_nil {t : TypeId} {p : Option Addr} (ht : ptrB P t = true) (W : World) : (Op.equal t (.pointer p) (.pointer none)).run P W = .ok (decide (p = none)) W := by
  unfold ptrB at ht
  have he : ∀ m, (Op.equalIn (m + 1) t (.pointer p) (.pointer none)).run P W = .ok (decide (p = none)) W := fun m => by
    simp only [Op.equalIn]
    cases hu : P.underlying t with
    | none => rw [hu] at ht; cases ht
    | some u =>
      rw [hu] at ht
      cases u <;> simp at ht
      cases p <;> simp [underlying, hu]
  exact he 9999
theorem Sx.eqNilP {t : TypeId} {p : Option Addr} [hx : Ev N E x (.pointer p)] [hy : Ev N E y (.pointer none)] (ht : ptrB P t = true := by kernel_rfl) (hf : fresh d N E = true := by kernel_rfl)
    (h : Sx P W0 N ops rest ((d, .bool (decide (p = none))) :: E) l Q) : Sx P W0 N ops (⟨some d, .binOp .eql t x y ty2, ty, pos, aft, none⟩ :: rest) E l Q :=
  Sx.val0 hf (fun a W ha _ => by simp [execOp, hx.out a ha, hy.out a ha, eqGuard, binOp, equal_ptr_nil ht]) h
theorem Sx.neqNilP {t : TypeId} {p : Option Addr} [hx : Ev N E x (.pointer p)] [hy : Ev N E y (.pointer none)] (ht : ptrB P t = true := by kernel_rfl) (hf : fresh d N E = true := by kernel_rfl)
    (h : Sx P W0 N ops rest ((d, .bool (decide (p ≠ none))) :: E) l Q) : Sx P W0 N ops (⟨some d, .binOp .neq t x y ty2, ty, pos, aft, none⟩ :: rest) E l Q :=
  Sx.val0 hf (fun a W ha _ => by simp [execOp, hx.out a ha, hy.out a ha, eqGuard, binOp, equal_ptr_nil ht]) h
end


/-- A contract: of pers and own, behind the call some x with φ x: the value fv x, and fl x in place of own. -/
def Ct (P : Program) (f : FuncId) (vs : List Value) (pers own : List HP) {X : Type} (φ : X → Prop) (fv : X → Value) (fl : X → List HP) : Prop :=
  ∀ (W0 W : World) (F : HP), Sat W0 (apd pers (apd own [F])) W → Calls P f vs.toArray W fun e W' => ∃ x, φ x ∧ e = .returned (fv x) ∧ Sat W0 (apd (fl x) [F]) W'

/-- A is told in l (and owns nothing). -/
class HasP (l : List HP) (A : HP) : Prop where
  out : ∃ r, Foc l A r
  pers : Pers A
instance HasP.z {l : List HP} {A : HP} [h : Pers A] : HasP (A :: l) A := ⟨⟨_, .z⟩, h⟩
instance (priority := 500) HasP.s {l : List HP} {A B : HP} [h : HasP l A] : HasP (B :: l) A := ⟨let ⟨r, f⟩ := h.out; ⟨_, .s f⟩, h.pers⟩
class HasAll (l pers : List HP) : Prop where
  out : ∀ {W0 W : World}, Sat W0 l W → Sat W0 (apd pers l) W
instance {l : List HP} : HasAll l [] := ⟨fun h => h⟩
theorem Foc.apd (pre : List HP) {l : List HP} {A : HP} {r : List HP} (f : Foc l A r) : Foc (Se.apd pre l) A (Se.apd pre r) := by
  induction pre with
  | nil => exact f
  | cons B pre ih => exact .s ih
instance {l pers : List HP} {A : HP} [h : HasP l A] [g : HasAll l pers] : HasAll l (A :: pers) := ⟨fun hs => by
  obtain ⟨r, f⟩ := h.out
  haveI := h.pers
  exact Sat.dup_of (g.out hs) (f.apd pers)⟩
class FocT (l : List HP) (A : HP) (r : outParam (List HP)) : Prop where
  out : Foc l A r
instance FocT.z {A : HP} {l : List HP} : FocT (A :: l) A l := ⟨.z⟩
instance (priority := 500) FocT.s {A B : HP} {l r : List HP} [h : FocT l A r] : FocT (B :: l) A (B :: r) := ⟨.s h.out⟩
class PicksT (l pre : List HP) (r : outParam (List HP)) : Prop where
  out : Picks l pre r
instance {l : List HP} : PicksT l [] l := ⟨.n⟩
instance {l l1 pre r : List HP} {A : HP} [h : FocT l A l1] [g : PicksT l1 pre r] : PicksT l (A :: pre) r := ⟨.c h.out g.out⟩
/-- l' is a part of l. -/
theorem Sat.take {W0 W : World} {l l' r : List HP} (h : Sat W0 l W) (f : Picks l l' r) : Sat W0 l' W := (h.picks f).left
theorem Sat.sub {W0 W : World} {l l' r : List HP} [f : PicksT l l' r] (h : Sat W0 l W) : Sat W0 l' W := h.take f.out
theorem apd_assoc (a b c : List HP) : apd a (apd b c) = apd (apd a b) c := by
  induction a with
  | nil => rfl
  | cons A a ih => simp [apd, ih]
class Ap (a b : List HP) (c : outParam (List HP)) : Prop where
  out : apd a b = c
instance {b : List HP} : Ap [] b b := ⟨rfl⟩
instance {A : HP} {a b c : List HP} [h : Ap a b c] : Ap (A :: a) b (A :: c) := ⟨by rw [← h.out]; rfl⟩
def callB (P : Program) (f : FuncId) : Bool := match P.funcs[f]? with | some fn => !(fn.name == "runtime.NumGoroutine") && fn.body.isSome | none => false
class Clb (P : Program) (f : FuncId) : Prop where
  out : callB P f = true
theorem run_callFunc {P : Program} {f : FuncId} (h : Clb P f) (args : Array Value) (W : World) : (callFunc f args).run P W = .ok (.enter f args) W := by
  have h := h.out
  unfold callB at h
  cases e : P.funcs[f]? with
  | none => rw [e] at h; cases h
  | some fn =>
    rw [e] at h
    simp only [Bool.and_eq_true, Bool.not_eq_true'] at h
    have h1 : ¬ (fn.name = "runtime.NumGoroutine") := by simpa using h.1
    have h2 : ¬ (fn.body = none) := by cases hb : fn.body <;> simp_all
    simp [callFunc, e, h1, h2]

section
variable {P : Program} {W0 : World} {N : Nat} {ops : Array Oper} {rest : List Oper} {E : List (Nat × Value)} {l l' r : List HP} {Q : Exit → Act → World → Prop}
variable {d : Nat} {op : Op} {ty ty2 : TypeId} {pos : String} {aft : Array Edge}
variable {X : Type} {φ : X → Prop} {fv : X → Value} {fl : X → List HP} {f : FuncId} {xs : List Operand} {vs : List Value} {pers own : List HP} {R : List HP}
theorem Sx.callG {o : Oper} {a : Act} {W : World} (hd : o.dst = some d) (hg : o.guard = none) (hct : Ct P f vs pers own φ fv fl) (hr : (execOp a.eval o).run P W = .ok (.enter f vs.toArray) W) (hp : HasAll l pers) (ho : PicksT l own R) (hl : Sat W0 l W)
    (h : ∀ x, φ x → ∀ W', Sat W0 (apd (fl x) R) W' → wpList P ops Q rest (a.put (some d) (fv x)) W') : wpList P ops Q (o :: rest) a W :=
  wpList_plain hg fun K0 hK => by
    unfold Oper.wp
    rw [hr]
    have h1 : Sat W0 (apd pers (apd own [all R])) W := by
      have h2 : Sat W0 (apd pers l) W := hp.out hl
      have h3 : ∀ im h, sep (apd pers l) im h → sep (apd pers (apd own [all R])) im h := fun im h s => by
        obtain ⟨g1, g2, d1, rfl, s1, s2⟩ := sep_apd.1 s
        refine sep_apd.2 ⟨g1, g2, d1, rfl, s1, ?_⟩
        obtain ⟨g3, g4, d2, rfl, s3, s4⟩ := sep_apd.1 (ho.out.to s2)
        exact sep_apd.2 ⟨g3, g4, d2, rfl, s3, g4, fun _ => none, fun _ => .inr rfl, funext fun k => by unfold un; cases g4 k <;> rfl, s4, trivial⟩
      exact h2.imp h3
    refine Calls.mono (hct W0 W (all R) h1) ?_
    rintro e W' ⟨x, hx, rfl, hs⟩
    have h4 : Sat W0 (apd (fl x) R) W' := hs.imp fun im h s => by
      obtain ⟨g1, g2, d1, rfl, s1, s2⟩ := sep_apd.1 s
      obtain ⟨g3, g4, d2, rfl, s3, _⟩ := s2
      have d3 := dis_un.1 d1
      exact sep_apd.sep_more (l := apd (fl x) R) (Dis.comm (dis_un.2 ⟨d3.2.comm, d2.comm⟩)) (un_assoc _ _ _).symm (sep_apd.2 ⟨g1, g3, d3.1, rfl, s1, s3⟩)
    have := h x hx W' h4
    rw [← hd] at this
    exact hK _ _ this
/-- A call. -/
theorem Sx.call {ats : Array TypeId} (hct : Ct P f vs pers own φ fv fl) (hc : Clb P f := by exact ⟨by kernel_rfl⟩) [hv : Evs N E xs vs] [hp : HasAll l pers] [ho : PicksT l own R] (hf : fresh d N E = true := by kernel_rfl)
    {l2 : X → List HP} [hap : ∀ x, Ap (fl x) R (l2 x)] (h : ∀ x, φ x → Sx P W0 N ops rest ((d, fv x) :: E) (l2 x) Q) : Sx P W0 N ops (⟨some d, .call ⟨.value (.func f), xs.toArray, ats⟩, ty, pos, aft, none⟩ :: rest) E l Q := fun a W ha hl =>
  Sx.callG rfl rfl hct (by
    have := hv.out a ha
    simp [execOp, resolve, Deferred.ofValue, Act.eval, invoke, this, run_callFunc hc]) hp ho hl fun x hx W' hs => h x hx _ _ (ha.put hf _) ((hap x).out ▸ hs)
/-- A call of a function value. -/
theorem Sx.callV {ats : Array TypeId} {y : Operand} {fs cs : List Value} {us : List Value} [hy : Ev N E y (.func (.func f) fs.toArray cs.toArray)] [hv : Evs N E xs us] (hct : Ct P f vs pers own φ fv fl) (hc : Clb P f := by exact ⟨by kernel_rfl⟩) (hvs : fs ++ us ++ cs = vs := by rfl) [hp : HasAll l pers] [ho : PicksT l own R] (hf : fresh d N E = true := by kernel_rfl)
    {l2 : X → List HP} [hap : ∀ x, Ap (fl x) R (l2 x)] (h : ∀ x, φ x → Sx P W0 N ops rest ((d, fv x) :: E) (l2 x) Q) : Sx P W0 N ops (⟨some d, .call ⟨.value y, xs.toArray, ats⟩, ty, pos, aft, none⟩ :: rest) E l Q := fun a W ha hl =>
  Sx.callG rfl rfl hct (by
    have := hv.out a ha
    subst hvs
    simp [execOp, resolve, Deferred.ofValue, hy.out a ha, invoke, this, run_callFunc hc]) hp ho hl fun x hx W' hs => h x hx _ _ (ha.put hf _) ((hap x).out ▸ hs)
/-- A method called on an interface value. -/
theorem Sx.invoke {ats : Array TypeId} {y : Operand} {m : String} {t : TypeId} {u recv : Value} {us : List Value} [hy : Ev N E y (.iface t u)] [hv : Evs N E xs us] (hct : Ct P f vs pers own φ fv fl)
    (hm : ∀ W, (method (P.types.size + Made.depth) t u m).run P W = .ok (f, recv) W) (hc : Clb P f := by exact ⟨by kernel_rfl⟩) (hvs : recv :: us = vs := by rfl) [hp : HasAll l pers] [ho : PicksT l own R] (hf : fresh d N E = true := by kernel_rfl)
    {l2 : X → List HP} [hap : ∀ x, Ap (fl x) R (l2 x)] (h : ∀ x, φ x → Sx P W0 N ops rest ((d, fv x) :: E) (l2 x) Q) : Sx P W0 N ops (⟨some d, .call ⟨.invoke y m, xs.toArray, ats⟩, ty, pos, aft, none⟩ :: rest) E l Q := fun a W ha hl =>
  Sx.callG rfl rfl hct (by
    have := hv.out a ha
    subst hvs
    have hm := hm W
    simp [execOp, resolve, hy.out a ha, Go.invoke, callMethod, this, hm, run_callFunc hc]) hp ho hl fun x hx W' hs => h x hx _ _ (ha.put hf _) ((hap x).out ▸ hs)
theorem Sx.pickT {c x y : Operand} {v : Value} {b : Bool} [hc : Ev N E c (.bool b)] [hx : Ev N E x v] (hb : b = true := by first | rfl | (simp; first | done | fail)) (hf : fresh d N E = true := by kernel_rfl) (h : Sx P W0 N ops rest ((d, v) :: E) l Q) : Sx P W0 N ops (⟨some d, .pick c x y, ty, pos, aft, none⟩ :: rest) E l Q :=
  Sx.val0 hf (fun a W ha _ => by simp [execOp, hx.out a ha, hc.out a ha, asBool, hb]) h
theorem Sx.pickF {c x y : Operand} {v : Value} {b : Bool} [hc : Ev N E c (.bool b)] [hy : Ev N E y v] (hb : b = false := by first | rfl | (simp; first | done | fail)) (hf : fresh d N E = true := by kernel_rfl) (h : Sx P W0 N ops rest ((d, v) :: E) l Q) : Sx P W0 N ops (⟨some d, .pick c x y, ty, pos, aft, none⟩ :: rest) E l Q :=
  Sx.val0 hf (fun a W ha _ => by simp [execOp, hy.out a ha, hc.out a ha, asBool, hb]) h
/-- What is told of a slot, told once more. -/
theorem Sx.split {os : List Oper} {dst : Option Nat} {j t : Nat} {want : Bool} {p : Prop} [Decidable p] [hj : GD os j t] [hb : Ev N E (.tmp t) (.bool (decide p))] (h1 : p → Sx P W0 N os.toArray (⟨dst, op, ty, pos, aft, some (j, want)⟩ :: rest) ((t, .bool true) :: E) l Q)
    (h2 : ¬ p → Sx P W0 N os.toArray (⟨dst, op, ty, pos, aft, some (j, want)⟩ :: rest) ((t, .bool false) :: E) l Q) : Sx P W0 N os.toArray (⟨dst, op, ty, pos, aft, some (j, want)⟩ :: rest) E l Q := fun a W ha hl => by
  have hv := hb.out a ha
  have key : ∀ b : Bool, decide p = b → Env N a ((t, .bool b) :: E) := fun b e => by
    refine ⟨ha.size, ha.defers, fun q hq => ?_⟩
    rcases List.mem_cons.1 hq with rfl | hq
    · simp only [Act.eval, Array.getD_eq_getD_getElem?] at hv
      cases e2 : a.tmps[t]? with
      | none => rw [e2] at hv; cases hv
      | some u => rw [e2] at hv; simp only [Option.getD_some] at hv; rw [hv, e]
    · exact ha.get q hq
  by_cases hp : p
  · exact h1 hp a W (key true (by simp [hp])) hl
  · exact h2 hp a W (key false (by simp [hp])) hl
theorem Sx.split_t {os : List Oper} {dst : Option Nat} {j t : Nat} {want : Bool} {p : Prop} [Decidable p] [hj : GD os j t] [hb : Ev N E (.tmp t) (.bool (decide p))] (hp : p := by first | assumption | omega) (h : Sx P W0 N os.toArray (⟨dst, op, ty, pos, aft, some (j, want)⟩ :: rest) ((t, .bool true) :: E) l Q) : Sx P W0 N os.toArray (⟨dst, op, ty, pos, aft, some (j, want)⟩ :: rest) E l Q :=
  Sx.split (p := p) (fun _ => h) (fun hn => absurd hp hn)
theorem Sx.split_f {os : List Oper} {dst : Option Nat} {j t : Nat} {want : Bool} {p : Prop} [Decidable p] [hj : GD os j t] [hb : Ev N E (.tmp t) (.bool (decide p))] (hp : ¬ p := by first | assumption | omega) (h : Sx P W0 N os.toArray (⟨dst, op, ty, pos, aft, some (j, want)⟩ :: rest) ((t, .bool false) :: E) l Q) : Sx P W0 N os.toArray (⟨dst, op, ty, pos, aft, some (j, want)⟩ :: rest) E l Q :=
  Sx.split (p := p) (fun hn => absurd hn hp) (fun _ => h)
theorem Sx.splitb {os : List Oper} {dst : Option Nat} {j t : Nat} {want b : Bool} [hj : GD os j t] [hb : Ev N E (.tmp t) (.bool b)] (h1 : b = true → Sx P W0 N os.toArray (⟨dst, op, ty, pos, aft, some (j, want)⟩ :: rest) ((t, .bool true) :: E) l Q)
    (h2 : b = false → Sx P W0 N os.toArray (⟨dst, op, ty, pos, aft, some (j, want)⟩ :: rest) ((t, .bool false) :: E) l Q) : Sx P W0 N os.toArray (⟨dst, op, ty, pos, aft, some (j, want)⟩ :: rest) E l Q := fun a W ha hl => by
  have hv := hb.out a ha
  have key : ∀ c : Bool, b = c → Env N a ((t, .bool c) :: E) := fun c e => by
    refine ⟨ha.size, ha.defers, fun q hq => ?_⟩
    rcases List.mem_cons.1 hq with rfl | hq
    · simp only [Act.eval, Array.getD_eq_getD_getElem?] at hv
      cases e2 : a.tmps[t]? with
      | none => rw [e2] at hv; cases hv
      | some u => rw [e2] at hv; simp only [Option.getD_some] at hv; rw [hv, e]
    · exact ha.get q hq
  cases hb : b with
  | true => exact h1 hb a W (key true hb) hl
  | false => exact h2 hb a W (key false hb) hl

/-! ### code -/
variable {c c1 c2 : Code} {x : Operand} {id : Nat} {next : Act → World → Prop}
theorem Cx.region {os : List Oper} (h : Sx P W0 N os.toArray os E l Q) : Cx P W0 N (.region id os.toArray false) E l Q := fun a W ha hl => wp_region_lit (h a W ha hl)
theorem Cx.seq (h : Cx P W0 N c1 E l (Exit.then (c2.wp P Q) Q)) : Cx P W0 N (.seq c1 c2) E l Q := fun a W ha hl => wp_seq (h a W ha hl)
theorem Cx.skip (h : Kx W0 N .normal E l Q) : Cx P W0 N .skip E l Q := fun a W ha hl => wp_skip (h a W ha hl)
theorem Cx.label {n : Nat} (h : Kx W0 N .normal E l Q) : Cx P W0 N (.label n) E l Q := fun a W ha hl => wp_label (h a W ha hl)
theorem Cx.exit (h : Kx W0 N (.exit id) E l Q) : Cx P W0 N (.exit id) E l Q := fun a W ha hl => wp_exit (h a W ha hl)
theorem Cx.ret (h : Kx W0 N .ret E l Q) : Cx P W0 N .ret E l Q := fun a W ha hl => wp_ret (h a W ha hl)
theorem Cx.block (h : Cx P W0 N c E l (Exit.inBlock id Q)) : Cx P W0 N (.block id c) E l Q := fun a W ha hl => wp_block (h a W ha hl)
theorem Cx.cond_t [hx : Ev N E x (.bool true)] (h : Cx P W0 N c1 E l Q) : Cx P W0 N (.cond x c1 c2) E l Q := fun a W ha hl => wp_cond_true (hx.out a ha) (h a W ha hl)
theorem Cx.cond_f [hx : Ev N E x (.bool false)] (h : Cx P W0 N c2 E l Q) : Cx P W0 N (.cond x c1 c2) E l Q := fun a W ha hl => wp_cond_false (hx.out a ha) (h a W ha hl)
theorem Cx.cond_d {p : Prop} [Decidable p] [hx : Ev N E x (.bool (decide p))] (h1 : p → Cx P W0 N c1 E l Q) (h2 : ¬ p → Cx P W0 N c2 E l Q) : Cx P W0 N (.cond x c1 c2) E l Q := fun a W ha hl =>
  wp_cond_split (hx.out a ha) (fun h => h1 (of_decide_eq_true h) a W ha hl) (fun h => h2 (of_decide_eq_false h) a W ha hl)
theorem Cx.cond_dt {p : Prop} [Decidable p] [hx : Ev N E x (.bool (decide p))] (hp : p := by first | assumption | omega) (h : Cx P W0 N c1 E l Q) : Cx P W0 N (.cond x c1 c2) E l Q := fun a W ha hl =>
  wp_cond_true (by rw [hx.out a ha]; simp [hp]) (h a W ha hl)
theorem Cx.cond_df {p : Prop} [Decidable p] [hx : Ev N E x (.bool (decide p))] (hp : ¬ p := by first | assumption | omega) (h : Cx P W0 N c2 E l Q) : Cx P W0 N (.cond x c1 c2) E l Q := fun a W ha hl =>
  wp_cond_false (by rw [hx.out a ha]; simp [hp]) (h a W ha hl)
theorem Cx.cond_b {b : Bool} [hx : Ev N E x (.bool b)] (h1 : b = true → Cx P W0 N c1 E l Q) (h2 : b = false → Cx P W0 N c2 E l Q) : Cx P W0 N (.cond x c1 c2) E l Q := fun a W ha hl =>
  wp_cond_split (hx.out a ha) (fun h => h1 h a W ha hl) (fun h => h2 h a W ha hl)
theorem Kx.nx (h : Cx P W0 N c E l Q) : Kx W0 N .normal E l (Exit.then (c.wp P Q) Q) := fun a W ha hl => h a W ha hl
/-- n is among ns. -/
class MemN (n : Nat) (ns : List Nat) : Prop where
  out : True
instance {n : Nat} {ns : List Nat} : MemN n (n :: ns) := ⟨trivial⟩
instance (priority := 500) {n m : Nat} {ns : List Nat} [MemN n ns] : MemN n (m :: ns) := ⟨trivial⟩
/-- Of E, what is told of the slots ns. -/
class FilE (E : List (Nat × Value)) (ns : List Nat) (E' : outParam (List (Nat × Value))) : Prop where
  out : Pk E E'
instance {ns : List Nat} : FilE [] ns [] := ⟨.n⟩
instance (priority := 1500) {t : Nat} {v : Value} {ns : List Nat} {E E' : List (Nat × Value)} [MemN t ns] [h : FilE E ns E'] : FilE ((t, v) :: E) ns ((t, v) :: E') := ⟨.t h.out⟩
instance (priority := 500) {p : Nat × Value} {ns : List Nat} {E E' : List (Nat × Value)} [h : FilE E ns E'] : FilE (p :: E) ns E' := ⟨.s h.out⟩
theorem Kx.nxk (ns : List Nat) {E' : List (Nat × Value)} [hk : FilE E ns E'] (h : Cx P W0 N c E' l Q) : Kx W0 N .normal E l (Exit.then (c.wp P Q) Q) := fun a W ha hl => h a W (ha.pick hk.out) hl
theorem Kx.then_x {n : Nat} (h : Kx W0 N (.exit n) E l Q) : Kx W0 N (.exit n) E l (Exit.then next Q) := fun a W ha hl => h a W ha hl
theorem Kx.then_r (h : Kx W0 N .ret E l Q) : Kx W0 N .ret E l (Exit.then next Q) := fun a W ha hl => h a W ha hl
theorem Kx.block_n (h : Kx W0 N .normal E l Q) : Kx W0 N .normal E l (Exit.inBlock id Q) := fun a W ha hl => h a W ha hl
theorem Kx.block_r (h : Kx W0 N .ret E l Q) : Kx W0 N .ret E l (Exit.inBlock id Q) := fun a W ha hl => h a W ha hl
theorem Kx.block_x (h : Kx W0 N .normal E l Q) : Kx W0 N (.exit id) E l (Exit.inBlock id Q) := fun a W ha hl => by
  show (if id = id then Q .normal a W else Q (.exit id) a W)
  rw [if_pos rfl]; exact h a W ha hl
theorem Kx.block_y {n : Nat} (hne : n ≠ id := by decide) (h : Kx W0 N (.exit n) E l Q) : Kx W0 N (.exit n) E l (Exit.inBlock id Q) := fun a W ha hl => by
  show (if n = id then Q .normal a W else Q (.exit n) a W)
  rw [if_neg hne]; exact h a W ha hl
theorem Cx.pure {c : Code} {φ : Prop} (h : φ → Cx P W0 N c E l Q) (k : ∀ W, Sat W0 l W → φ) : Cx P W0 N c E l Q := fun a W ha hl => h (k W hl) a W ha hl
theorem Sx.pure {φ : Prop} (k : ∀ W, Sat W0 l W → φ) (h : φ → Sx P W0 N ops rest E l Q) : Sx P W0 N ops rest E l Q := fun a W ha hl => h (k W hl) a W ha hl
/-- What is to be shown that E tells all that E' tells. -/
class LkE (N : Nat) (E E' : List (Nat × Value)) (p : outParam Prop) : Prop where
  out : p → ∀ a, Env N a E → Env N a E'
instance {E : List (Nat × Value)} : LkE N E [] True := ⟨fun _ a h => ⟨h.size, h.defers, fun p hp => by simp at hp⟩⟩
instance {E E' : List (Nat × Value)} {t : Nat} {v w : Value} {p : Prop} [h1 : Ev N E (.tmp t) w] [h2 : LkE N E E' p] : LkE N E ((t, v) :: E') (w = v ∧ p) := ⟨fun hp a ha => by
  obtain ⟨rfl, hp⟩ := hp
  have h3 := h2.out hp a ha
  have hv := h1.out a ha
  refine ⟨h3.size, h3.defers, fun q hq => ?_⟩
  rcases List.mem_cons.1 hq with rfl | hq
  · -- the slot is there: else its value would be nothing's
    have := h1.get a ha
    exact this
  · exact h3.get q hq⟩
/-- A loop: S are its states. -/
theorem Cx.loop {S : Type} (I : S → Prop) (Es : S → List (Nat × Value)) (ls : S → List HP) (μ : S → Nat) (s0 : S) (i0 : I s0) {p0 : Prop} [hp0 : LkE N E (Es s0) p0] (e0 : p0) (k0 : ∀ W, Sat W0 l W → Sat W0 (ls s0) W)
    (round : ∀ s, I s → Cx P W0 N c (Es s) (ls s) (Exit.then (fun a W => ∃ s', I s' ∧ μ s' < μ s ∧ Env N a (Es s') ∧ Sat W0 (ls s') W) Q)) : Cx P W0 N (.loop c) E l Q := fun a W ha hl => by
  -- the state is chosen along the run: one loop for each start
  intro b k cs
  have key : ∀ n s a w, μ s = n → I s → Env N a (Es s) → Sat W0 (ls s) w → ∃ e a' w', Q e a' w' ∧ Arrives P (lone (b.at a (.code c :: .inLoop c :: k)) cs w) b k cs e a' w' := by
    intro n
    induction n using Nat.strongRecOn with
    | _ n ih =>
      intro s a w hn hI hE hS
      obtain ⟨e, a1, w1, hq, harr⟩ := round s hI a w hE hS b (.inLoop c :: k) cs
      cases e with
      | normal =>
        obtain ⟨s', hI', hμ, hE', hS'⟩ := hq
        obtain ⟨e2, a2, w2, hq2, harr2⟩ := ih (μ s') (by omega) s' a1 w1 rfl hI' hE' hS'
        exact ⟨e2, a2, w2, hq2, .of_steps (Steps.trans harr (.one step_inLoop)) harr2⟩
      | exit id => exact ⟨_, a1, w1, hq, .pass (x := .inLoop c) rfl (fun _ _ => .inl (by simp)) harr⟩
      | goto l => exact ⟨_, a1, w1, hq, .pass (x := .inLoop c) rfl (fun _ _ => .inl (by simp)) harr⟩
      | ret => exact ⟨_, a1, w1, hq, .pass (x := .inLoop c) rfl (fun _ _ => .inl (by simp)) harr⟩
      | panic ch => exact ⟨_, a1, w1, hq, .pass (x := .inLoop c) rfl (fun _ _ => .inl (by simp)) harr⟩
      | outgrown => exact ⟨_, a1, w1, hq, .pass (x := .inLoop c) rfl (fun _ _ => .inl (by simp)) harr⟩
  obtain ⟨e, a', w', q, r⟩ := key _ s0 a W rfl i0 (hp0.out e0 a ha) (k0 W hl)
  exact ⟨e, a', w', q, .of_steps (.one step_loop) r⟩
theorem Kx.round {S : Type} {I : S → Prop} {Es : S → List (Nat × Value)} {ls : S → List HP} {μ : S → Nat} {m : Nat} (s' : S) {p : Prop} [hp : LkE N E (Es s') p] (h : I s' ∧ μ s' < m) (hE : p) (hl : ∀ W, Sat W0 l W → Sat W0 (ls s') W) :
    Kx W0 N .normal E l (Exit.then (fun a W => ∃ s', I s' ∧ μ s' < m ∧ Env N a (Es s') ∧ Sat W0 (ls s') W) Q) := fun a W ha hs => ⟨s', h.1, h.2, hp.out hE a ha, hl W hs⟩
/-- Code, and what follows: what is known between them. -/
theorem Cx.cut {S : Type} (I : S → Prop) (Es : S → List (Nat × Value)) (ls : S → List HP) (h1 : Cx P W0 N c1 E l (Exit.then (fun a W => ∃ s, I s ∧ Env N a (Es s) ∧ Sat W0 (ls s) W) Q))
    (h2 : ∀ s, I s → Cx P W0 N c2 (Es s) (ls s) Q) : Cx P W0 N (.seq c1 c2) E l Q := fun a W ha hl => by
  refine wp_seq (wp_mono (h1 a W ha hl) fun e a w h => ?_)
  cases e with
  | normal => obtain ⟨s, hI, hE, hS⟩ := h; exact h2 s hI a w hE hS
  | _ => exact h
theorem Kx.meet {S : Type} {I : S → Prop} {Es : S → List (Nat × Value)} {ls : S → List HP} (s : S) (h : I s) {p : Prop} [hp : LkE N E (Es s) p] (hE : p) (hl : ∀ W, Sat W0 l W → Sat W0 (ls s) W) :
    Kx W0 N .normal E l (Exit.then (fun a W => ∃ s, I s ∧ Env N a (Es s) ∧ Sat W0 (ls s) W) Q) := fun a W ha hs => ⟨s, h, hp.out hE a ha, hl W hs⟩

/-! ### a function -/
variable {fn : Func} {F : HP}
/-- The first slots. -/
def params : Nat → List Value → List (Nat × Value)
  | _, [] => []
  | i, v :: vs => (i, v) :: params (i + 1) vs
theorem params_mem : ∀ (vs : List Value) (i : Nat) (p : Nat × Value), p ∈ params i vs → i ≤ p.1 ∧ vs[p.1 - i]? = some p.2
  | [], i, p, h => by simp [params] at h
  | v :: vs, i, p, h => by
    simp only [params, List.mem_cons] at h
    rcases h with rfl | h
    · simp
    · obtain ⟨h1, h2⟩ := params_mem vs (i + 1) p h
      refine ⟨by omega, ?_⟩
      rw [show p.1 - i = (p.1 - (i + 1)) + 1 by omega]; simpa using h2
def RetP (W0 : World) (φ : X → Prop) (fv : X → Value) (fl : X → List HP) (F : HP) : Ending → World → Prop := fun e W' => ∃ x, φ x ∧ e = .returned (fv x) ∧ Sat W0 (apd (fl x) [F]) W'
class ParE (vs : List Value) (E : outParam (List (Nat × Value))) : Prop where
  out : params 0 vs = E
instance : ParE [] [] := ⟨rfl⟩
instance {v0 : Value} : ParE [v0] [(0, v0)] := ⟨rfl⟩
instance {v0 v1 : Value} : ParE [v0, v1] [(0, v0), (1, v1)] := ⟨rfl⟩
instance {v0 v1 v2 : Value} : ParE [v0, v1, v2] [(0, v0), (1, v1), (2, v2)] := ⟨rfl⟩
instance {v0 v1 v2 v3 : Value} : ParE [v0, v1, v2, v3] [(0, v0), (1, v1), (2, v2), (3, v3)] := ⟨rfl⟩
instance {v0 v1 v2 v3 v4 : Value} : ParE [v0, v1, v2, v3, v4] [(0, v0), (1, v1), (2, v2), (3, v3), (4, v4)] := ⟨rfl⟩
instance {v0 v1 v2 v3 v4 v5 : Value} : ParE [v0, v1, v2, v3, v4, v5] [(0, v0), (1, v1), (2, v2), (3, v3), (4, v4), (5, v5)] := ⟨rfl⟩
instance {v0 v1 v2 v3 v4 v5 v6 : Value} : ParE [v0, v1, v2, v3, v4, v5, v6] [(0, v0), (1, v1), (2, v2), (3, v3), (4, v4), (5, v5), (6, v6)] := ⟨rfl⟩
instance {v0 v1 v2 v3 v4 v5 v6 v7 : Value} : ParE [v0, v1, v2, v3, v4, v5, v6, v7] [(0, v0), (1, v1), (2, v2), (3, v3), (4, v4), (5, v5), (6, v6), (7, v7)] := ⟨rfl⟩
instance {v0 v1 v2 v3 v4 v5 v6 v7 v8 : Value} : ParE [v0, v1, v2, v3, v4, v5, v6, v7, v8] [(0, v0), (1, v1), (2, v2), (3, v3), (4, v4), (5, v5), (6, v6), (7, v7), (8, v8)] := ⟨rfl⟩
instance {v0 v1 v2 v3 v4 v5 v6 v7 v8 v9 : Value} : ParE [v0, v1, v2, v3, v4, v5, v6, v7, v8, v9] [(0, v0), (1, v1), (2, v2), (3, v3), (4, v4), (5, v5), (6, v6), (7, v7), (8, v8), (9, v9)] := ⟨rfl⟩
instance {v0 v1 v2 v3 v4 v5 v6 v7 v8 v9 v10 : Value} : ParE [v0, v1, v2, v3, v4, v5, v6, v7, v8, v9, v10] [(0, v0), (1, v1), (2, v2), (3, v3), (4, v4), (5, v5), (6, v6), (7, v7), (8, v8), (9, v9), (10, v10)] := ⟨rfl⟩
instance {v0 v1 v2 v3 v4 v5 v6 v7 v8 v9 v10 v11 : Value} : ParE [v0, v1, v2, v3, v4, v5, v6, v7, v8, v9, v10, v11] [(0, v0), (1, v1), (2, v2), (3, v3), (4, v4), (5, v5), (6, v6), (7, v7), (8, v8), (9, v9), (10, v10), (11, v11)] := ⟨rfl⟩
theorem Ct.enter (hfn : P.funcs[f]? = some fn) (hn : fn.ntmps = N) {E : List (Nat × Value)} {l1 l2 : HP → List HP} [hE : ParE vs E] (hb : fn.body = some c := by rfl) (hN : vs.length ≤ N := by exact Nat.le_of_ble_eq_true rfl) [hl1 : ∀ F, Ap own [F] (l1 F)] [hl2 : ∀ F, Ap pers (l1 F) (l2 F)] (h : ∀ W0 F, Cx P W0 N c E (l2 F) (bodyPost P fn (RetP W0 φ fv fl F))) : Ct P f vs pers own φ fv fl := fun W0 W F hs => by
  rw [(hl1 F).out, (hl2 F).out] at hs
  refine calls_of_wp hfn hb (h W0 F _ W ⟨by simp [hn]; omega, rfl, fun p hp => ?_⟩ hs)
  rw [← hE.out] at hp
  obtain ⟨h1, h2⟩ := params_mem vs 0 p hp
  have h3 := (List.getElem?_eq_some_iff.1 h2).1
  simp only [Nat.sub_zero] at h2 h3
  rw [Array.getElem?_append_left (by simpa using h3)]
  simpa using h2
/-- A result. -/
def resOf (tmps : Array Value) : ResultVar → Sem Value
  | .tmp t => Pure.pure (tmps.getD t undef)
  | .cell a t => do loadVar t (← asAddr (tmps.getD a undef))
theorem results_eq (fn : Func) (tmps : Array Value) : results fn tmps = (do let vs ← fn.results.mapM (resOf tmps); Pure.pure (if h : vs.size = 1 then vs[0] else .tuple vs)) := by
  unfold results
  congr 2
class ResV (P : Program) (W0 : World) (N : Nat) (E : List (Nat × Value)) (l : List HP) (r : ResultVar) (v : outParam Value) : Prop where
  out : ∀ a W, Env N a E → Sat W0 l W → (resOf a.tmps r).run P W = .ok v W
theorem tmp_of {a : Act} {t : Nat} {v : Value} (h : Ev N E (.tmp t) v) (ha : Env N a E) : a.tmps.getD t undef = v := h.out a ha
instance {t : Nat} {v : Value} [h : Ev N E (.tmp t) v] : ResV P W0 N E l (.tmp t) v := ⟨fun a W ha _ => by simp only [resOf, tmp_of h ha]; rfl⟩
instance {t ty k j e : Nat} {cs : List Value} {v : Value} [h : Ev N E (.tmp t) (.pointer (some ⟨k, j, none⟩))] [ht : Sc P ty] [hc : FCel l k cs e] [hv : Nth cs j v] : ResV P W0 N E l (.cell t ty) v := ⟨fun a W ha hl => by
  have hcell : W.cell? ⟨k, j, none⟩ = some v := (blkc (hc.out W0 W hl) j).trans hv.out
  simp [resOf, tmp_of h ha, asAddr, loadVar, ht.agg, Go.load, Sem.run, hcell]⟩
instance {t ty k j e n : Nat} {cs us : List Value} [h : Ev N E (.tmp t) (.pointer (some ⟨k, j, none⟩))] [ht : Ag P ty n] [hc : FCel l k cs e] [hv : Seg cs j n us] : ResV P W0 N E l (.cell t ty) (.agg us.toArray) := ⟨fun a W ha hl => by
  obtain ⟨hus, hn⟩ := hv.out
  have hl' : us.length = n := by rw [← hus]; simp; omega
  have hr : (loadCells ⟨k, j, none⟩ n).run P W = .ok us.toArray W := by
    rw [← hl']
    refine run_loadN fun i u hi => ?_
    rw [addr_add, blkc (hc.out W0 W hl)]
    rw [← hus, List.getElem?_take, List.getElem?_drop] at hi
    split at hi
    · exact hi
    · cases hi
  simp [resOf, tmp_of h ha, asAddr, loadVar, ht.agg, run_sizeOf ht.size, hr]⟩
theorem Kx.ret_of (hr : ∀ a W, Env N a E → Sat W0 l W → ∃ v, (results fn a.tmps).run P W = .ok v W ∧ ∃ x, φ x ∧ v = fv x ∧ Sat W0 (apd (fl x) [F]) W) : Kx W0 N .ret E l (bodyPost P fn (RetP W0 φ fv fl F)) := fun a W ha hl => by
  obtain ⟨v, h1, x, h2, rfl, h3⟩ := hr a W ha hl
  exact ⟨ha.defers, _, h1, x, h2, rfl, h3⟩
theorem Kx.end_ (h : Kx W0 N .ret E l (bodyPost P fn (RetP W0 φ fv fl F))) : Kx W0 N .normal E l (bodyPost P fn (RetP W0 φ fv fl F)) := fun a W ha hl => h a W ha hl
theorem getD_of {a : Act} {t : Nat} {v : Value} (h : Ev N E (.tmp t) v) (ha : Env N a E) : a.tmps[t]?.getD undef = v := by
  have := h.out a ha
  simpa [Act.eval, Array.getD_eq_getD_getElem?] using this
variable {l2 : List HP}
theorem Kx.ret0 (hres : fn.results = #[]) (x : X) (hx : φ x) (hv : Value.tuple #[] = fv x) [ha2 : Ap (fl x) [F] l2] [hp : PicksT l l2 r] : Kx W0 N .ret E l (bodyPost P fn (RetP W0 φ fv fl F)) :=
  Kx.ret_of fun a W ha hs => ⟨_, by simp [results, hres], x, hx, hv, by rw [ha2.out]; exact hs.sub⟩
theorem Kx.ret1 {t : ResultVar} {v : Value} (hres : fn.results = #[t]) [h1 : ResV P W0 N E l t v] (x : X) (hx : φ x) (hv : v = fv x) [ha2 : Ap (fl x) [F] l2] [hp : PicksT l l2 r] : Kx W0 N .ret E l (bodyPost P fn (RetP W0 φ fv fl F)) :=
  Kx.ret_of fun a W ha hs => ⟨v, by rw [results_eq, hres]; simp [h1.out a W ha hs], x, hx, hv, by rw [ha2.out]; exact hs.sub⟩
theorem Kx.ret2 {t u : ResultVar} {v w : Value} (hres : fn.results = #[t, u]) [h1 : ResV P W0 N E l t v] [h2 : ResV P W0 N E l u w] (x : X) (hx : φ x) (hv : .tuple #[v, w] = fv x) [ha2 : Ap (fl x) [F] l2] [hp : PicksT l l2 r] : Kx W0 N .ret E l (bodyPost P fn (RetP W0 φ fv fl F)) :=
  Kx.ret_of fun a W ha hs => ⟨.tuple #[v, w], by rw [results_eq, hres]; simp [h1.out a W ha hs, h2.out a W ha hs], x, hx, hv, by rw [ha2.out]; exact hs.sub⟩
theorem Kx.ret3 {t u s : ResultVar} {v w z : Value} (hres : fn.results = #[t, u, s]) [h1 : ResV P W0 N E l t v] [h2 : ResV P W0 N E l u w] [h3 : ResV P W0 N E l s z] (x : X) (hx : φ x) (hv : .tuple #[v, w, z] = fv x) [ha2 : Ap (fl x) [F] l2] [hp : PicksT l l2 r] : Kx W0 N .ret E l (bodyPost P fn (RetP W0 φ fv fl F)) :=
  Kx.ret_of fun a W ha hs => ⟨.tuple #[v, w, z], by rw [results_eq, hres]; simp [h1.out a W ha hs, h2.out a W ha hs, h3.out a W ha hs], x, hx, hv, by rw [ha2.out]; exact hs.sub⟩

/-! ### regions that draw their order -/
def lk : List (Nat × Value) → Nat → Option Value
  | [], _ => none
  | p :: E, t => match Nat.beq p.1 t with
    | true => some p.2
    | false => lk E t
theorem lk_mem : ∀ {E : List (Nat × Value)} {t : Nat} {v : Value}, lk E t = some v → (t, v) ∈ E
  | [], t, v, h => by simp [lk] at h
  | p :: E, t, v, h => by
    unfold lk at h
    split at h
    · rename_i hb
      injection h with h
      have := Nat.eq_of_beq_eq_true hb
      subst this h
      exact List.mem_cons_self
    · exact List.mem_cons_of_mem _ (lk_mem h)
def evE (E : List (Nat × Value)) : Operand → Value
  | .tmp t => (lk E t).getD undef
  | .const v => v
  | .global g => .pointer (some ⟨g, 0, none⟩)
  | .func f => .func (.func f) #[] #[]
def knE (E : List (Nat × Value)) : Operand → Bool
  | .tmp t => (lk E t).isSome
  | _ => true
def offE (os : List Oper) (E : List (Nat × Value)) (o : Oper) : Bool := match o.guard with
  | some (j, w) => match (os[j]?).bind (·.dst) with
    | some t => match lk E t with
      | some (.bool b) => b != w
      | _ => false
    | none => false
  | none => false
def rtVE (os : List Oper) (E : List (Nat × Value)) : Bool := os.all fun o => !Rt.looked o || offE os E o || (o.op.operands.all (knE E) && Rt.valsOk o (evE E))
theorem ev_lk {a : Act} (ha : Env N a E) {x : Operand} (hk : knE E x = true) : a.eval x = evE E x := by
  cases x with
  | tmp t =>
    simp only [knE] at hk
    cases h : lk E t with
    | none => rw [h] at hk; cases hk
    | some v =>
      have := ha.get _ (lk_mem h)
      simp only at this
      simp [evE, h, Act.eval, Array.getD_eq_getD_getElem?, this]
  | _ => rfl
theorem vals_ev {o : Oper} {ev ev' : Operand → Value} (h : ∀ x ∈ o.op.operands, ev x = ev' x) (hl : Rt.looked o = true) : Rt.valsOk o ev = Rt.valsOk o ev' := by
  obtain ⟨dst, op, type, pos, after, guard⟩ := o
  cases op <;> simp only [Rt.looked] at hl <;> first | (cases hl; done) | skip
  case nilCheck x => simp only [Rt.valsOk]; rw [h x (by simp [Op.operands])]
  case binOp op t x y yt => simp only [Rt.valsOk]; rw [h x (by simp [Op.operands]), h y (by simp [Op.operands])]
  case convert s d x => simp only [Rt.valsOk]; rw [h x (by simp [Op.operands])]
  case call c =>
    simp only [Rt.valsOk]
    cases hx : c.args[0]? with
    | none => cases hc : c.callee <;> simp_all
    | some x =>
      have hm : x ∈ c.operands := by simp only [Call.operands]; exact Array.mem_append.2 (.inr (Array.mem_of_getElem? hx))
      have e := h x (by simpa [Op.operands] using hm)
      cases hcl : c.callee with
      | builtin b => cases b <;> simp only [] <;> first | rw [e] | rfl
      | _ => rfl
theorem rtV_of {a : Act} {os : List Oper} (ha : Env N a E) (h : rtVE os E = true) : Rt.rtV os a = true := by
  simp only [rtVE, List.all_eq_true] at h
  simp only [Rt.rtV, List.all_eq_true]
  intro o ho
  have h := h o ho
  simp only [Bool.or_eq_true, Bool.and_eq_true, Bool.not_eq_true'] at h ⊢
  rcases h with (h | h) | ⟨h1, h2⟩
  · exact .inl (.inl h)
  · refine .inl (.inr ?_)
    unfold offE at h
    cases hg : o.guard with
    | none => rw [hg] at h; cases h
    | some g =>
      obtain ⟨j, w⟩ := g
      rw [hg] at h
      simp only at h
      cases hd : (os[j]?).bind (·.dst) with
      | none => rw [hd] at h; cases h
      | some t =>
        rw [hd] at h
        simp only at h
        cases hb : lk E t with
        | none => rw [hb] at h; cases h
        | some v =>
          rw [hb] at h
          cases v <;> simp at h
          rename_i b
          have hget := ha.get _ (lk_mem hb)
          simp only at hget
          simp only [Region.wanted, hg]
          have : yielded os.toArray a.tmps j = some b := by
            unfold yielded
            rw [List.getElem?_toArray, hd]
            simp [hget]
          rw [this]
          cases b <;> cases w <;> simp_all
  · cases hl : Rt.looked o with
    | false => exact .inl (.inl rfl)
    | true =>
      refine .inr ?_
      rw [vals_ev (ev' := evE E) (fun x hx => ev_lk ha (Array.all_eq_true'.1 h1 x hx)) hl]; exact h2
theorem Cx.regionD {os : List Oper} (hm : P.follows .mixedOrders = true := by kernel_rfl) (hB : Rt.rtB P 0 os = true := by kernel_rfl) (h : Sx P W0 N os.toArray os E l (Rt.Post os Q)) : Cx P W0 N (.region id os.toArray true) E l Q := fun a W ha hl =>
  Rt.region hm hB (h a W.drew ha (hl.below (belowD W)))
theorem Kx.post {os : List Oper} (hv : rtVE os E = true := by kernel_rfl) (h : Kx W0 N .normal E l Q) : Kx W0 N .normal E l (Rt.Post os Q) := fun a W ha hl => ⟨rfl, rtV_of ha hv, h a W ha hl⟩
theorem Sx.mk (h : ∀ a W, Env N a E → Sat W0 l W → wpList P ops Q rest a W) : Sx P W0 N ops rest E l Q := h
theorem Sx.out (h : Sx P W0 N ops rest E l Q) : ∀ a W, Env N a E → Sat W0 l W → wpList P ops Q rest a W := h
theorem Cx.mk (h : ∀ a W, Env N a E → Sat W0 l W → c.wp P Q a W) : Cx P W0 N c E l Q := h
theorem Cx.out (h : Cx P W0 N c E l Q) : ∀ a W, Env N a E → Sat W0 l W → c.wp P Q a W := h
theorem Kx.mk {e : Exit} (h : ∀ a W, Env N a E → Sat W0 l W → Q e a W) : Kx W0 N e E l Q := h
theorem Kx.out {e : Exit} (h : Kx W0 N e E l Q) : ∀ a W, Env N a E → Sat W0 l W → Q e a W := h
theorem Ct.mk (h : ∀ (W0 W : World) (F : HP), Sat W0 (apd pers (apd own [F])) W → Calls P f vs.toArray W fun e W' => ∃ x, φ x ∧ e = .returned (fv x) ∧ Sat W0 (apd (fl x) [F]) W') : Ct P f vs pers own φ fv fl := h
theorem Ct.out (h : Ct P f vs pers own φ fv fl) : ∀ (W0 W : World) (F : HP), Sat W0 (apd pers (apd own [F])) W → Calls P f vs.toArray W fun e W' => ∃ x, φ x ∧ e = .returned (fv x) ∧ Sat W0 (apd (fl x) [F]) W' := h
end


/-- A slice's head. -/
structure Sl where
  a : Option Addr
  n : Nat
  c : Nat
  deriving Inhabited
def yi (k : IntKind) : Ky Int := { sz := 1, enc := fun n => [.int k n], len := fun _ => rfl, one := fun n => (inferInstance : Ones [.int k n]).out, pos := by decide }
def yb : Ky Bool := { sz := 1, enc := fun b => [.bool b], len := fun _ => rfl, one := fun b => (inferInstance : Ones [.bool b]).out, pos := by decide }
def ys : Ky ByteArray := { sz := 1, enc := fun b => [.string b], len := fun _ => rfl, one := fun b => (inferInstance : Ones [.string b]).out, pos := by decide }
def ysl : Ky Sl := { sz := 1, enc := fun s => [.slice s.a s.n s.c], len := fun _ => rfl, one := fun s => (inferInstance : Ones [.slice s.a s.n s.c]).out, pos := by decide }
def yp : Ky (Option Addr) := { sz := 1, enc := fun p => [.pointer p], len := fun _ => rfl, one := fun p => (inferInstance : Ones [.pointer p]).out, pos := by decide }
instance {k} : EncAt (yi k) 0 (fun n => .int k n) := ⟨fun _ => rfl⟩
instance {k n} : EncPut (yi k) 0 [.int k n] (fun _ => n) := ⟨fun _ => ⟨rfl, Nat.le_of_ble_eq_true rfl⟩⟩
instance {k n} : EncOf (yi k) (.int k n) n := ⟨rfl⟩
instance : EncAt yb 0 (fun b => .bool b) := ⟨fun _ => rfl⟩
instance {b} : EncPut yb 0 [.bool b] (fun _ => b) := ⟨fun _ => ⟨rfl, Nat.le_of_ble_eq_true rfl⟩⟩
instance {b} : EncOf yb (.bool b) b := ⟨rfl⟩
instance : EncAt ys 0 (fun b => .string b) := ⟨fun _ => rfl⟩
instance {b} : EncPut ys 0 [.string b] (fun _ => b) := ⟨fun _ => ⟨rfl, Nat.le_of_ble_eq_true rfl⟩⟩
instance {b} : EncOf ys (.string b) b := ⟨rfl⟩
instance : EncAt ysl 0 (fun s => .slice s.a s.n s.c) := ⟨fun _ => rfl⟩
instance {a n c} : EncPut ysl 0 [.slice a n c] (fun _ => ⟨a, n, c⟩) := ⟨fun _ => ⟨rfl, Nat.le_of_ble_eq_true rfl⟩⟩
instance {a n c} : EncOf ysl (.slice a n c) ⟨a, n, c⟩ := ⟨rfl⟩
instance : EncAt yp 0 (fun p => .pointer p) := ⟨fun _ => rfl⟩
instance {p} : EncPut yp 0 [.pointer p] (fun _ => p) := ⟨fun _ => ⟨rfl, Nat.le_of_ble_eq_true rfl⟩⟩
instance {p} : EncOf yp (.pointer p) p := ⟨rfl⟩

/-! ### rows of rows; what is new in a world -/
/-- Slices' heads, and what they are of. -/
def irows {α : Type} (K : Ky α) (hs : List Sl) (xss : List (List α)) : HP :=
  ps (fun im => hs.length = xss.length ∧ ∀ (i : Nat) (s : Sl) (xs : List α), hs[i]? = some s → xss[i]? = some xs → s.n = xs.length ∧ s.n ≤ s.c ∧ (irow K s.a xs).p im (fun _ => none)) fun hi ⟨h1, h2⟩ => ⟨h1, fun i s xs a b => ⟨(h2 i s xs a b).1, (h2 i s xs a b).2.1, (irow K s.a xs).mono hi (h2 i s xs a b).2.2⟩⟩
instance {α : Type} {K : Ky α} {hs xss} : Pers (irows K hs xss) := inferInstanceAs (Pers (ps _ _))
theorem irows_len {α : Type} {K : Ky α} {hs : List Sl} {xss : List (List α)} {W0 W : World} {l : List HP} [h : HasP l (irows K hs xss)] (hl : Sat W0 l W) : hs.length = xss.length := by
  obtain ⟨r, f⟩ := h.out
  obtain ⟨im, h1, h2⟩ := Sat.ps_mem (hl.foc f)
  exact h2.1
theorem irows_at {α : Type} [Inhabited α] {K : Ky α} (hs : List Sl) (xss : List (List α)) {W0 W : World} {l : List HP} [h : HasP l (irows K hs xss)] (i : Int) (h0 : 0 ≤ i) (h1 : i < xss.length) (hl : Sat W0 l W) : ((gt hs i).n = (gt xss i).length ∧ (gt hs i).n ≤ (gt hs i).c) ∧ Sat W0 (irow K (gt hs i).a (gt xss i) :: l) W := by
  obtain ⟨r, f⟩ := h.out
  haveI := h.pers
  have hd := Sat.dup_of hl f
  have hlen := irows_len (K := K) (hs := hs) (xss := xss) hl
  have e1 := gt_get (xs := hs) h0 (by omega)
  have e2 := gt_get (xs := xss) h0 h1
  refine ⟨?_, hd.imp fun im g s => ?_⟩
  · obtain ⟨im, _, h2⟩ := Sat.ps_mem hd
    exact ⟨(h2.2 _ _ _ e1 e2).1, (h2.2 _ _ _ e1 e2).2.1⟩
  · obtain ⟨g1, g2, d1, e3, a, s⟩ := s
    exact ⟨g1, g2, d1, e3, (a.2 _ _ _ e1 e2).2.2, s⟩
/-- All blocks of W' from B on stand for ever. -/
def newAll (B : Nat) (W' : World) : HP := ps (fun im => ∀ k o, B ≤ k → W'.heap[k]? = some o → im k = some o) fun hi h k o a b => hi _ _ (h k o a b)
instance {B W'} : Pers (newAll B W') := inferInstanceAs (Pers (ps _ _))
theorem Sat.grow {W0 W W' : World} {r : List HP} (h : Sat W0 r W) (hb : Below W.heap.size W W') : Sat W0 (newAll W.heap.size W' :: r) W' := by
  obtain ⟨im, g, h1, h2, h3, s⟩ := h.get
  have key : ∀ k o, W.heap[k]? = some o → W'.heap[k]? = some o := fun k o hk => (hb.block k (Array.getElem?_eq_some_iff.1 hk).1).trans hk
  have hlt : ∀ k o, W.heap[k]? = some o → ¬ W.heap.size ≤ k := fun k o hk => by have := (Array.getElem?_eq_some_iff.1 hk).1; omega
  have hmono : ∀ k o, im k = some o → (if W.heap.size ≤ k then W'.heap[k]? else im k) = some o := fun k o hk => by rw [if_neg (hlt k o (h2 k o hk).1)]; exact hk
  refine ⟨hb.os.trans h.os, hb.tape.trans h.tape, hb.output.trans h.output, fun k => if W.heap.size ≤ k then W'.heap[k]? else im k, g, fun k o hk => hmono k o (h1 k o hk), fun k o hk => ?_, fun k o hk => key k o (h3 k o hk), fun _ => none, g, fun _ => .inl rfl, funext fun _ => rfl, fun k o hk ho => by simp only; rw [if_pos hk]; exact ho, sep_mono hmono s⟩
  simp only at hk
  split at hk
  · rename_i hge
    refine ⟨hk, ?_⟩
    cases e : g k with
    | none => rfl
    | some x => exact absurd hge (hlt k x (h3 k x e))
  · exact ⟨key k o (h2 k o hk).1, (h2 k o hk).2⟩
theorem irow_new {α : Type} {K : Ky α} {A : Option Addr} {xs : List α} {B : Nat} {W' : World} {im : Hp} (hi : ∀ k o, B ≤ k → W'.heap[k]? = some o → im k = some o) (hr : RowAt W' K A xs) (hA : ∀ a, A = some a → B ≤ a.block) {h : Hp} : (irow K A xs).p im h := fun i x hx => by
  obtain ⟨a, hAe, hc⟩ := hr i x hx
  refine ⟨a, hAe, fun j u hu => ?_⟩
  have h1 := hc j u hu
  have hbl : (a.add (i * K.sz + j)).block = a.block := by unfold Addr.add; split <;> rfl
  have hB := hA a hAe
  rw [← hbl] at hB
  generalize a.add (i * K.sz + j) = b at *
  unfold World.cell? at h1
  split at h1
  · rename_i c e fr hb
    split at h1
    · cases h1
    · rename_i hs
      exact ⟨by simpa using hs, c, e, fr, hi _ _ hB hb, h1⟩
  · cases h1
attribute [irreducible] Sx Cx Kx Ct eaddr eoff
end Go.Se
