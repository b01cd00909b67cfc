/-
  What is owned, and what stands for ever: an algebra of assertions on memory (blocks that are owned, one by one; blocks that nobody writes any more), met by a world.
  Conditions: as each lemma states them.
-/
import Derived.Test.YtaeacdnefklakaaRt
namespace Go.Se
open Go.RowKit
set_option linter.unusedVariables false

abbrev Hp := Nat → Option Obj
/-- An assertion: of what stands for ever (im), and of what is owned (h). -/
structure HP where
  p : Hp → Hp → Prop
  mono : ∀ {im im' h}, (∀ k o, im k = some o → im' k = some o) → p im h → p im' h

def Dis (h1 h2 : Hp) : Prop := ∀ k, h1 k = none ∨ h2 k = none
def un (h1 h2 : Hp) : Hp := fun k => (h1 k).or (h2 k)
def sep : List HP → Hp → Hp → Prop
  | [], _, _ => True
  | A :: l, im, h => ∃ h1 h2, Dis h1 h2 ∧ h = un h1 h2 ∧ A.p im h1 ∧ sep l im h2

theorem Dis.comm {h1 h2 : Hp} (d : Dis h1 h2) : Dis h2 h1 := fun k => (d k).symm
theorem un_comm {h1 h2 : Hp} (d : Dis h1 h2) : un h1 h2 = un h2 h1 := funext fun k => by
  unfold un
  rcases d k with h | h <;> rw [h] <;> cases h1 k <;> cases h2 k <;> simp_all
theorem un_assoc (h1 h2 h3 : Hp) : un (un h1 h2) h3 = un h1 (un h2 h3) := funext fun k => by
  unfold un
  cases h1 k <;> simp
theorem dis_un {h1 h2 h3 : Hp} : Dis h1 (un h2 h3) ↔ Dis h1 h2 ∧ Dis h1 h3 := by
  constructor
  · intro d
    refine ⟨fun k => ?_, fun k => ?_⟩
    · rcases d k with h | h
      · exact .inl h
      · unfold un at h; cases h2k : h2 k <;> simp_all
    · rcases d k with h | h
      · exact .inl h
      · unfold un at h; cases h2k : h2 k <;> simp_all
  · rintro ⟨d1, d2⟩ k
    rcases d1 k with h | h
    · exact .inl h
    · rcases d2 k with h' | h'
      · exact .inl h'
      · exact .inr (by unfold un; rw [h, h']; rfl)
theorem un_some {h1 h2 : Hp} {k : Nat} {o : Obj} (h : un h1 h2 k = some o) : h1 k = some o ∨ h2 k = some o := by
  unfold un at h
  cases e : h1 k with
  | none => rw [e] at h; exact .inr (by simpa using h)
  | some x => rw [e] at h; exact .inl (by simpa using h)
theorem un_left {h1 h2 : Hp} {k : Nat} {o : Obj} (h : h1 k = some o) : un h1 h2 k = some o := by unfold un; rw [h]; rfl
theorem un_right {h1 h2 : Hp} (d : Dis h1 h2) {k : Nat} {o : Obj} (h : h2 k = some o) : un h1 h2 k = some o := by rw [un_comm d]; exact un_left h

theorem sep_mono {im im' : Hp} (hi : ∀ k o, im k = some o → im' k = some o) : ∀ {l : List HP} {h : Hp}, sep l im h → sep l im' h
  | [], _, _ => trivial
  | A :: l, _, ⟨h1, h2, d, e, a, s⟩ => ⟨h1, h2, d, e, A.mono hi a, sep_mono hi s⟩
theorem sep_swap {A B : HP} {l : List HP} {im h : Hp} (s : sep (A :: B :: l) im h) : sep (B :: A :: l) im h := by
  obtain ⟨h1, h23, d, rfl, a, h2, h3, d', rfl, b, s⟩ := s
  rw [dis_un] at d
  refine ⟨h2, un h1 h3, dis_un.2 ⟨d.1.comm, d'⟩, ?_, b, h1, h3, d.2, rfl, a, s⟩
  rw [← un_assoc, ← un_assoc, un_comm d.1]
theorem sep_cons {A : HP} {l l' : List HP} {im h : Hp} (hl : ∀ {h}, sep l im h → sep l' im h) (s : sep (A :: l) im h) : sep (A :: l') im h := by
  obtain ⟨h1, h2, d, e, a, s⟩ := s
  exact ⟨h1, h2, d, e, a, hl s⟩

/-- A is one of l; r are the others. -/
inductive Foc : List HP → HP → List HP → Prop
  | z {A r} : Foc (A :: r) A r
  | s {B l A r} : Foc l A r → Foc (B :: l) A (B :: r)
theorem Foc.to {l r : List HP} {A : HP} (f : Foc l A r) : ∀ {im h}, sep l im h → sep (A :: r) im h := by
  induction f with
  | z => exact fun s => s
  | s _ ih => exact fun s => sep_swap (sep_cons ih s)
theorem Foc.from {l r : List HP} {A : HP} (f : Foc l A r) : ∀ {im h}, sep (A :: r) im h → sep l im h := by
  induction f with
  | z => exact fun s => s
  | s _ ih => exact fun s => sep_cons ih (sep_swap s)
/-- l' is l with B in A's place. -/
inductive Upd : List HP → HP → HP → List HP → Prop
  | z {A B r} : Upd (A :: r) A B (B :: r)
  | s {C l A B l'} : Upd l A B l' → Upd (C :: l) A B (C :: l')
theorem Upd.foc {l l' : List HP} {A B : HP} (u : Upd l A B l') : ∃ r, Foc l A r ∧ Foc l' B r := by
  induction u with
  | z => exact ⟨_, .z, .z⟩
  | s _ ih => obtain ⟨r, h1, h2⟩ := ih; exact ⟨_, .s h1, .s h2⟩
/-- pre are among l; r are the others. -/
inductive Picks : List HP → List HP → List HP → Prop
  | n {l} : Picks l [] l
  | c {l A l1 pre r} : Foc l A l1 → Picks l1 pre r → Picks l (A :: pre) r
def apd : List HP → List HP → List HP
  | [], r => r
  | A :: l, r => A :: apd l r
theorem Picks.to {l pre r : List HP} (f : Picks l pre r) : ∀ {im h}, sep l im h → sep (apd pre r) im h := by
  induction f with
  | n => exact fun s => s
  | c f _ ih => exact fun s => sep_cons ih (f.to s)
theorem sep_apd : ∀ {l r : List HP} {im h : Hp}, sep (apd l r) im h ↔ ∃ h1 h2, Dis h1 h2 ∧ h = un h1 h2 ∧ sep l im h1 ∧ sep r im h2
  | [], r, im, h => by
    constructor
    · intro s
      exact ⟨fun _ => none, h, fun _ => .inl rfl, funext fun k => rfl, trivial, s⟩
    · rintro ⟨h1, h2, d, rfl, _, s⟩
      -- what h1 holds is let go: sep r holds of h2, and of more
      exact sep_more d.comm (un_comm d ▸ rfl) s
  | A :: l, r, im, h => by
    constructor
    · rintro ⟨h1, h2, d, rfl, a, s⟩
      obtain ⟨h3, h4, d', rfl, s1, s2⟩ := sep_apd.1 s
      rw [dis_un] at d
      exact ⟨un h1 h3, h4, Dis.comm (dis_un.2 ⟨d.2.comm, d'.comm⟩), (un_assoc _ _ _).symm, ⟨h1, h3, d.1, rfl, a, s1⟩, s2⟩
    · rintro ⟨h12, h4, d, rfl, ⟨h1, h3, d', rfl, a, s1⟩, s2⟩
      have d := d.comm
      rw [dis_un] at d
      exact ⟨h1, un h3 h4, dis_un.2 ⟨d', d.1.comm⟩, un_assoc _ _ _, a, sep_apd.2 ⟨h3, h4, d.2.comm, rfl, s1, s2⟩⟩
where
  sep_more : ∀ {l : List HP} {im h h' h2 : Hp}, Dis h h2 → h' = un h h2 → sep l im h → sep l im h' 
  | [], _, _, _, _, _, _, _ => trivial
  | A :: l, im, h, h', h2, d, e, ⟨g1, g2, d', e', a, s⟩ => by
    subst e e'
    have d := d.comm
    rw [dis_un] at d
    exact ⟨g1, un g2 h2, dis_un.2 ⟨d', d.1.comm⟩, un_assoc _ _ _, a, sep_more d.2.comm rfl s⟩

theorem belowD (W : World) : Below W.heap.size W W.drew := ⟨rfl, rfl, rfl, Nat.le_refl _, fun _ _ => rfl⟩
theorem belowA (W : World) (o : Obj) : Below W.heap.size W (W.alloc o) := (Below.refl _ _).alloc (Nat.le_refl _) o
theorem newA (W : World) (o : Obj) : (W.alloc o).heap[W.heap.size]? = some o := by unfold World.alloc; simp
theorem sizeD (W : World) : W.drew.heap.size = W.heap.size := rfl
/-- A world meets assertions; W0 is the world in which it began. -/
structure Sat (W0 : World) (l : List HP) (W : World) : Prop where
  os : W.os = W0.os
  tape : W.tape = W0.tape
  output : W.output = W0.output
  get : ∃ im h, (∀ k o, W0.heap[k]? = some o → im k = some o) ∧ (∀ k o, im k = some o → W.heap[k]? = some o ∧ h k = none) ∧ (∀ k o, h k = some o → W.heap[k]? = some o) ∧ sep l im h

section
variable {W0 W W' : World} {l l' r : List HP} {A B : HP} {k : Nat} {o : Obj}
theorem Sat.imp (h : Sat W0 l W) (hl : ∀ im h, sep l im h → sep l' im h) : Sat W0 l' W :=
  let ⟨im, g, h1, h2, h3, s⟩ := h.get
  ⟨h.os, h.tape, h.output, im, g, h1, h2, h3, hl _ _ s⟩
theorem Sat.foc (h : Sat W0 l W) (f : Foc l A r) : Sat W0 (A :: r) W := h.imp fun _ _ s => f.to s
theorem Sat.unfoc (h : Sat W0 (A :: r) W) (f : Foc l A r) : Sat W0 l W := h.imp fun _ _ s => f.from s
theorem Sat.picks {pre : List HP} (h : Sat W0 l W) (f : Picks l pre r) : Sat W0 (apd pre r) W := h.imp fun _ _ s => f.to s
theorem Sat.drop (h : Sat W0 (A :: r) W) : Sat W0 r W := by
  obtain ⟨im, g, h1, h2, h3, g1, g2, d, rfl, a, s⟩ := h.get
  exact ⟨h.os, h.tape, h.output, im, g2, h1, fun k o hk => ⟨(h2 k o hk).1, by have := (h2 k o hk).2; unfold un at this; cases e : g1 k <;> simp_all⟩, fun k o hk => h3 k o (un_right d hk), s⟩
theorem Sat.left {l r : List HP} (h : Sat W0 (apd l r) W) : Sat W0 l W := by
  obtain ⟨im, g, h1, h2, h3, s⟩ := h.get
  obtain ⟨g1, g2, d, rfl, s1, s2⟩ := sep_apd.1 s
  exact ⟨h.os, h.tape, h.output, im, g1, h1, fun k o hk => ⟨(h2 k o hk).1, by have := (h2 k o hk).2; unfold un at this; cases e : g1 k <;> simp_all⟩, fun k o hk => h3 k o (un_left hk), s1⟩

/-! ### assertions -/
/-- Block k is owned: it is o. -/
def pt (k : Nat) (o : Obj) : HP := ⟨fun _ h => h k = some o, fun _ h => h⟩
/-- What is told of the blocks that stand for ever. -/
def ps (φ : Hp → Prop) (hφ : ∀ {im im' : Hp}, (∀ k o, im k = some o → im' k = some o) → φ im → φ im') : HP := ⟨fun im _ => φ im, fun h a => hφ h a⟩
/-- Block k stands for ever: it is o. -/
def imm (k : Nat) (o : Obj) : HP := ps (fun im => im k = some o) (fun h a => h _ _ a)
def ex {α : Sort _} (A : α → HP) : HP := ⟨fun im h => ∃ x, (A x).p im h, fun hi ⟨x, a⟩ => ⟨x, (A x).mono hi a⟩⟩
def all (l : List HP) : HP := ⟨fun im h => sep l im h, fun hi s => sep_mono hi s⟩
def pure (φ : Prop) : HP := ps (fun _ => φ) (fun _ a => a)
/-- Assertions that own nothing. -/
class Pers (A : HP) : Prop where
  out : ∀ {im h h'}, A.p im h → A.p im h'
instance {φ hφ} : Pers (ps φ hφ) := ⟨fun a => a⟩
instance {k o} : Pers (imm k o) := ⟨fun a => a⟩
instance {φ} : Pers (pure φ) := ⟨fun a => a⟩
instance {α : Sort _} {A : α → HP} [h : ∀ x, Pers (A x)] : Pers (ex A) := ⟨fun ⟨x, a⟩ => ⟨x, (h x).out a⟩⟩
theorem Sat.dup [hp : Pers A] (h : Sat W0 (A :: r) W) : Sat W0 (A :: A :: r) W := h.imp fun im g s => by
  obtain ⟨g1, g2, d, rfl, a, s⟩ := s
  exact ⟨fun _ => none, un g1 g2, fun _ => .inl rfl, funext fun k => by simp [un], hp.out a, g1, g2, d, rfl, a, s⟩
theorem Sat.dup_of [hp : Pers A] (h : Sat W0 l W) (f : Foc l A r) : Sat W0 (A :: l) W := (h.foc f).dup.imp fun im g s => sep_cons (fun s => f.from s) s
theorem Sat.ex {α : Sort _} {A : α → HP} : Sat W0 (Se.ex A :: r) W ↔ ∃ x, Sat W0 (A x :: r) W := by
  constructor
  · intro h
    obtain ⟨im, g, h1, h2, h3, g1, g2, d, e, ⟨x, a⟩, s⟩ := h.get
    exact ⟨x, h.os, h.tape, h.output, im, g, h1, h2, h3, g1, g2, d, e, a, s⟩
  · rintro ⟨x, h⟩
    exact h.imp fun im g ⟨g1, g2, d, e, a, s⟩ => ⟨g1, g2, d, e, ⟨x, a⟩, s⟩
theorem Sat.all {l : List HP} : Sat W0 (Se.all l :: r) W ↔ Sat W0 (apd l r) W :=
  ⟨fun h => h.imp fun im g s => sep_apd.2 s, fun h => h.imp fun im g s => sep_apd.1 s⟩
theorem Sat.pure {φ : Prop} : Sat W0 (Se.pure φ :: r) W ↔ φ ∧ Sat W0 r W := by
  constructor
  · intro h
    refine ⟨?_, h.drop⟩
    obtain ⟨_, _, _, _, _, _, _, _, _, a, _⟩ := h.get
    exact a
  · rintro ⟨hφ, h⟩
    exact h.imp fun im g s => ⟨fun _ => none, g, fun _ => .inl rfl, funext fun k => rfl, hφ, s⟩
theorem Sat.mem (h : Sat W0 (pt k o :: r) W) : W.heap[k]? = some o := by
  obtain ⟨im, g, h1, h2, h3, g1, g2, d, rfl, a, s⟩ := h.get
  exact h3 k o (un_left a)
theorem Sat.old (h : Sat W0 (pt k o :: r) W) : W0.heap.size ≤ k := by
  obtain ⟨im, g, h1, h2, h3, g1, g2, d, rfl, a, s⟩ := h.get
  rcases Nat.lt_or_ge k W0.heap.size with hk | hk
  · have := h2 k _ (h1 k _ (Array.getElem?_eq_getElem hk))
    rw [un_left a] at this
    exact absurd this.2 (by simp)
  · exact hk
theorem Sat.ne {k' : Nat} {o' : Obj} (h : Sat W0 (pt k o :: pt k' o' :: r) W) : k ≠ k' := by
  obtain ⟨im, g, h1, h2, h3, g1, g2, d, rfl, a, g3, g4, d', rfl, b, s⟩ := h.get
  rintro rfl
  rcases d k with e | e
  · rw [show g1 k = some o from a] at e; cases e
  · have hb : g3 k = some o' := b
    rw [un_left hb] at e; cases e
theorem Sat.imm_mem (h : Sat W0 (imm k o :: r) W) : W.heap[k]? = some o := by
  obtain ⟨im, g, h1, h2, h3, g1, g2, d, rfl, a, s⟩ := h.get
  exact (h2 k o a).1
theorem Sat.ps_mem {φ : Hp → Prop} {hφ} (h : Sat W0 (ps φ hφ :: r) W) : ∃ im : Hp, (∀ k o, im k = some o → W.heap[k]? = some o) ∧ φ im := by
  obtain ⟨im, g, h1, h2, h3, g1, g2, d, rfl, a, s⟩ := h.get
  exact ⟨im, fun k o hk => (h2 k o hk).1, a⟩
/-- The blocks of the first world. -/
theorem Sat.base (h : Sat W0 l W) (hk : W0.heap[k]? = some o) : Sat W0 (imm k o :: l) W := by
  obtain ⟨im, g, h1, h2, h3, s⟩ := h.get
  exact ⟨h.os, h.tape, h.output, im, g, h1, h2, h3, fun _ => none, g, fun _ => .inl rfl, funext fun k => rfl, h1 k o hk, s⟩
theorem Sat.base_ps {φ : Hp → Prop} {hφ} (h : Sat W0 l W) (hk : φ (fun k => W0.heap[k]?)) : Sat W0 (ps φ hφ :: l) W := by
  obtain ⟨im, g, h1, h2, h3, s⟩ := h.get
  exact ⟨h.os, h.tape, h.output, im, g, h1, h2, h3, fun _ => none, g, fun _ => .inl rfl, funext fun k => rfl, hφ h1 hk, s⟩
theorem Sat.below (h : Sat W0 l W) (hb : Below W.heap.size W W') : Sat W0 l W' := by
  obtain ⟨im, g, h1, h2, h3, s⟩ := h.get
  have key : ∀ k o, W.heap[k]? = some o → W'.heap[k]? = some o := fun k o hk => (hb.block k (Array.getElem?_eq_some_iff.1 hk).1).trans hk
  exact ⟨hb.os.trans h.os, hb.tape.trans h.tape, hb.output.trans h.output, im, g, h1, fun k o hk => ⟨key k o (h2 k o hk).1, (h2 k o hk).2⟩, fun k o hk => key k o (h3 k o hk), s⟩
theorem Sat.to_below (h : Sat W0 l W) : Below W0.heap.size W0 W := by
  obtain ⟨im, g, h1, h2, h3, s⟩ := h.get
  have key : ∀ k o, W0.heap[k]? = some o → W.heap[k]? = some o := fun k o hk => (h2 k o (h1 k o hk)).1
  refine ⟨h.os, h.tape, h.output, ?_, fun k hk => ?_⟩
  · rcases Nat.eq_zero_or_pos W0.heap.size with e | e
    · omega
    · have := (Array.getElem?_eq_some_iff.1 (key (W0.heap.size - 1) _ (Array.getElem?_eq_getElem (by omega)))).1
      omega
  · rw [key k _ (Array.getElem?_eq_getElem hk), Array.getElem?_eq_getElem hk]
theorem Sat.start (W : World) : Sat W [] W := ⟨rfl, rfl, rfl, fun k => W.heap[k]?, fun _ => none, fun _ _ h => h, fun _ _ h => ⟨h, rfl⟩, fun _ _ h => (by cases h), trivial⟩
/-- A new block. -/
theorem Sat.new (h : Sat W0 l W) (hb : Below W.heap.size W W') (hk : W.heap.size ≤ k) (ho : W'.heap[k]? = some o) : Sat W0 (pt k o :: l) W' := by
  obtain ⟨im, g, h1, h2, h3, s⟩ := h.get
  have key : ∀ k o, W.heap[k]? = some o → W'.heap[k]? = some o := fun k o hk => (hb.block k (Array.getElem?_eq_some_iff.1 hk).1).trans hk
  have hno : ∀ j o, W.heap[j]? = some o → j ≠ k := fun j o hj => by have := (Array.getElem?_eq_some_iff.1 hj).1; omega
  refine ⟨hb.os.trans h.os, hb.tape.trans h.tape, hb.output.trans h.output, im, un (fun j => if j = k then some o else none) g, h1, fun j x hj => ⟨key j x (h2 j x hj).1, ?_⟩, fun j x hj => ?_, (fun j => if j = k then some o else none), g, fun j => ?_, rfl, ?_, s⟩
  · have := hno j x (h2 j x hj).1
    simp [un, this, (h2 j x hj).2]
  · rcases un_some hj with hj1 | hj1
    · split at hj1
      · rename_i e; subst e; rw [← hj1]; exact ho
      · cases hj1
    · exact key j x (h3 j x hj1)
  · by_cases e : j = k
    · subst e
      right
      cases hg : g j with
      | none => rfl
      | some x => exact absurd rfl (hno j x (h3 j x hg))
    · left; simp [e]
  · show (if k = k then some o else none) = some o
    simp
/-- From W to W': new blocks, and block k written. -/
structure Chg (W W' : World) (k : Nat) : Prop where
  os : W'.os = W.os
  tape : W'.tape = W.tape
  output : W'.output = W.output
  block : ∀ j, j ≠ k → j < W.heap.size → W'.heap[j]? = W.heap[j]?
theorem Sat.put {o' : Obj} (h : Sat W0 (pt k o :: r) W) (hc : Chg W W' k) (ho : W'.heap[k]? = some o') : Sat W0 (pt k o' :: r) W' := by
  obtain ⟨im, g, h1, h2, h3, g1, g2, d, rfl, a, s⟩ := h.get
  have a : g1 k = some o := a
  have key : ∀ j x, j ≠ k → W.heap[j]? = some x → W'.heap[j]? = some x := fun j x hj hx => (hc.block j hj (Array.getElem?_eq_some_iff.1 hx).1).trans hx
  have hnim : ∀ j x, im j = some x → j ≠ k := fun j x hj e => by
    subst e
    have := (h2 j x hj).2
    rw [un_left a] at this; cases this
  refine ⟨hc.os.trans h.os, hc.tape.trans h.tape, hc.output.trans h.output, im, un (fun j => if j = k then some o' else none) g2, h1, fun j x hj => ⟨key j x (hnim j x hj) (h2 j x hj).1, ?_⟩, fun j x hj => ?_, (fun j => if j = k then some o' else none), g2, fun j => ?_, rfl, ?_, s⟩
  · have h := (h2 j x hj).2
    have : g2 j = none := by unfold un at h; cases e : g1 j <;> simp_all
    simp [un, hnim j x hj, this]
  · rcases un_some hj with hj1 | hj1
    · split at hj1
      · rename_i e; subst e; rw [← hj1]; exact ho
      · cases hj1
    · refine key j x ?_ (h3 j x (un_right d hj1))
      rintro rfl
      rcases d j with e | e
      · rw [a] at e; cases e
      · rw [hj1] at e; cases e
  · by_cases e : j = k
    · subst e
      right
      rcases d j with e | e
      · rw [a] at e; cases e
      · exact e
    · left; simp [e]
  · show (if k = k then some o' else none) = some o'
    simp
/-- The elder block is let go, a new one is there. -/
theorem Sat.new_of {k' : Nat} {o' : Obj} (h : Sat W0 (pt k o :: r) W) (hc : Chg W W' k) (hk : W.heap.size ≤ k') (ho : W'.heap[k']? = some o') : Sat W0 (pt k' o' :: r) W' := by
  obtain ⟨im, g, h1, h2, h3, g1, g2, d, rfl, a, s⟩ := h.get
  have a : g1 k = some o := a
  have hlt : ∀ j x, W.heap[j]? = some x → j ≠ k' := fun j x hj => by have := (Array.getElem?_eq_some_iff.1 hj).1; omega
  have key : ∀ j x, j ≠ k → W.heap[j]? = some x → W'.heap[j]? = some x := fun j x hj hx => (hc.block j hj (Array.getElem?_eq_some_iff.1 hx).1).trans hx
  have hnim : ∀ j x, im j = some x → j ≠ k := fun j x hj e => by
    subst e
    have := (h2 j x hj).2
    rw [un_left a] at this; cases this
  have hg2 : ∀ j x, g2 j = some x → j ≠ k := fun j x hj e => by
    subst e
    rcases d j with e | e
    · rw [a] at e; cases e
    · rw [hj] at e; cases e
  refine ⟨hc.os.trans h.os, hc.tape.trans h.tape, hc.output.trans h.output, im, un (fun j => if j = k' then some o' else none) g2, h1, fun j x hj => ⟨key j x (hnim j x hj) (h2 j x hj).1, ?_⟩, fun j x hj => ?_, (fun j => if j = k' then some o' else none), g2, fun j => ?_, rfl, ?_, s⟩
  · have h := (h2 j x hj).2
    have e2 : g2 j = none := by unfold un at h; cases e : g1 j <;> simp_all
    simp [un, hlt j x (h2 j x hj).1, e2]
  · rcases un_some hj with hj1 | hj1
    · split at hj1
      · rename_i e; subst e; rw [← hj1]; exact ho
      · cases hj1
    · exact key j x (hg2 j x hj1) (h3 j x (un_right d hj1))
  · by_cases e : j = k'
    · subst e
      right
      cases hg : g2 j with
      | none => rfl
      | some x => exact absurd rfl (hlt j x (h3 j x (un_right d hg)))
    · left; simp [e]
  · show (if k' = k' then some o' else none) = some o'
    simp
/-- What is owned is written no more. -/
theorem Sat.freeze (h : Sat W0 (pt k o :: r) W) : Sat W0 (imm k o :: r) W := by
  obtain ⟨im, g, h1, h2, h3, g1, g2, d, rfl, a, s⟩ := h.get
  have a : g1 k = some o := a
  have hn : ∀ j, im j = none ∨ j ≠ k := fun j => by
    by_cases e : j = k
    · subst e
      left
      cases e : im j with
      | none => rfl
      | some x =>
        have := (h2 j x e).2
        rw [un_left a] at this; cases this
    · exact .inr e
  have hmono : ∀ j x, im j = some x → (fun j => if j = k then some o else im j) j = some x := fun j x hj => by
    rcases hn j with e | e
    · rw [hj] at e; cases e
    · show (if j = k then some o else im j) = some x
      rw [if_neg e]; exact hj
  have hg2 : g2 k = none := by
    rcases d k with e | e
    · rw [a] at e; cases e
    · exact e
  refine ⟨h.os, h.tape, h.output, (fun j => if j = k then some o else im j), g2, fun j x hj => hmono j x (h1 j x hj), fun j x hj => ?_, fun j x hj => h3 j x (un_right d hj), fun _ => none, g2, fun _ => .inl rfl, funext fun _ => rfl, ?_, sep_mono hmono s⟩
  · have hj1 : (if j = k then some o else im j) = some x := hj
    split at hj1
    · rename_i e
      subst e
      injection hj1 with hj1
      subst hj1
      exact ⟨h3 j o (un_left a), hg2⟩
    · refine ⟨(h2 j x hj1).1, ?_⟩
      have := (h2 j x hj1).2
      unfold un at this
      cases e : g1 j <;> simp_all
  · show (if k = k then some o else im k) = some o
    simp
end
end Go.Se
