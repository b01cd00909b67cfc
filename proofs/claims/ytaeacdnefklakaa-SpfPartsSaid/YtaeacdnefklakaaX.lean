/-
  More of the engine: what was found lacking while walking.
  Conditions: as each lemma states them.
-/
import Derived.Test.YtaeacdnefklakaaE
namespace Go.Se
open Go.RowKit
set_option linter.unusedVariables false
set_option linter.unusedSimpArgs false

section
variable {α : Type} {K : Ky α} {e : TypeId} {A : Option Addr} {c : Nat} {xs : List α} {W0 W W' : World} {r l : List HP}
theorem Sat.irow_nil (K : Ky α) (A : Option Addr) (h : Sat W0 r W) : Sat W0 (irow K A [] :: r) W := h.imp fun im g s => ⟨fun _ => none, g, fun _ => .inl rfl, funext fun _ => rfl, fun i x hx => by simp at hx, s⟩
end
/-- What is owned in rows is owned no more. -/
class FrzAll (l : List HP) (l' : outParam (List HP)) : Prop where
  out : ∀ {W0 W : World} (pre : List HP), Sat W0 (apd pre l) W → Sat W0 (apd pre l') W
instance FrzAll.n : FrzAll [] [] := ⟨fun _ h => h⟩
theorem apd_cons (pre : List HP) (A : HP) (l : List HP) : apd pre (A :: l) = apd (apd pre [A]) l := by
  induction pre with
  | nil => rfl
  | cons B pre ih => simp only [apd]; rw [ih]
instance (priority := 2000) FrzAll.r {α : Type} {K : Ky α} {e : TypeId} {A : Option Addr} {c : Nat} {xs : List α} {l l' : List HP} [h : FrzAll l l'] : FrzAll (orow K e A c xs :: l) (irow K A xs :: l') := ⟨fun {W0 W} pre hs => by
  have f : Foc (apd pre (orow K e A c xs :: l)) (orow K e A c xs) (apd pre l) := Foc.apd pre .z
  have g : Foc (apd pre (irow K A xs :: l)) (irow K A xs) (apd pre l) := Foc.apd pre .z
  have h1 := ((hs.foc f).orow_freeze).unfoc g
  rw [apd_cons] at h1 ⊢
  exact h.out _ h1⟩
instance (priority := 500) FrzAll.s {A : HP} {l l' : List HP} [h : FrzAll l l'] : FrzAll (A :: l) (A :: l') := ⟨fun {W0 W} pre hs => by
  rw [apd_cons] at hs ⊢
  exact h.out _ hs⟩
section
variable {P : Program} {W0 : World} {N : Nat} {ops : Array Oper} {rest : List Oper} {E : List (Nat × Value)} {l l' : List HP} {Q : Exit → Act → World → Prop} {c : Code} {e : Exit}
theorem Sx.frz [f : FrzAll l l'] (h : Sx P W0 N ops rest E l' Q) : Sx P W0 N ops rest E l Q := Sx.conv (fun W hs => f.out [] hs) h
theorem Cx.frz [f : FrzAll l l'] (h : Cx P W0 N c E l' Q) : Cx P W0 N c E l Q := Cx.conv (fun W hs => f.out [] hs) h
theorem Kx.frz [f : FrzAll l l'] (h : Kx W0 N e E l' Q) : Kx W0 N e E l Q := Kx.conv (fun W hs => f.out [] hs) h
end

/-! ### arrays, by a closed index -/
def arrOff (P : Program) (t : TypeId) (i : Int) : Option Nat := match P.underlying t with
  | some (.array n e) => if 0 ≤ i ∧ i < n then (P.info? e).map fun x => i.toNat * x.size else none
  | _ => none
class AOff (P : Program) (t : TypeId) (i : Int) (off : outParam Nat) : Prop where
  out : arrOff P t i = some off
section
variable {α : Type} {K : Ky α} {e : TypeId} {A : Option Addr} {c n : Nat} {xs : List α} {W0 W W' : World} {r l l' : List HP}
variable {P : Program} {N : Nat} {ops : Array Oper} {rest : List Oper} {E : List (Nat × Value)} {Q : Exit → Act → World → Prop}
variable {d : Nat} {op : Op} {ty ty2 : TypeId} {pos : String} {aft : Array Edge}
instance OpV.indexArr {x y : Operand} {t : TypeId} {ki : IntKind} {i : Int} {k j off j2 : Nat} [hx : Ev N E x (.pointer (some ⟨k, j, none⟩))] [hy : Ev N E y (.int ki i)] [ho : AOff P t i off] [hj : Plus j off j2] : OpV P N E l (.indexAddr t x y) (.pointer (some ⟨k, j2, none⟩)) := ⟨fun {W0} a W dst ty pos aft ha _ => by
  have ho := ho.out
  have hj := hj.out
  subst hj
  unfold arrOff at ho
  cases hu : P.underlying t with
  | none => rw [hu] at ho; cases ho
  | some u =>
    rw [hu] at ho
    cases u <;> try (cases ho; done)
    rename_i m e
    simp only at ho
    split at ho
    · rename_i hb
      obtain ⟨inf, hi, rfl⟩ := Option.map_eq_some_iff.1 ho
      simp [execOp, hx.out a ha, hy.out a ha, Instr.indexAt, asIntOf, underlying, hu, Instr.sureAddr, hb, Go.sizeOf, typeInfo, hi, addr_add]
    · cases ho⟩

/-! ### parts of rows -/
theorem irow_sub {im : Hp} {xs ys : List α} (lo : Nat) (hs : ∀ i x, ys[i]? = some x → xs[lo + i]? = some x) (h : (irow K A xs).p im (fun _ => none)) : (irow K (A.map (·.add (lo * K.sz))) ys).p im (fun _ => none) := fun i x hx => by
  obtain ⟨a, rfl, hc⟩ := h (lo + i) x (hs i x hx)
  refine ⟨_, rfl, fun j u hu => ?_⟩
  have := hc j u hu
  rw [add_add, show lo * K.sz + (i * K.sz + j) = (lo + i) * K.sz + j by rw [Nat.add_mul]; omega]
  exact this
theorem Sat.irow_part (lo hi : Nat) (h : Sat W0 (irow K A xs :: r) W) : Sat W0 (irow K (A.map (·.add (lo * K.sz))) ((xs.take hi).drop lo) :: r) W := h.imp fun im g s => by
  obtain ⟨g1, g2, d1, e1, a, s⟩ := s
  refine ⟨g1, g2, d1, e1, irow_sub lo (fun i x hx => ?_) a, s⟩
  rw [List.getElem?_drop, List.getElem?_take] at hx
  split at hx
  · exact hx
  · cases hx
theorem Sat.irow_none (B : Option Addr) (h0 : xs = []) (h : Sat W0 r W) : Sat W0 (irow K B xs :: r) W := by subst h0; exact Sat.irow_nil K B h
/-- A part of a row that nobody writes. -/
theorem slice_core {a : Act} {dst : Option Tmp} {x : Operand} {lo hi : Option Operand} {vlo vhi : Option (IntKind × Int)} {t : TypeId} (ht : SlT P t e) (hx : a.eval x = .slice A xs.length c) (hlo : lo.map a.eval = vlo.map fun p => .int p.1 p.2) (hhi : hi.map a.eval = vhi.map fun p => .int p.1 p.2) (hr : IRow l A K xs) (hk : KOf P e K)
    (hc : xs.length ≤ c) {l0 h0 : Nat} (hle : l0 ≤ h0) (hle2 : h0 ≤ xs.length) (e3 : ∀ p ∈ vlo, 0 ≤ p.2 ∧ p.2.toNat = l0) (e4 : ∀ p ∈ vhi, 0 ≤ p.2 ∧ p.2.toNat = h0) (e5 : vlo = none → l0 = 0) (e6 : vhi = none → h0 = xs.length) (hl : Sat W0 l W) :
    ∃ A' c', (execOp a.eval ⟨dst, .slice t x lo hi none, ty, pos, aft, none⟩).run P W = .ok (.value (.slice A' ((xs.take h0).drop l0).length c')) W ∧ ((xs.take h0).drop l0).length ≤ c' ∧ Sat W0 (irow K A' ((xs.take h0).drop l0) :: l) W := by
  have hlen : ((xs.take h0).drop l0).length = h0 - l0 := by simp; omega
  have hrun : (Instr.sliceAt t (.slice A xs.length c) (lo.map a.eval) (hi.map a.eval) none).run P W = .ok (.slice (if c = l0 then A else A.map (·.add (l0 * K.sz))) (h0 - l0) (c - l0)) W := by
    have := run_slice (P := P) (W := W) (A := A) (n := xs.length) (c := c) (kl := .i64) (kh := .i64) (km := .i64) (lo := vlo) (hi := vhi) (mx := none) ht.und hk.out (m := c) (h' := h0) (lw := l0) rfl
      (by cases vhi with
          | none => exact e6 rfl
          | some q => exact (e4 q rfl).2.symm)
      (by cases vlo with
          | none => exact e5 rfl
          | some q => exact (e3 q rfl).2.symm) (by simp)
      (fun p hp => by have := e4 p hp; omega) (fun p hp => by have := e3 p hp; omega) (by simp)
    rw [hlo, hhi]
    simpa using this
  by_cases hcl : c = l0
  · have hnil : (xs.take h0).drop l0 = [] := List.eq_nil_of_length_eq_zero (by omega)
    refine ⟨A, c - l0, ?_, by omega, Sat.irow_none A hnil hl⟩
    rw [if_pos hcl, ← hlen] at hrun
    simp [execOp, hx, hrun]
  · obtain ⟨r', f⟩ := hr.out
    refine ⟨A.map (·.add (l0 * K.sz)), c - l0, ?_, by omega, (Sat.dup_of hl f).irow_part l0 h0⟩
    rw [if_neg hcl, ← hlen] at hrun
    simp [execOp, hx, hrun]
theorem Sx.sliceHi {x y : Operand} {k : IntKind} {m : Int} {t : TypeId} [ht : SlT P t e] [hx : Ev N E x (.slice A n c)] [hy : Ev N E y (.int k m)] [hr : IRow l A K xs] [hk : KOf P e K]
    (hn : n = xs.length := by first | rfl | (simp; first | done | fail)) (hc : n ≤ c := by omega) (h1 : 0 ≤ m := by omega) (h2 : m ≤ xs.length := by omega) (hf : fresh d N E = true := by kernel_rfl)
    (h : ∀ A' c', (xs.take m.toNat).length ≤ c' → Sx P W0 N ops rest ((d, .slice A' (xs.take m.toNat).length c') :: E) (irow K A' (xs.take m.toNat) :: l) Q) : Sx P W0 N ops (⟨some d, .slice t x none (some y) none, ty, pos, aft, none⟩ :: rest) E l Q := Sx.mk fun a W ha hl => by
  subst hn
  obtain ⟨A', c', h3, h4, h5⟩ := slice_core (dst := some d) (lo := none) (hi := some y) (vlo := none) (vhi := some (k, m)) (ty := ty) (pos := pos) (aft := aft) ht (hx.out a ha) rfl (by simp [hy.out a ha]) hr hk hc (l0 := 0) (h0 := m.toNat) (by omega) (by omega) (by simp) (by rintro p ⟨⟩; exact ⟨h1, rfl⟩) (fun _ => rfl) (by simp) hl
  rw [List.drop_zero] at h3 h4 h5
  exact wpl_value rfl h3 ((h A' c' h4).out _ W (ha.put hf _) h5)
theorem Sx.sliceLo {x y : Operand} {k : IntKind} {m : Int} {t : TypeId} [ht : SlT P t e] [hx : Ev N E x (.slice A n c)] [hy : Ev N E y (.int k m)] [hr : IRow l A K xs] [hk : KOf P e K]
    (hn : n = xs.length := by first | rfl | (simp; first | done | fail)) (hc : n ≤ c := by omega) (h1 : 0 ≤ m := by omega) (h2 : m ≤ xs.length := by omega) (hf : fresh d N E = true := by kernel_rfl)
    (h : ∀ A' c', (xs.drop m.toNat).length ≤ c' → Sx P W0 N ops rest ((d, .slice A' (xs.drop m.toNat).length c') :: E) (irow K A' (xs.drop m.toNat) :: l) Q) : Sx P W0 N ops (⟨some d, .slice t x (some y) none none, ty, pos, aft, none⟩ :: rest) E l Q := Sx.mk fun a W ha hl => by
  subst hn
  obtain ⟨A', c', h3, h4, h5⟩ := slice_core (dst := some d) (lo := some y) (hi := none) (vlo := some (k, m)) (vhi := none) (ty := ty) (pos := pos) (aft := aft) ht (hx.out a ha) (by simp [hy.out a ha]) rfl hr hk hc (l0 := m.toNat) (h0 := xs.length) (by omega) (Nat.le_refl _) (by rintro p ⟨⟩; exact ⟨h1, rfl⟩) (by simp) (by simp) (fun _ => rfl) hl
  rw [List.take_length] at h3 h4 h5
  exact wpl_value rfl h3 ((h A' c' h4).out _ W (ha.put hf _) h5)
theorem Sx.sliceLH {x y z : Operand} {k k2 : IntKind} {m m2 : Int} {t : TypeId} [ht : SlT P t e] [hx : Ev N E x (.slice A n c)] [hy : Ev N E y (.int k m)] [hz : Ev N E z (.int k2 m2)] [hr : IRow l A K xs] [hk : KOf P e K]
    (hn : n = xs.length := by first | rfl | (simp; first | done | fail)) (hc : n ≤ c := by omega) (h1 : 0 ≤ m := by omega) (h2 : m ≤ m2 := by omega) (h3 : m2 ≤ xs.length := by omega) (hf : fresh d N E = true := by kernel_rfl)
    (h : ∀ A' c', ((xs.take m2.toNat).drop m.toNat).length ≤ c' → Sx P W0 N ops rest ((d, .slice A' ((xs.take m2.toNat).drop m.toNat).length c') :: E) (irow K A' ((xs.take m2.toNat).drop m.toNat) :: l) Q) : Sx P W0 N ops (⟨some d, .slice t x (some y) (some z) none, ty, pos, aft, none⟩ :: rest) E l Q := Sx.mk fun a W ha hl => by
  subst hn
  obtain ⟨A', c', h4, h5, h6⟩ := slice_core (dst := some d) (lo := some y) (hi := some z) (vlo := some (k, m)) (vhi := some (k2, m2)) (ty := ty) (pos := pos) (aft := aft) ht (hx.out a ha) (by simp [hy.out a ha]) (by simp [hz.out a ha]) hr hk hc (l0 := m.toNat) (h0 := m2.toNat) (by omega) (by omega) (by rintro p ⟨⟩; exact ⟨h1, rfl⟩) (by rintro p ⟨⟩; exact ⟨by simp only; omega, rfl⟩) (by simp) (by simp) hl
  exact wpl_value rfl h4 ((h A' c' h5).out _ W (ha.put hf _) h6)
end
end Go.Se
