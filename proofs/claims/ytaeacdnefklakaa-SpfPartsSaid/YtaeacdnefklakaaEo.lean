/-
  Opening: what the arguments of a law are, out of their reading as data.
  Conditions: as each lemma states them.
-/
import Derived.Test.YtaeacdnefklakaaE
namespace Go.Se
open Go.RowKit
set_option linter.unusedVariables false
set_option linter.unusedSimpArgs false

theorem mapM_some {α β : Type} {f : α → Option β} : ∀ {l : List α} {ys : List β}, l.mapM f = some ys → ∀ x, x ∈ l → ∃ y, f x = some y
  | [], ys, h, x, hx => by simp at hx
  | a :: l, ys, h, x, hx => by
    rw [List.mapM_cons] at h
    simp only [Option.bind_eq_bind, Option.bind_eq_some_iff] at h
    obtain ⟨y, h1, zs, h2, h3⟩ := h
    rcases List.mem_cons.1 hx with rfl | hx
    · exact ⟨y, h1⟩
    · exact mapM_some h2 x hx

theorem mapM_get {α β : Type} {f : α → Option β} : ∀ {l : List α} {ys : List β}, l.mapM f = some ys → ys.length = l.length ∧ ∀ (i : Nat) (x : α), l[i]? = some x → f x = ys[i]?
  | [], ys, h => by simp at h; subst h; simp
  | a :: l, ys, h => by
    rw [List.mapM_cons] at h
    simp only [Option.bind_eq_bind, Option.bind_eq_some_iff] at h
    obtain ⟨y, h1, zs, h2, h3⟩ := h
    injection h3 with h3
    subst h3
    obtain ⟨h4, h5⟩ := mapM_get h2
    refine ⟨by simp [h4], fun i x hx => ?_⟩
    cases i with
    | zero => simp at hx; subst hx; simpa using h1
    | succ i => simpa using h5 i x (by simpa using hx)

section
variable {H : Type} {enc : TypeId × Value → H} {P : Program} {w : World} {base : Nat} {spare : Nat → Bool} {held : Bool} {fuel : Nat} {t : TypeId} {cs : List Value} {r : DataW H × List MemPlace}
theorem trod_int {k : IntKind} (ht : P.underlying t = some (.int k)) (h : DataW.trod enc P w base spare held fuel t cs = some r) : ∃ n, cs = [.int k n] ∧ (Lit.int k n).wf = true := by
  cases fuel with
  | zero => simp [DataW.trod] at h
  | succ fuel =>
    unfold DataW.trod at h
    rw [ht] at h
    split at h <;> simp_all
theorem trod_bool (ht : P.underlying t = some .bool) (h : DataW.trod enc P w base spare held fuel t cs = some r) : ∃ b, cs = [.bool b] := by
  cases fuel with
  | zero => simp [DataW.trod] at h
  | succ fuel =>
    unfold DataW.trod at h
    rw [ht] at h
    split at h <;> simp_all
theorem trod_struct {fs : Array Field} (ht : P.underlying t = some (.struct fs)) (h : DataW.trod enc P w base spare held fuel t cs = some r) :
    cs.length = P.cellsOf t ∧ ∀ (f : Field), List.Mem f fs.toList → ∃ fuel' r', DataW.trod enc P w base spare held fuel' f.type ((cs.drop f.offset).take (P.cellsOf f.type)) = some r' := by
  cases fuel with
  | zero => simp [DataW.trod] at h
  | succ fuel =>
    unfold DataW.trod at h
    rw [ht] at h
    split at h <;> first | (simp_all; done) | skip
    rename_i fs' cs' e1
    injection e1 with e1
    injection e1 with e1
    subst e1
    split at h
    · rename_i hl
      refine ⟨hl, fun f hf => ?_⟩
      simp only [Option.map_eq_some_iff] at h
      obtain ⟨xs, h1, _⟩ := h
      obtain ⟨y, hy⟩ := mapM_some h1 f hf
      exact ⟨fuel, y, hy⟩
    · cases h
theorem trod_array {n : Nat} {e : TypeId} (ht : P.underlying t = some (.array n e)) (h : DataW.trod enc P w base spare held fuel t cs = some r) :
    cs.length = P.cellsOf t ∧ ∀ i, i < n → ∃ fuel' r', DataW.trod enc P w base spare held fuel' e ((cs.drop (i * P.cellsOf e)).take (P.cellsOf e)) = some r' := by
  cases fuel with
  | zero => simp [DataW.trod] at h
  | succ fuel =>
    unfold DataW.trod at h
    rw [ht] at h
    split at h <;> first | (simp_all; done) | skip
    rename_i n' e' cs' e1
    injection e1 with e1
    injection e1 with e1 e2
    subst e1 e2
    split at h
    · rename_i hl
      refine ⟨hl, fun i hi => ?_⟩
      simp only [Option.map_eq_some_iff] at h
      obtain ⟨xs, h1, _⟩ := h
      obtain ⟨y, hy⟩ := mapM_some h1 i (by simpa using hi)
      exact ⟨fuel, y, hy⟩
    · cases h
theorem trod_slice {e : TypeId} (ht : P.underlying t = some (.slice e)) (h : DataW.trod enc P w base spare held fuel t cs = some r) :
    cs = [.slice none 0 0] ∨ ∃ a len cap, cs = [.slice (some a) len cap] ∧ len ≤ cap ∧ cap ≤ maxLen ∧ ∀ i, i < len → ∃ us fuel' r', w.cells? base (a.add (i * P.cellsOf e)) (P.cellsOf e) = some us ∧ DataW.trod enc P w base spare held fuel' e us = some r' := by
  cases fuel with
  | zero => simp [DataW.trod] at h
  | succ fuel =>
    unfold DataW.trod at h
    rw [ht] at h
    split at h <;> first | (simp_all; done) | skip
    rename_i e' a len cap e1
    injection e1 with e1
    injection e1 with e1
    subst e1
    simp only at h
    split at h
    · rename_i hb
      simp only [Option.bind_eq_some_iff] at h
      obtain ⟨elems, h1, _⟩ := h
      refine .inr ⟨a, len, cap, rfl, hb.2.1, hb.2.2, fun i hi => ?_⟩
      obtain ⟨y, hy⟩ := mapM_some h1 i (by simpa using hi)
      simp only [Option.bind_eq_some_iff] at hy
      obtain ⟨us, hu1, hu2⟩ := hy
      exact ⟨us, fuel, y, hu1, hu2⟩
    · cases h
theorem wf_i64 {n : Int} (h : (Lit.int .i64 n).wf = true) : -9223372036854775808 ≤ n ∧ n ≤ 9223372036854775807 := by
  have h2 : IntKind.i64.min = -9223372036854775808 := by decide
  have h3 : IntKind.i64.max = 9223372036854775807 := by decide
  simp only [Lit.wf, Bool.and_eq_true, decide_eq_true_eq, h2, h3] at h; exact h
theorem wf_u64 {n : Int} (h : (Lit.int .u64 n).wf = true) : 0 ≤ n ∧ n ≤ 18446744073709551615 := by
  have h2 : IntKind.u64.min = 0 := by decide
  have h3 : IntKind.u64.max = 18446744073709551615 := by decide
  simp only [Lit.wf, Bool.and_eq_true, decide_eq_true_eq, h2, h3] at h; exact h
theorem wf_u32 {n : Int} (h : (Lit.int .u32 n).wf = true) : 0 ≤ n ∧ n ≤ 4294967295 := by
  have h2 : IntKind.u32.min = 0 := by decide
  have h3 : IntKind.u32.max = 4294967295 := by decide
  simp only [Lit.wf, Bool.and_eq_true, decide_eq_true_eq, h2, h3] at h; exact h
theorem wf_u8 {n : Int} (h : (Lit.int .u8 n).wf = true) : 0 ≤ n ∧ n ≤ 255 := by
  have h2 : IntKind.u8.min = 0 := by decide
  have h3 : IntKind.u8.max = 255 := by decide
  simp only [Lit.wf, Bool.and_eq_true, decide_eq_true_eq, h2, h3] at h; exact h
/-- Elements of a flat kind: what can be read is one, and its numbers are of their kinds. -/
class FlatT (P : Program) (e : TypeId) {α : Type} (K : Ky α) (wf : outParam (α → Prop)) : Prop where
  out : ∀ {H : Type} {enc : TypeId × Value → H} {w : World} {base : Nat} {spare : Nat → Bool} {held : Bool} {fuel : Nat} {cs : List Value} {r : DataW H × List MemPlace}, DataW.trod enc P w base spare held fuel e cs = some r → ∃ x, cs = K.enc x ∧ wf x
theorem cells_get {a : Addr} {n : Nat} {us : List Value} (h : w.cells? base a n = some us) : us.length = n ∧ ∀ j u, us[j]? = some u → w.cell? (a.add j) = some u := by
  unfold World.cells? at h
  split at h
  · obtain ⟨h1, h2⟩ := mapM_get h
    simp only [List.length_range] at h1
    refine ⟨h1, fun j u hj => ?_⟩
    have hlt := (List.getElem?_eq_some_iff.1 hj).1
    have := h2 j j (by rw [List.getElem?_range (by omega)])
    rw [this, hj]
  · cases h
/-- A slice of flat elements. -/
theorem open_flat {α : Type} [Inhabited α] {K : Ky α} {wf : α → Prop} {e : TypeId} (ht : P.underlying t = some (.slice e)) (hK : FlatT P e K wf) (hsz : P.cellsOf e = K.sz) (h : DataW.trod enc P w base spare held fuel t cs = some r) :
    ∃ A c, ∃ xs : List α, cs = [.slice A xs.length c] ∧ xs.length ≤ c ∧ c ≤ maxLen ∧ RowAt w K A xs ∧ ∀ x, x ∈ xs → wf x := by
  rcases trod_slice ht h with rfl | ⟨a, len, cap, rfl, h1, h2, h3⟩
  · exact ⟨none, 0, [], rfl, Nat.le_refl _, Nat.zero_le _, fun i x hx => by simp at hx, by simp⟩
  · have key : ∀ i : Nat, ∃ x : α, i < len → (∀ j u, (K.enc x)[j]? = some u → w.cell? (a.add (i * K.sz + j)) = some u) ∧ wf x := fun i => by
      by_cases hi : i < len
      · obtain ⟨us, fuel', r', hu, ht'⟩ := h3 i hi
        obtain ⟨x, rfl, hx⟩ := hK.out ht'
        obtain ⟨_, hc⟩ := cells_get hu
        refine ⟨x, fun _ => ⟨fun j u hj => ?_, hx⟩⟩
        have := hc j u hj
        rwa [add_add, hsz] at this
      · exact ⟨default, fun h => absurd h hi⟩
    let f : Nat → α := fun i => Classical.choose (key i)
    have hf : ∀ i, i < len → (∀ j u, (K.enc (f i))[j]? = some u → w.cell? (a.add (i * K.sz + j)) = some u) ∧ wf (f i) := fun i hi => Classical.choose_spec (key i) hi
    refine ⟨some a, cap, (List.range len).map f, by simp, by simpa using h1, h2, fun i x hx => ⟨a, rfl, ?_⟩, fun x hx => ?_⟩
    · simp only [List.getElem?_map, Option.map_eq_some_iff] at hx
      obtain ⟨j, hj, rfl⟩ := hx
      obtain ⟨hlt, rfl⟩ := List.getElem?_eq_some_iff.1 hj
      simp only [List.length_range] at hlt
      simp only [List.getElem_range]
      exact (hf i hlt).1
    · obtain ⟨i, hi, rfl⟩ := List.mem_map.1 hx
      exact (hf i (by simpa using hi)).2
end
/-- A row of the first world. -/
theorem Sat.base_row {α : Type} {K : Ky α} {A : Option Addr} {xs : List α} {W0 W : World} {l : List HP} (h : Sat W0 l W) (hr : RowAt W0 K A xs) : Sat W0 (irow K A xs :: l) W := by
  refine h.base_ps fun i x hx => ?_
  obtain ⟨a, hA, hc⟩ := hr i x hx
  refine ⟨a, hA, fun j u hu => ?_⟩
  have := hc j u hu
  unfold World.cell? at this
  generalize a.add (i * K.sz + j) = b at *
  split at this
  · rename_i c e fr hb
    split at this
    · cases this
    · rename_i hs
      exact ⟨by simpa using hs, c, e, fr, hb, this⟩
  · cases this
theorem okWide_struct {P : Program} {w : World} {r : Reach} {base : Nat} {t : TypeId} {v : Value} {fs : Array Field} (ht : P.underlying t = some (.struct fs)) (h : Value.okWide P w r base t v) : ∃ cs, v = .agg cs := by
  unfold Value.okWide at h
  rw [ht] at h
  obtain ⟨cs, rfl, _⟩ := h
  exact ⟨cs, rfl⟩
theorem okWide_array {P : Program} {w : World} {r : Reach} {base : Nat} {t : TypeId} {v : Value} {n : Nat} {e : TypeId} (ht : P.underlying t = some (.array n e)) (h : Value.okWide P w r base t v) : ∃ cs, v = .agg cs := by
  unfold Value.okWide at h
  rw [ht] at h
  obtain ⟨cs, rfl, _⟩ := h
  exact ⟨cs, rfl⟩
/-- A flat value. -/
theorem open_agg {H : Type} {enc : TypeId × Value → H} {P : Program} {w : World} {base : Nat} {spare : Nat → Bool} {held : Bool} {t : TypeId} {v : Value} {d : DataW H} {ps : List MemPlace} {α : Type} {K : Ky α} {wf : α → Prop} (hK : FlatT P t K wf) (hv : ∃ cs, v = .agg cs) (h : DataW.Trod enc P w base spare held t v d ps) :
    ∃ x : α, v = .agg (K.enc x).toArray ∧ wf x := by
  obtain ⟨cs, rfl⟩ := hv
  obtain ⟨fuel, h⟩ := h
  obtain ⟨x, hx, hw⟩ := hK.out h
  refine ⟨x, ?_, hw⟩
  simp only [Value.cells] at hx
  rw [← hx]
end Go.Se
