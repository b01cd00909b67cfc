/-
  What graph.Check's answer tells of the links.
  Conditions: as each lemma states them.
-/
import Derived.Test.YtaeacdnefklakaaIb
import Derived.Test.YtaeacdnefklakaaGb
namespace Go.Proofs.Ytaeacdnefklakaa.L
open Go.RowKit Go.Proofs.YtaeacdnefklakaaW.PrintWords Go.Proofs.YtaeacdnefklakaaW.PrintLast Go.Proofs.YtaeacdnefklakaaW.PrintMore Go.Fr
set_option linter.unusedVariables false
set_option linter.unusedSimpArgs false

theorem nodup_bound : ∀ (n : Nat) (xs : List Nat), xs.Nodup → (∀ x, x ∈ xs → x < n) → xs.length ≤ n
  | 0, xs, _, h => by
    cases xs with
    | nil => simp
    | cons x t => exact absurd (h x (List.mem_cons_self ..)) (by omega)
  | n + 1, xs, hn, h => by
    have := nodup_bound n (xs.erase n) (hn.erase n) (fun x hx => by
      have h1 := hn.mem_erase_iff.1 hx
      have := h x h1.2
      have := h1.1
      omega)
    have h2 : xs.length ≤ (xs.erase n).length + 1 := by
      rw [List.length_erase]; split <;> omega
    omega

theorem okFrom_spec (n : Int) : ∀ (l : List S60) (s : List (Int × Int)), okFrom n s l = true → (∀ x, x ∈ l → okLink n x = true ∧ (x.f0, x.f1) ∉ s) ∧ (l.map (fun x => (x.f0, x.f1))).Nodup
  | [], s, _ => ⟨by simp, by simp⟩
  | x :: t, s, h => by
    unfold okFrom at h
    simp only [Bool.and_eq_true, Bool.not_eq_true'] at h
    obtain ⟨h1, h2, h3⟩ := h
    obtain ⟨h4, h5⟩ := okFrom_spec n t _ h3
    refine ⟨fun y hy => ?_, ?_⟩
    · rcases List.mem_cons.1 hy with rfl | hy
      · exact ⟨h2, by simpa using h1⟩
      · obtain ⟨a, b⟩ := h4 y hy
        exact ⟨a, fun hm => b (List.mem_cons_of_mem _ hm)⟩
    · rw [List.map_cons, List.nodup_cons]
      refine ⟨fun hm => ?_, h5⟩
      obtain ⟨y, hy, e⟩ := List.mem_map.1 hm
      exact (h4 y hy).2 (by rw [e]; exact List.mem_cons_self ..)

theorem idxI_count (l : List S60) (node : Int) : (idxI l node l.length).length = l.countP (fun x => x.f0 == node) := by
  unfold idxI
  rw [List.length_map, ← List.countP_eq_length_filter]
  have e : l = (List.range l.length).map (fun i => l.getD i z60) := by
    apply List.ext_getElem
    · simp
    · intro i h1 h2
      simp [h1]
  conv => rhs; rw [e]
  rw [List.countP_map]
  rfl

theorem ok_of_chk {n : Int} {l : List S60} (h : chk n l = 0) : 1 ≤ n ∧ n ≤ 16 ∧ okFrom n [] l = true ∧ OkL n.toNat l := by
  unfold chk at h
  split at h
  · exact absurd h (by decide)
  · split at h
    · exact absurd h (by decide)
    · split at h
      · rename_i h1 h2 h3
        obtain ⟨a, b⟩ := okFrom_spec n l [] h3
        have hl : ∀ x, x ∈ l → (0 ≤ x.f0 ∧ x.f0 < n) ∧ (0 ≤ x.f1 ∧ x.f1 < n) ∧ 1 ≤ x.f3 ∧ x.f3 ≤ 65535 := fun x hx => by
          have := (a x hx).1
          simp [okLink, inN] at this
          omega
        refine ⟨by omega, by omega, h3, ⟨by omega, by omega, fun x hx => by have := hl x hx; omega, fun x hx => by have := hl x hx; omega, fun node => ?_⟩⟩
        rw [idxI_count, List.countP_eq_length_filter]
        have hb : ((l.filter (fun x => x.f0 == (node : Int))).map (fun x => x.f1.toNat)).length ≤ n.toNat := by
          refine nodup_bound _ _ ?_ (fun y hy => ?_)
          · rw [List.nodup_iff_pairwise_ne] at *
            rw [List.pairwise_map] at b ⊢
            refine List.Pairwise.imp_of_mem ?_ (b.filter _)
            intro x y hx hy hne e
            obtain ⟨hx1, hx2⟩ := List.mem_filter.1 hx
            obtain ⟨hy1, hy2⟩ := List.mem_filter.1 hy
            have := hl x hx1
            have := hl y hy1
            simp at hx2 hy2
            exact hne (by rw [hx2, hy2]; simp; omega)
          · obtain ⟨x, hx, rfl⟩ := List.mem_map.1 hy
            have := hl x (List.mem_filter.1 hx).1
            omega
        rw [List.length_map] at hb
        omega
      · exact absurd h (by decide)
end Go.Proofs.Ytaeacdnefklakaa.L
