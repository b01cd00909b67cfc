/-
  The plain law of the queue: what is pushed and popped, as permutations.
  Conditions: as each lemma states them.
-/
import Derived.Test.YtaeacdnefklakaaQe
namespace Go.Proofs.Ytaeacdnefklakaa.L
open Go.RowKit Go.Proofs.YtaeacdnefklakaaW.PrintWords Go.Proofs.YtaeacdnefklakaaW.PrintLast Go.Proofs.YtaeacdnefklakaaW.PrintMore Go.Fr
set_option linter.unusedVariables false
set_option linter.unusedSimpArgs false

theorem swpI_perm (xs : List S73) (i j : Nat) (hi : i < xs.length) (hj : j < xs.length) : (swpI xs i j).Perm xs := by
  unfold swpI
  have e1 : xs.getD j z73 = xs[j] := by simp [hj]
  have e2 : xs.getD i z73 = xs[i] := by simp [hi]
  rw [e1, e2]
  exact List.set_set_perm hi hj
theorem upI_perm (xs : List S73) (j : Nat) (hj : j < xs.length) : (upI xs j).Perm xs := by
  induction j using Nat.strongRecOn generalizing xs with
  | _ j ih =>
    rw [upI]
    split
    · exact List.Perm.refl _
    · split
      · exact (ih _ (by omega) _ (by rw [swpI_length]; omega)).trans (swpI_perm xs _ _ (by omega) hj)
      · exact List.Perm.refl _
theorem downI_perm (xs : List S73) (n i : Nat) (hn : n ≤ xs.length) : (downI xs n i).1.Perm xs := by
  induction hk : n - i using Nat.strongRecOn generalizing xs i with
  | _ k ih =>
    rw [downI]
    split
    · rename_i h
      split
      · have h1 := sonI_gt xs n i
        have h2 := sonI_lt xs n i h
        exact (ih _ (by omega) _ _ (by rw [swpI_length]; exact hn) rfl).trans (swpI_perm xs _ _ (by omega) (by omega))
      · exact List.Perm.refl _
    · exact List.Perm.refl _
theorem pushI_perm (xs : List S73) (x : S73) : (pushI xs x).Perm (x :: xs) := by
  unfold pushI
  exact (upI_perm _ _ (by simp)).trans (List.perm_append_singleton x xs)
theorem popI_perm (xs : List S73) (x : S73) (ys : List S73) (h0 : 0 < xs.length) (h : popI xs = (x, ys)) : xs.Perm (x :: ys) := by
  obtain ⟨m, hm⟩ : ∃ m, xs.length = m + 1 := ⟨xs.length - 1, by omega⟩
  unfold popI at h
  simp only [hm, Nat.add_sub_cancel] at h
  obtain ⟨zs, hz⟩ : ∃ zs, (downI (swpI xs 0 m) m 0).1 = zs := ⟨_, rfl⟩
  rw [hz] at h
  injection h with h1 h2
  have hp : zs.Perm xs := by
    rw [← hz]
    exact (downI_perm _ _ _ (by rw [swpI_length]; omega)).trans (swpI_perm xs 0 m (by omega) (by omega))
  have hl : zs.length = m + 1 := by rw [hp.length_eq, hm]
  have e : zs = zs.take m ++ [zs.getD m z73] := by
    have e1 : zs.getD m z73 = zs[m] := by simp [hl]
    rw [e1]
    have := (List.take_append_drop m zs).symm
    rw [List.drop_eq_getElem_cons (by omega), List.drop_of_length_le (by omega)] at this
    exact this
  rw [h1, h2] at e
  exact hp.symm.trans (by rw [e]; exact List.perm_append_singleton x ys)
end Go.Proofs.Ytaeacdnefklakaa.L
