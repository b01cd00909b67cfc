/-
  The plain laws of SpfParts and SpfReaches.
  Conditions: as each lemma states them.
-/
import Derived.Test.YtaeacdnefklakaaBs
namespace Go.Proofs.Ytaeacdnefklakaa.M
open Go.RowKit Go.Se
set_option linter.unusedVariables false

abbrev wf0 (ws : List L.S69) (v : Nat) : List Int := (ws.getD v L.z69).f0
abbrev wf1 (ws : List L.S69) (v : Nat) : Int := (ws.getD v L.z69).f1
theorem gt_f0 (ws : List L.S69) (v : Int) (h0 : 0 ≤ v) (h1 : v < ws.length) : gt (ws.map (·.f0)) v = wf0 ws v.toNat := by
  have : v.toNat < ws.length := by omega
  simp [gt, wf0, this]
theorem gt_f1 (ws : List L.S69) (v : Int) (h0 : 0 ≤ v) (h1 : v < ws.length) : gt (ws.map (·.f1)) v = wf1 ws v.toNat := by
  have : v.toNat < ws.length := by omega
  simp [gt, wf1, this]
theorem gt_app_l {α : Type} [Inhabited α] (xs ys : List α) (i : Nat) (h : i < xs.length) : gt (xs ++ ys) (i : Int) = gt xs (i : Int) := by
  simp [gt, List.getElem?_append_left h]
theorem gt_app_r {α : Type} [Inhabited α] (xs : List α) (y : α) : gt (xs ++ [y]) (xs.length : Int) = y := by
  simp [gt]
/-- A way, from its first node on. -/
theorem chain {n frm : Nat} {l : List L.S60} {ws : List L.S69} (h : L.Ways n frm l ws) (hf : frm < n) : ∀ (m : Nat) (v : Nat), v < n → 0 ≤ wf1 ws v → (wf1 ws v).toNat ≤ m →
    ∃ cs : Nat → Int, cs 0 = 0 ∧ cs ((wf0 ws v).length - 1) = wf1 ws v ∧ 1 ≤ (wf0 ws v).length ∧ (v ≠ frm → 2 ≤ (wf0 ws v).length) ∧ ∀ i, i < (wf0 ws v).length → ∃ u, u < n ∧ gt (wf0 ws v) (i : Int) = (u : Int) ∧ wf0 ws u = (wf0 ws v).take (i + 1) ∧ wf1 ws u = cs i ∧ 0 ≤ cs i ∧ (1 ≤ i → cs (i - 1) < cs i)
  | m, v, hv, h0, hm => by
    by_cases hvf : v = frm
    · subst hvf
      have h1 : wf0 ws v = [(v : Int)] := h.home.1
      have h2 : wf1 ws v = 0 := h.home.2
      refine ⟨fun _ => 0, rfl, h2.symm, by rw [h1]; simp, fun e => absurd rfl e, fun i hi => ?_⟩
      rw [h1] at hi ⊢
      simp at hi
      subst hi
      exact ⟨v, hv, by simp [gt], by rw [h1]; rfl, h2, Int.le_refl _, fun h => by omega⟩
    · obtain ⟨p, hp, hp0, hlt, happ, _⟩ := h.par v hv hvf h0
      have hp0 : 0 ≤ wf1 ws p := hp0
      have hlt : wf1 ws p < wf1 ws v := hlt
      have happ : wf0 ws v = wf0 ws p ++ [(v : Int)] := happ
      cases m with
      | zero => omega
      | succ m =>
        obtain ⟨cs, c0, cl, l1, _, ci⟩ := chain h hf m p hp hp0 (by omega)
        have hL : (wf0 ws v).length = (wf0 ws p).length + 1 := by rw [happ]; simp
        refine ⟨fun i => if i < (wf0 ws p).length then cs i else wf1 ws v, ?_, ?_, by omega, fun _ => by omega, fun i hi => ?_⟩
        · simp only; rw [if_pos (by omega)]; exact c0
        · simp only; rw [if_neg (by omega)]
        · by_cases hi2 : i < (wf0 ws p).length
          · obtain ⟨u, a, b, c, d, e, f⟩ := ci i hi2
            refine ⟨u, a, by rw [happ, gt_app_l _ _ _ hi2]; exact b, by rw [happ, c, List.take_append_of_le_length (by omega)], ?_, ?_, fun h1 => ?_⟩
            · simp only; rw [if_pos hi2]; exact d
            · simp only; rw [if_pos hi2]; exact e
            · simp only; rw [if_pos hi2, if_pos (by omega)]; exact f h1
          · have e : i = (wf0 ws p).length := by omega
            refine ⟨v, hv, by rw [happ, e]; exact gt_app_r _ _, by rw [List.take_of_length_le (by omega)], ?_, ?_, fun h1 => ?_⟩
            · simp only; rw [if_neg hi2]
            · simp only; rw [if_neg hi2]; exact h0
            · simp only; rw [if_neg hi2, if_pos (by omega), show i - 1 = (wf0 ws p).length - 1 by omega, cl]; exact hlt
/-- What Best answers, if it finds a way. -/
theorem best_found {xs : List T59} {n a b : Int} {r : List Int} {c : Int} (h : bestI xs n a b = (r, c, 0)) :
    ∃ m f : Nat, n = m ∧ a = f ∧ f < m ∧ 0 ≤ b ∧ b < n ∧ b ≠ a ∧ L.chk n (xs.map oL) = 0 ∧ L.Ways m f (xs.map oL) (L.allI (xs.map oL) m f) ∧ r = wf0 (L.allI (xs.map oL) m f) b.toNat ∧ c = wf1 (L.allI (xs.map oL) m f) b.toNat ∧ 0 ≤ c := by
  unfold bestI at h
  split at h
  · simp at h
  · rename_i hg
    have hg1 : L.chk n (xs.map oL) = 0 := Decidable.byContradiction fun e => hg (.inl e)
    obtain ⟨m, rfl⟩ := Int.eq_ofNat_of_zero_le (show 0 ≤ n by omega)
    obtain ⟨f, rfl⟩ := Int.eq_ofNat_of_zero_le (show 0 ≤ a by omega)
    have hw := L.allI_ways (frm := f) hg1 (by omega)
    rw [Int.toNat_natCast, Int.toNat_natCast] at h
    have hl := hw.len
    rw [gt_f1 _ _ (by omega) (by omega), gt_f0 _ _ (by omega) (by omega)] at h
    split at h
    · simp at h
    · simp only [Prod.mk.injEq, and_true] at h
      exact ⟨m, f, rfl, rfl, by omega, by omega, by omega, by omega, hg1, hw, h.1.symm, h.2.symm, by omega⟩
theorem best_of {xs : List T59} {m f u : Nat} (hg1 : L.chk m (xs.map oL) = 0) (hf : f < m) (hw : L.Ways m f (xs.map oL) (L.allI (xs.map oL) m f)) (hu : u < m) (huf : u ≠ f) (h0 : 0 ≤ wf1 (L.allI (xs.map oL) m f) u) :
    bestI xs m f u = (wf0 (L.allI (xs.map oL) m f) u, wf1 (L.allI (xs.map oL) m f) u, 0) := by
  have hl := hw.len
  unfold bestI
  rw [if_neg (by omega), Int.toNat_natCast, Int.toNat_natCast, gt_f1 _ _ (by omega) (by omega), gt_f0 _ _ (by omega) (by omega), Int.toNat_natCast, if_neg (by omega)]
/-- The law of SpfParts. -/
theorem parts_law {xs : List T59} {n a b : Int} {r : List Int} {c : Int} (h : bestI xs n a b = (r, c, 0)) :
    ∃ cs : Nat → Int, cs 0 = 0 ∧ cs (r.length - 1) = c ∧ (2 ≤ r.length ∧ r.length ≤ 17) ∧ ∀ i : Nat, 1 ≤ i → i < r.length → bestI xs n a (gt r (i : Int)) = (r.take (i + 1), cs i, 0) ∧ cs (i - 1) < cs i := by
  obtain ⟨m, f, rfl, rfl, hf, hb0, hb1, hbf, hg1, hw, rfl, rfl, h0⟩ := best_found h
  obtain ⟨cs, c0, cl, _, l2, ci⟩ := chain hw hf _ b.toNat (by omega) h0 (Nat.le_refl _)
  refine ⟨cs, c0, cl, ⟨l2 (by omega), hw.short _ (by omega)⟩, fun i h1 hi => ?_⟩
  obtain ⟨u, hu, e1, e2, e3, e4, e5⟩ := ci i hi
  have e5 := e5 h1
  obtain ⟨_, _, _, _, _, e6, _⟩ := ci (i - 1) (by omega)
  refine ⟨?_, e5⟩
  rw [e1, best_of hg1 hf hw hu ?_ (by rw [e3]; exact e4), e2, e3]
  intro e
  subst e
  have : wf1 (L.allI (xs.map oL) m u) u = 0 := hw.home.2
  omega
end Go.Proofs.Ytaeacdnefklakaa.M
