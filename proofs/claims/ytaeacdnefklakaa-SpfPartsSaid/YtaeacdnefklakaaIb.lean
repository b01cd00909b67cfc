/-
  What holds of a search all along: its ways, its queue's items, how many.
  Conditions: as each lemma states them.
-/
import Derived.Test.YtaeacdnefklakaaIa
import Derived.Test.YtaeacdnefklakaaTb
namespace Go.Proofs.Ytaeacdnefklakaa.L
open Go.RowKit Go.Proofs.YtaeacdnefklakaaW.PrintWords Go.Proofs.YtaeacdnefklakaaW.PrintLast Go.Proofs.YtaeacdnefklakaaW.PrintMore Go.Fr
set_option linter.unusedVariables false
set_option linter.unusedSimpArgs false

/-- The settled ones. -/
def nset (ws : List S69) : Nat := ws.countP (fun w => w.f2)
/-- Costs up to c, routes up to L nodes, up to r items. -/
structure InvB (n : Nat) (c : Int) (L r : Nat) (st : List S69 × List S73) : Prop where
  len : st.1.length = n
  way : ∀ i, i < n → st.1.getD i z69 = ⟨[], -1, false⟩ ∨ (0 ≤ (st.1.getD i z69).f1 ∧ (st.1.getD i z69).f1 ≤ c ∧ 1 ≤ (st.1.getD i z69).f0.length ∧ (st.1.getD i z69).f0.length ≤ L)
  itm : ∀ x, x ∈ st.2 → 0 ≤ x.f2 ∧ x.f2 < n ∧ 0 ≤ (st.1.getD x.f2.toNat z69).f1
  room : st.2.length ≤ r

theorem InvB.mono {n : Nat} {c c' : Int} {L L' r r' : Nat} {st : List S69 × List S73} (h : InvB n c L r st) (hc : c ≤ c') (hL : L ≤ L') (hr : r ≤ r') : InvB n c' L' r' st :=
  ⟨h.len, fun i hi => (h.way i hi).imp id (fun ⟨a, b, d, e⟩ => ⟨a, by omega, d, by omega⟩), h.itm, Nat.le_trans h.room hr⟩

theorem getD_set_eq {ws : List S69} {i : Nat} (w : S69) (hi : i < ws.length) : (ws.set i w).getD i z69 = w := by simp [hi]
theorem getD_set_ne' {ws : List S69} {i j : Nat} (w : S69) (h : i ≠ j) : (ws.set i w).getD j z69 = ws.getD j z69 := by simp [h]

theorem offer_inv {n : Nat} {c : Int} {L r : Nat} {st : List S69 × List S73} (h : InvB n c L r st) {tn : Nat} (htn : tn < n) {lst : List Int} {cost : Int} (h0 : 0 ≤ cost) (hc : cost ≤ c) (h1 : 1 ≤ lst.length) (hL : lst.length ≤ L) : InvB n c L (r + 1) (offerI st tn lst cost) ∧ nset (offerI st tn lst cost).1 = nset st.1 := by
  unfold offerI
  simp only
  split
  · exact ⟨h.mono (Int.le_refl _) (Nat.le_refl _) (by omega), rfl⟩
  · rename_i hs
    have hf2 : (st.1.getD tn z69).f2 = false := by
      cases hq : (st.1.getD tn z69).f2 with
      | false => rfl
      | true => exact absurd (by rw [hq]; rfl) hs
    have htl : tn < st.1.length := by rw [h.len]; exact htn
    refine ⟨⟨by simp [h.len], fun i hi => ?_, fun x hx => ?_, ?_⟩, ?_⟩
    · by_cases e : tn = i
      · subst e
        rw [getD_set_eq _ htl]
        exact Or.inr ⟨h0, hc, h1, hL⟩
      · rw [getD_set_ne' _ e]
        exact h.way i hi
    · have hx := (pushI_perm _ _).mem_iff.1 hx
      have key : 0 ≤ x.f2 ∧ x.f2 < n ∧ (x.f2 = (tn : Int) ∨ 0 ≤ (st.1.getD x.f2.toNat z69).f1) := by
        rcases List.mem_cons.1 hx with rfl | hx
        · exact ⟨by simp, by simp; exact htn, Or.inl rfl⟩
        · obtain ⟨a, b, d⟩ := h.itm x hx
          exact ⟨a, b, Or.inr d⟩
      refine ⟨key.1, key.2.1, ?_⟩
      by_cases e : tn = x.f2.toNat
      · rw [← e, getD_set_eq _ htl]
        exact h0
      · rw [getD_set_ne' _ e]
        rcases key.2.2 with k | k
        · exact absurd (by rw [k]; simp) e
        · exact k
    · rw [(pushI_perm _ _).length_eq]
      have := h.room
      simp only [List.length_cons]
      omega
    · unfold nset
      rw [List.countP_set htl]
      have e : st.1[tn].f2 = false := by
        have : st.1.getD tn z69 = st.1[tn] := by simp [htl]
        rw [← this]; exact hf2
      simp only [e, hf2]
      simp

theorem fold_inv {n : Nat} {c : Int} {L : Nat} (l : List S60) (f0 : List Int) (f1 : Int) : ∀ (os : List Int) (r : Nat) (st : List S69 × List S73), InvB n c L r st → (∀ i, i ∈ os → 0 ≤ (rd_T60 l i).f1 ∧ (rd_T60 l i).f1 < n ∧ 0 ≤ f1 + (rd_T60 l i).f3 ∧ f1 + (rd_T60 l i).f3 ≤ c) → f0.length + 1 ≤ L →
    InvB n c L (r + os.length) (os.foldl (fun st i => offerI st ((rd_T60 l i).f1).toNat (f0 ++ [(rd_T60 l i).f1]) (f1 + (rd_T60 l i).f3)) st) ∧ nset (os.foldl (fun st i => offerI st ((rd_T60 l i).f1).toNat (f0 ++ [(rd_T60 l i).f1]) (f1 + (rd_T60 l i).f3)) st).1 = nset st.1
  | [], r, st, h, _, _ => ⟨by simpa using h, rfl⟩
  | i :: os, r, st, h, ho, hL => by
    obtain ⟨a, b, d, e⟩ := ho i (List.mem_cons_self ..)
    obtain ⟨h1, h2⟩ := offer_inv h (tn := ((rd_T60 l i).f1).toNat) (by omega) (lst := f0 ++ [(rd_T60 l i).f1]) d e (by simp) (by simpa using hL)
    obtain ⟨h3, h4⟩ := fold_inv l f0 f1 os (r + 1) _ h1 (fun j hj => ho j (List.mem_cons_of_mem _ hj)) hL
    rw [List.foldl_cons]
    exact ⟨h3.mono (Int.le_refl _) (Nat.le_refl _) (by simp only [List.length_cons]; omega), h4.trans h2⟩

/-- The invariant of the search's loop. -/
def Inv (n : Nat) (st : List S69 × List S73) : Prop := InvB n (65535 * nset st.1) (1 + nset st.1) (1 + 19 * nset st.1) st

/-- Links as graph.Check lets them in. -/
structure OkL (n : Nat) (l : List S60) : Prop where
  n16 : n ≤ 16
  l64 : l.length ≤ 64
  ends : ∀ x, x ∈ l → 0 ≤ x.f1 ∧ x.f1 < n
  cost : ∀ x, x ∈ l → 1 ≤ x.f3 ∧ x.f3 ≤ 65535
  outs : ∀ node : Nat, (idxI l node l.length).length ≤ 19

theorem nset_le (ws : List S69) : nset ws ≤ ws.length := List.countP_le_length
theorem rd_mem {l : List S60} {i : Int} (h0 : 0 ≤ i) (h1 : i < l.length) : rd_T60 l i ∈ l := by
  obtain ⟨k, rfl⟩ := Int.eq_ofNat_of_zero_le h0
  have hk : k < l.length := by omega
  simp [rd_T60, hk]
theorem outsI_len (l : List S60) (node : Int) : (outsI l node).length = (idxI l node l.length).length := by
  unfold outsI sortO
  rw [insO_length]

theorem settle_core {n : Nat} {l : List S60} (hl : OkL n l) {st : List S69 × List S73} (h : Inv n st) {ys : List S73} (hys : InvB n (65535 * nset st.1) (1 + nset st.1) (19 * nset st.1) (st.1, ys)) {k : Nat} (hkn : k < n)
    (hw : 0 ≤ (st.1.getD k z69).f1 ∧ (st.1.getD k z69).f1 ≤ 65535 * nset st.1 ∧ 1 ≤ (st.1.getD k z69).f0.length ∧ (st.1.getD k z69).f0.length ≤ 1 + nset st.1) :
    Inv n (settleI l (st.1, ys) k) ∧ (settleI l (st.1, ys) k).2.length + 20 * (n - nset (settleI l (st.1, ys) k).1) ≤ ys.length + 20 * (n - nset st.1) := by
  have hkl : k < st.1.length := by rw [h.len]; exact hkn
  unfold settleI
  simp only
  by_cases hf : (st.1.getD k z69).f2 = true
  · rw [if_pos hf]
    exact ⟨hys.mono (Int.le_refl _) (Nat.le_refl _) (by simp only; omega), Nat.le_refl _⟩
  · rw [if_neg hf]
    obtain ⟨w, hwe⟩ : ∃ w, st.1.getD k z69 = w := ⟨_, rfl⟩
    rw [hwe] at hf hw ⊢
    have e0 : st.1[k] = w := by rw [← hwe]; simp [hkl]
    have hn1 : nset (st.1.set k ⟨w.f0, w.f1, true⟩) = nset st.1 + 1 := by
      unfold nset
      rw [List.countP_set hkl, e0]
      simp [hf]
    have hle : nset (st.1.set k ⟨w.f0, w.f1, true⟩) ≤ n := by
      have := nset_le (st.1.set k ⟨w.f0, w.f1, true⟩)
      rw [List.length_set, h.len] at this
      exact this
    have hb : InvB n (65535 * ((nset st.1 + 1 : Nat) : Int)) (1 + (nset st.1 + 1)) ys.length (st.1.set k ⟨w.f0, w.f1, true⟩, ys) := by
      refine ⟨by simp [h.len], fun i hi => ?_, fun y hy => ?_, Nat.le_refl _⟩
      · by_cases e : k = i
        · subst e
          rw [getD_set_eq _ hkl]
          exact Or.inr ⟨hw.1, by have := hw.2.1; simp only at this ⊢; omega, hw.2.2.1, by have := hw.2.2.2; simp only at this ⊢; omega⟩
        · rw [getD_set_ne' _ e]
          have hy := hys.way i hi
          simp only at hy
          exact hy.imp id (fun ⟨a, b, d, e⟩ => ⟨a, by omega, d, by omega⟩)
      · obtain ⟨a, b, d⟩ := hys.itm y hy
        refine ⟨a, b, ?_⟩
        by_cases e : k = y.f2.toNat
        · rw [← e, getD_set_eq _ hkl]; exact hw.1
        · rw [getD_set_ne' _ e]; exact d
    obtain ⟨h1, h2⟩ := fold_inv l w.f0 w.f1 (outsI l (k : Int)) ys.length _ hb (fun i hi => by
      obtain ⟨a, b, _⟩ := outsI_mem hi
      have hm := rd_mem a b
      have h3 := hl.ends _ hm
      have h4 := hl.cost _ hm
      have h5 := hw.1
      have h6 := hw.2.1
      generalize (rd_T60 l i).f3 = z at *
      exact ⟨h3.1, h3.2, by omega, by omega⟩) (by have := hw.2.2.2; omega)
    have ho := hl.outs k
    rw [← outsI_len] at ho
    refine ⟨?_, ?_⟩
    · unfold Inv
      rw [h2]
      simp only
      rw [hn1]
      exact h1.mono (Int.le_refl _) (Nat.le_refl _) (by have := hys.room; simp only at this; omega)
    · rw [h2]
      simp only
      rw [hn1]
      have h3 := h1.room
      rw [hn1] at hle
      omega
theorem settle_inv {n : Nat} {l : List S60} (hl : OkL n l) {st : List S69 × List S73} (h : Inv n st) (x : S73) (ys : List S73) (h0 : 0 < st.2.length) (hp : popI st.2 = (x, ys)) :
    Inv n (settleI l (st.1, ys) x.f2.toNat) ∧ Ready l st.1 ys x.f2.toNat ∧ 0 ≤ x.f2 ∧ (settleI l (st.1, ys) x.f2.toNat).2.length + 20 * (n - nset (settleI l (st.1, ys) x.f2.toNat).1) < st.2.length + 20 * (n - nset st.1) := by
  have hperm := popI_perm st.2 x ys h0 hp
  have hlen : st.2.length = ys.length + 1 := by rw [hperm.length_eq]; rfl
  obtain ⟨x0, x1, x2⟩ := h.itm x (hperm.mem_iff.2 (List.mem_cons_self ..))
  obtain ⟨k, hk⟩ := Int.eq_ofNat_of_zero_le x0
  rw [hk] at x1 x2 ⊢
  rw [Int.toNat_natCast] at x2 ⊢
  have hkn : k < n := by omega
  have hkl : k < st.1.length := by rw [h.len]; exact hkn
  have hn := hl.n16
  have hns := nset_le st.1
  rw [h.len] at hns
  have hw := h.way k hkn
  have hw : 0 ≤ (st.1.getD k z69).f1 ∧ (st.1.getD k z69).f1 ≤ 65535 * nset st.1 ∧ 1 ≤ (st.1.getD k z69).f0.length ∧ (st.1.getD k z69).f0.length ≤ 1 + nset st.1 := by
    rcases hw with e | hw
    · rw [e] at x2; simp at x2
    · exact hw
  have hroom := h.room
  have hys : InvB n (65535 * nset st.1) (1 + nset st.1) (19 * nset st.1) (st.1, ys) := ⟨h.len, h.way, fun y hy => h.itm y (hperm.mem_iff.2 (List.mem_cons_of_mem _ hy)), by show ys.length ≤ _; omega⟩
  refine ⟨?_, ⟨hl.l64, by rw [h.len]; exact hn, hkl, hl.outs k, fun y hy => by rw [h.len]; exact hl.ends y hy, fun y hy => by have := hl.cost y hy; omega, by have := hl.l64; omega, by omega, by omega⟩, by omega, ?_⟩
  · exact (settle_core hl h hys hkn hw).1
  · have := (settle_core hl h hys hkn hw).2
    omega
end Go.Proofs.Ytaeacdnefklakaa.L
