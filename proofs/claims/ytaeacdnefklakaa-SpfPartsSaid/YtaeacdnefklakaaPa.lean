/-
  The plain law of spf.All: each way is its parent's way and one node; the reached nodes are closed under links.
  Conditions: as each lemma states them.
-/
import Derived.Test.YtaeacdnefklakaaJb
namespace Go.Proofs.Ytaeacdnefklakaa.L
open Go.RowKit
set_option linter.unusedVariables false
set_option linter.unusedSimpArgs false

theorem swpN_perm (xs : List Int) (i j : Nat) (hi : i < xs.length) (hj : j < xs.length) : (swpN xs i j).Perm xs := by
  unfold swpN
  rw [List.perm_iff_count]
  intro a
  have e1 : xs.getD j 0 = xs[j] := by simp [hj]
  have e2 : xs.getD i 0 = xs[i] := by simp [hi]
  rw [e1, e2, List.count_set (by simpa using hj), List.count_set hi]
  by_cases hij : i = j
  · subst hij
    simp
    split
    · rename_i h
      have : 0 < xs.count a := List.count_pos_iff.2 (h ▸ List.getElem_mem hi)
      omega
    · omega
  · have e3 : (xs.set i xs[j])[j]'(by simpa using hj) = xs[j] := by rw [List.getElem_set_ne hij]
    rw [e3]
    have h1 : xs[i] = a → 0 < xs.count a := fun h => List.count_pos_iff.2 (h ▸ List.getElem_mem hi)
    have h2 : xs[j] = a → 0 < xs.count a := fun h => List.count_pos_iff.2 (h ▸ List.getElem_mem hj)
    split <;> split <;> simp_all <;> omega
theorem insI_perm (key : Int → Int) : ∀ (j : Nat) (xs : List Int), j < xs.length → (insI key j xs).Perm xs
  | 0, _, _ => .refl _
  | j + 1, xs, hj => by
    unfold insI
    split
    · exact (insI_perm key j _ (by rw [swpN_length]; omega)).trans (swpN_perm xs (j + 1) j hj (by omega))
    · exact .refl _
theorem insO_perm (key : Int → Int) (n : Nat) : ∀ (f i : Nat) (xs : List Int), n ≤ xs.length → (insO key n f i xs).Perm xs
  | 0, _, _, _ => .refl _
  | f + 1, i, xs, hn => by
    unfold insO
    split
    · exact (insO_perm key n f (i + 1) _ (by rw [insI_length]; exact hn)).trans (insI_perm key i xs (by omega))
    · exact .refl _
theorem outsI_perm (l : List S60) (node : Int) : (outsI l node).Perm (idxI l node l.length) := insO_perm _ _ _ _ _ (Nat.le_refl _)

theorem getD_out (ws : List S69) {i : Nat} (h : ws.length ≤ i) : ws.getD i z69 = z69 := by
  rw [List.getD_eq_getElem?_getD, List.getElem?_eq_none h]; rfl
/-- A way as it stands. -/
abbrev wa (st : List S69 × List S73) (v : Nat) : S69 := st.1.getD v z69
/-- The search's other invariant. T: the links that were offered, if their node is settled; k: a node whose item was taken. -/
structure Par (n frm : Nat) (l : List S60) (T : S60 → Prop) (k : Nat → Prop) (st : List S69 × List S73) : Prop where
  len : st.1.length = n
  home : (wa st frm).f0 = [(frm : Int)] ∧ (wa st frm).f1 = 0
  non : ∀ v, v < n → (wa st v).f1 < 0 → (wa st v).f0 = []
  par : ∀ v, v < n → v ≠ frm → 0 ≤ (wa st v).f1 → ∃ p, p < n ∧ (wa st p).f2 = true ∧ 0 ≤ (wa st p).f1 ∧ (wa st p).f1 < (wa st v).f1 ∧ (wa st v).f0 = (wa st p).f0 ++ [(v : Int)] ∧ ∃ x, x ∈ l ∧ x.f0 = p ∧ x.f1 = v
  itm : ∀ x, x ∈ st.2 → 0 ≤ x.f2 ∧ x.f2 < n ∧ 0 ≤ (wa st x.f2.toNat).f1
  settled : ∀ p, p < n → (wa st p).f2 = true → 0 ≤ (wa st p).f1
  wait : ∀ v, v < n → 0 ≤ (wa st v).f1 → (wa st v).f2 = false → k v ∨ ∃ x, x ∈ st.2 ∧ x.f2 = v
  outs : ∀ x, x ∈ l → T x → (wa st x.f0.toNat).f2 = true → 0 ≤ (wa st x.f1.toNat).f1

theorem offer_par {n frm : Nat} {l : List S60} {T : S60 → Prop} {k : Nat → Prop} {st : List S69 × List S73} (hl : OkL n l) (hl0 : ∀ x, x ∈ l → 0 ≤ x.f0 ∧ x.f0 < n) (h : Par n frm l T k st) {tn p : Nat} (htn : tn < n) (hp : p < n) (hps : (wa st p).f2 = true) {lst : List Int} {cost : Int}
    (hc : (wa st p).f1 < cost) (hlst : lst = (wa st p).f0 ++ [(tn : Int)]) (hlink : ∃ x, x ∈ l ∧ x.f0 = p ∧ x.f1 = tn) :
    Par n frm l (fun x => T x ∨ x.f1 = tn) k (offerI st tn lst cost) ∧ (∀ i, (wa st i).f2 = true → wa (offerI st tn lst cost) i = wa st i) := by
  have hp0 := h.settled p hp hps
  have hfn : frm < n := by
    have := h.home.1
    by_cases e : frm < st.1.length
    · rw [← h.len]; exact e
    · rw [wa, getD_out _ (by omega)] at this; cases this
  by_cases hs : ((wa st tn).f2 || (decide (0 ≤ (wa st tn).f1) && !betterI cost lst (wa st tn).f1 (wa st tn).f0)) = true
  · have e : offerI st tn lst cost = st := by
      unfold offerI
      simp only
      rw [if_pos hs]
    rw [e]
    refine ⟨⟨h.len, h.home, h.non, h.par, h.itm, h.settled, h.wait, fun x hx hT hf => ?_⟩, fun _ _ => rfl⟩
    rcases hT with hT | hT
    · exact h.outs x hx hT hf
    · rw [hT]
      simp only [Bool.or_eq_true, Bool.and_eq_true, decide_eq_true_eq] at hs
      rcases hs with hs | hs
      · exact h.settled tn htn hs
      · exact hs.1
  · have e : offerI st tn lst cost = (st.1.set tn ⟨lst, cost, (wa st tn).f2⟩, pushI st.2 ⟨cost, lst.length, tn⟩) := by
      unfold offerI
      simp only
      rw [if_neg hs]
    have hf2 : (wa st tn).f2 = false := by
      cases hq : (wa st tn).f2 with
      | false => rfl
      | true => exact absurd (by rw [hq]; rfl) hs
    have htl : tn < st.1.length := by rw [h.len]; exact htn
    rw [e]
    have w1 : wa (st.1.set tn ⟨lst, cost, (wa st tn).f2⟩, pushI st.2 ⟨cost, lst.length, tn⟩) tn = ⟨lst, cost, (wa st tn).f2⟩ := getD_set_eq _ htl
    have w2 : ∀ i, tn ≠ i → wa (st.1.set tn ⟨lst, cost, (wa st tn).f2⟩, pushI st.2 ⟨cost, lst.length, tn⟩) i = wa st i := fun i hi => getD_set_ne' _ hi
    have hset : ∀ i, (wa st i).f2 = true → tn ≠ i := fun i hi e => by subst e; rw [hf2] at hi; cases hi
    have hpn := hset p hps
    have hfr : tn ≠ frm := fun e => by
      subst e
      have h0 := h.home.2
      simp only [Bool.or_eq_true, Bool.and_eq_true, decide_eq_true_eq, not_or, not_and, Bool.not_eq_true', Bool.not_eq_false'] at hs
      have := hs.2 (by omega)
      unfold betterI at this
      rw [h0] at this
      have e1 : cost ≠ 0 := by omega
      simp [e1] at this
      omega
    have mono : ∀ i, 0 ≤ (wa st i).f1 → 0 ≤ (wa (st.1.set tn ⟨lst, cost, (wa st tn).f2⟩, pushI st.2 ⟨cost, lst.length, tn⟩) i).f1 := fun i hi => by
      by_cases e : tn = i
      · subst e; rw [w1]; simp only; omega
      · rw [w2 i e]; exact hi
    refine ⟨⟨by simp [h.len], by rw [w2 _ hfr]; exact h.home, fun v hv hn => ?_, fun v hv hvf hv0 => ?_, fun x hx => ?_, fun q hq hs => ?_, fun v hv h0 hn => ?_, fun x hx hT hf => ?_⟩, fun i hi => w2 i (hset i hi)⟩
    · by_cases e : tn = v
      · subst e; rw [w1] at hn; simp only at hn; omega
      · rw [w2 v e] at hn ⊢; exact h.non v hv hn
    · by_cases e : tn = v
      · subst e
        refine ⟨p, hp, ?_⟩
        rw [w1, w2 p hpn]
        exact ⟨hps, hp0, hc, hlst, hlink⟩
      · rw [w2 v e] at hv0 ⊢
        obtain ⟨q, hq, hqs, h1⟩ := h.par v hv hvf hv0
        refine ⟨q, hq, ?_⟩
        rw [w2 q (hset q hqs)]
        exact ⟨hqs, h1⟩
    · rcases List.mem_cons.1 ((pushI_perm _ _).mem_iff.1 hx) with rfl | hx
      · refine ⟨by simp, by simp; exact htn, ?_⟩
        simp only [Int.toNat_natCast]
        rw [w1]; simp only; omega
      · obtain ⟨a, b, d⟩ := h.itm x hx
        exact ⟨a, b, mono _ d⟩
    · by_cases e : tn = q
      · subst e; rw [w1] at hs; simp only at hs; rw [hf2] at hs; cases hs
      · rw [w2 q e] at hs ⊢; exact h.settled q hq hs
    · by_cases e : tn = v
      · subst e
        exact .inr ⟨_, (pushI_perm _ _).mem_iff.2 List.mem_cons_self, rfl⟩
      · rw [w2 v e] at h0 hn
        rcases h.wait v hv h0 hn with hk | ⟨x, hx, hx2⟩
        · exact .inl hk
        · exact .inr ⟨x, (pushI_perm _ _).mem_iff.2 (List.mem_cons_of_mem _ hx), hx2⟩
    · have hf' : (wa st x.f0.toNat).f2 = true := by
        by_cases e : tn = x.f0.toNat
        · rw [← e, w1] at hf; simp only at hf; rw [hf2] at hf; cases hf
        · rw [w2 _ e] at hf; exact hf
      rcases hT with hT | hT
      · exact mono _ (h.outs x hx hT hf')
      · rw [hT]
        simp only [Int.toNat_natCast]
        rw [w1]; simp only; omega
theorem fold_par {n frm : Nat} {l : List S60} {k : Nat → Prop} (hl : OkL n l) (hl0 : ∀ x, x ∈ l → 0 ≤ x.f0 ∧ x.f0 < n) {p : Nat} (hp : p < n) : ∀ (os : List Int) (T : S60 → Prop) (st : List S69 × List S73) (w : S69), Par n frm l T k st → (wa st p).f2 = true → wa st p = w → (∀ i, i ∈ os → rd_T60 l i ∈ l ∧ (rd_T60 l i).f0 = p) →
    Par n frm l (fun x => T x ∨ ∃ i, i ∈ os ∧ x.f1 = (rd_T60 l i).f1) k (os.foldl (fun st i => offerI st ((rd_T60 l i).f1).toNat (w.f0 ++ [(rd_T60 l i).f1]) (w.f1 + (rd_T60 l i).f3)) st)
  | [], T, st, w, h, _, _, _ => by
    refine ⟨h.len, h.home, h.non, h.par, h.itm, h.settled, h.wait, fun x hx hT hf => h.outs x hx ?_ hf⟩
    rcases hT with hT | ⟨i, hi, _⟩
    · exact hT
    · cases hi
  | i :: os, T, st, w, h, hs, hw, ho => by
    subst hw
    obtain ⟨hm, hf⟩ := ho i List.mem_cons_self
    obtain ⟨e0, e1⟩ := hl.ends _ hm
    obtain ⟨c0, c1⟩ := hl.cost _ hm
    have ht : (((rd_T60 l i).f1).toNat : Int) = (rd_T60 l i).f1 := by omega
    obtain ⟨h1, h2⟩ := offer_par hl hl0 h (tn := ((rd_T60 l i).f1).toNat) (p := p) (by omega) hp hs (lst := (wa st p).f0 ++ [(rd_T60 l i).f1]) (cost := (wa st p).f1 + (rd_T60 l i).f3) (by omega) (by rw [ht]) ⟨_, hm, hf, ht.symm⟩
    have h3 := fold_par hl hl0 hp os _ _ (wa st p) h1 (by rw [h2 p hs]; exact hs) (h2 p hs) (fun j hj => ho j (List.mem_cons_of_mem _ hj))
    rw [List.foldl_cons]
    refine ⟨h3.len, h3.home, h3.non, h3.par, h3.itm, h3.settled, h3.wait, fun x hx hT hf => h3.outs x hx ?_ hf⟩
    rcases hT with hT | ⟨j, hj, hT⟩
    · exact .inl (.inl hT)
    · rcases List.mem_cons.1 hj with rfl | hj
      · exact .inl (.inr (by rw [hT, ht]))
      · exact .inr ⟨j, hj, hT⟩
theorem settle_par {n frm : Nat} {l : List S60} (hl : OkL n l) (hl0 : ∀ x, x ∈ l → 0 ≤ x.f0 ∧ x.f0 < n) {p : Nat} (hp : p < n) {st : List S69 × List S73} (h : Par n frm l (fun _ => True) (fun v => v = p) st) (hr : 0 ≤ (wa st p).f1) :
    Par n frm l (fun _ => True) (fun _ => False) (settleI l st p) := by
  unfold settleI
  simp only
  split
  · rename_i hs
    refine ⟨h.len, h.home, h.non, h.par, h.itm, h.settled, fun v hv h0 hn => ?_, h.outs⟩
    rcases h.wait v hv h0 hn with rfl | hx
    · rw [hn] at hs; cases hs
    · exact .inr hx
  · rename_i hs
    have hpl : p < st.1.length := by rw [h.len]; exact hp
    have w1 : wa (st.1.set p ⟨(wa st p).f0, (wa st p).f1, true⟩, st.2) p = ⟨(wa st p).f0, (wa st p).f1, true⟩ := getD_set_eq _ hpl
    have w2 : ∀ i, p ≠ i → wa (st.1.set p ⟨(wa st p).f0, (wa st p).f1, true⟩, st.2) i = wa st i := fun i hi => getD_set_ne' _ hi
    have w3 : ∀ i, (wa (st.1.set p ⟨(wa st p).f0, (wa st p).f1, true⟩, st.2) i).f0 = (wa st i).f0 ∧ (wa (st.1.set p ⟨(wa st p).f0, (wa st p).f1, true⟩, st.2) i).f1 = (wa st i).f1 := fun i => by
      by_cases e : p = i
      · subst e; rw [w1]; exact ⟨rfl, rfl⟩
      · rw [w2 i e]; exact ⟨rfl, rfl⟩
    have w4 : ∀ i, (wa st i).f2 = true → (wa (st.1.set p ⟨(wa st p).f0, (wa st p).f1, true⟩, st.2) i).f2 = true := fun i hi => by
      by_cases e : p = i
      · subst e; rw [w1]
      · rw [w2 i e]; exact hi
    have h0 : Par n frm l (fun x => x.f0 ≠ p) (fun _ => False) (st.1.set p ⟨(wa st p).f0, (wa st p).f1, true⟩, st.2) := by
      refine ⟨by simp [h.len], by rw [(w3 _).1, (w3 _).2]; exact h.home, fun v hv hn => ?_, fun v hv hvf hv0 => ?_, fun x hx => ?_, fun q hq hs => ?_, fun v hv h0 hn => ?_, fun x hx hT hf => ?_⟩
      · rw [(w3 _).2] at hn
        rw [(w3 _).1]; exact h.non v hv hn
      · rw [(w3 _).2] at hv0
        obtain ⟨q, hq, a, b, c, d, e⟩ := h.par v hv hvf hv0
        refine ⟨q, hq, w4 q a, ?_⟩
        rw [(w3 _).1, (w3 _).2, (w3 _).1, (w3 _).2]
        exact ⟨b, c, d, e⟩
      · obtain ⟨a, b, d⟩ := h.itm x hx
        refine ⟨a, b, ?_⟩
        rw [(w3 _).2]; exact d
      · rw [(w3 _).2]
        by_cases e : p = q
        · subst e; exact hr
        · rw [w2 q e] at hs; exact h.settled q hq hs
      · rw [(w3 _).2] at h0
        by_cases e : p = v
        · subst e; rw [w1] at hn; cases hn
        · rw [w2 v e] at hn
          rcases h.wait v hv h0 hn with rfl | hx
          · exact absurd rfl e
          · exact .inr hx
      · obtain ⟨a, b⟩ := hl0 x hx
        rw [w2 _ (fun e => hT (by omega))] at hf
        rw [(w3 _).2]
        exact h.outs x hx trivial hf
    have h1 := fold_par hl hl0 hp (outsI l p) _ _ ⟨(wa st p).f0, (wa st p).f1, true⟩ h0 (by rw [w1]) w1 (fun i hi => by
      obtain ⟨a, b, c⟩ := outsI_mem hi
      exact ⟨rd_mem a b, c⟩)
    refine ⟨h1.len, h1.home, h1.non, h1.par, h1.itm, h1.settled, h1.wait, fun x hx _ hf => h1.outs x hx ?_ hf⟩
    by_cases e : x.f0 = p
    · right
      obtain ⟨i, hi, hix⟩ := List.getElem_of_mem hx
      have hr : rd_T60 l (i : Int) = x := by simp [rd_T60, hi, hix]
      refine ⟨(i : Int), (outsI_perm l p).mem_iff.2 ?_, by rw [hr]⟩
      unfold idxI
      refine List.mem_map.2 ⟨i, List.mem_filter.2 ⟨List.mem_range.2 hi, ?_⟩, rfl⟩
      have e2 : l.getD i z60 = x := by simp [hi, hix]
      rw [e2, e]; simp
    · exact .inl e
theorem start_par {n frm : Nat} (l : List S60) (hf : frm < n) : Par n frm l (fun _ => True) (fun _ => False) (offerI (midW n n, []) frm [(frm : Int)] 0) := by
  have h0 : ∀ i, i < n → wa (midW n n, []) i = wayU := fun i hi => by simp [midW, hi]
  have hw := h0 frm hf
  have e : offerI (midW n n, []) frm [(frm : Int)] 0 = ((midW n n).set frm ⟨[(frm : Int)], 0, false⟩, pushI [] ⟨0, 1, frm⟩) := by
    unfold offerI
    simp only
    have : (midW n n).getD frm z69 = wayU := hw
    rw [this]
    rfl
  rw [e]
  have hl : frm < (midW n n).length := by rw [midW_len _ _ (Nat.le_refl _)]; exact hf
  have w1 : wa ((midW n n).set frm ⟨[(frm : Int)], 0, false⟩, pushI [] ⟨0, 1, frm⟩) frm = ⟨[(frm : Int)], 0, false⟩ := getD_set_eq _ hl
  have w2 : ∀ i, i < n → frm ≠ i → wa ((midW n n).set frm ⟨[(frm : Int)], 0, false⟩, pushI [] ⟨0, 1, frm⟩) i = wayU := fun i hi hn => (getD_set_ne' _ hn).trans (h0 i hi)
  have hns : ∀ i, (wa ((midW n n).set frm ⟨[(frm : Int)], 0, false⟩, pushI [] ⟨0, 1, frm⟩) i).f2 = false := fun i => by
    by_cases e : frm = i
    · subst e; rw [w1]
    · by_cases hi : i < n
      · rw [w2 i hi e]; rfl
      · rw [wa, getD_out _ (by simp [midW_len n n (Nat.le_refl _)]; omega)]; rfl
  have hu : wayU.f1 = -1 := rfl
  refine ⟨by simp [midW_len n n (Nat.le_refl _)], by rw [w1]; exact ⟨rfl, rfl⟩, fun v hv hn => ?_, fun v hv hvf hv0 => ?_, fun x hx => ?_, fun q hq hs => ?_, fun v hv h0 hn => ?_, fun x hx hT hf => ?_⟩
  · by_cases e : frm = v
    · subst e; rw [w1] at hn; simp at hn
    · rw [w2 v hv e]; rfl
  · rw [w2 v hv (fun e => hvf e.symm), hu] at hv0; omega
  · rcases List.mem_cons.1 ((pushI_perm _ _).mem_iff.1 hx) with rfl | hx
    · refine ⟨by simp, by simp; exact hf, ?_⟩
      simp only [Int.toNat_natCast]
      rw [w1]; simp
    · cases hx
  · rw [hns] at hs; cases hs
  · by_cases e : frm = v
    · subst e
      exact .inr ⟨_, (pushI_perm _ _).mem_iff.2 List.mem_cons_self, rfl⟩
    · rw [w2 v hv e, hu] at h0; omega
  · rw [hns] at hf; cases hf
theorem run_par {n frm : Nat} {l : List S60} (hl : OkL n l) (hl0 : ∀ x, x ∈ l → 0 ≤ x.f0 ∧ x.f0 < n) : ∀ (f : Nat) (st : List S69 × List S73), Inv n st → measI n st ≤ f → Par n frm l (fun _ => True) (fun _ => False) st → Par n frm l (fun _ => True) (fun _ => False) (runI l f st) ∧ (runI l f st).2 = [] ∧ Inv n (runI l f st)
  | 0, st, hI, hm, h => ⟨h, by
    unfold measI at hm
    exact List.eq_nil_of_length_eq_zero (by show st.2.length = 0; omega), hI⟩
  | f + 1, st, hI, hm, h => by
    cases hq : st.2 with
    | nil => rw [runI_nil l _ st hq]; exact ⟨h, hq, hI⟩
    | cons x0 rest =>
      have h0 : 0 < st.2.length := by rw [hq]; simp
      obtain ⟨x, ys, hp⟩ : ∃ x ys, popI st.2 = (x, ys) := ⟨_, _, rfl⟩
      obtain ⟨hI', _, hx0, hms⟩ := settle_inv hl hI x ys h0 hp
      rw [runI_cons l f st x ys h0 hp]
      have hperm := popI_perm _ _ _ h0 hp
      have hx := h.itm x (hperm.mem_iff.2 List.mem_cons_self)
      refine run_par hl hl0 f _ hI' (by unfold measI at hm ⊢; omega) ?_
      refine settle_par hl hl0 (p := x.f2.toNat) (by omega) (st := (st.1, ys)) ⟨h.len, h.home, h.non, h.par, fun y hy => h.itm y (hperm.mem_iff.2 (List.mem_cons_of_mem _ hy)), h.settled, fun v hv h0 hn => ?_, h.outs⟩ hx.2.2
      rcases h.wait v hv h0 hn with hk | ⟨y, hy, hyv⟩
      · exact hk.elim
      · rcases List.mem_cons.1 (hperm.mem_iff.1 hy) with rfl | hy
        · exact .inl (by omega)
        · exact .inr ⟨y, hy, hyv⟩
/-- What is known of the ways that All finds. -/
structure Ways (n frm : Nat) (l : List S60) (ws : List S69) : Prop where
  len : ws.length = n
  home : (ws.getD frm z69).f0 = [(frm : Int)] ∧ (ws.getD frm z69).f1 = 0
  non : ∀ v, v < n → (ws.getD v z69).f1 < 0 → (ws.getD v z69).f0 = []
  par : ∀ v, v < n → v ≠ frm → 0 ≤ (ws.getD v z69).f1 → ∃ p, p < n ∧ 0 ≤ (ws.getD p z69).f1 ∧ (ws.getD p z69).f1 < (ws.getD v z69).f1 ∧ (ws.getD v z69).f0 = (ws.getD p z69).f0 ++ [(v : Int)] ∧ ∃ x, x ∈ l ∧ x.f0 = p ∧ x.f1 = v
  outs : ∀ x, x ∈ l → 0 ≤ (ws.getD x.f0.toNat z69).f1 → 0 ≤ (ws.getD x.f1.toNat z69).f1
  short : ∀ v, v < n → (ws.getD v z69).f0.length ≤ 17
  n16 : n ≤ 16
theorem okLink_from {n : Int} {x : S60} (h : okLink n x = true) : 0 ≤ x.f0 ∧ x.f0 < n := by
  unfold okLink at h
  simp only [Bool.and_eq_true] at h
  have := h.1.1.1.1
  unfold inN at this
  simpa using this
theorem allI_ways {n frm : Nat} {l : List S60} (hk : chk n l = 0) (hf : frm < n) : Ways n frm l (allI l n frm) := by
  obtain ⟨_, _, hok, hOK⟩ := ok_of_chk hk
  rw [Int.toNat_natCast] at hOK
  have hl0 : ∀ x, x ∈ l → 0 ≤ x.f0 ∧ x.f0 < n := fun x hx => okLink_from ((okFrom_spec n l [] hok).1 x hx).1
  obtain ⟨h, hq, hI⟩ := run_par hOK hl0 _ _ (start_inv hf) (Nat.le_refl _) (start_par l hf)
  unfold allI
  generalize runI l (measI n (offerI (midW n n, []) frm [(frm : Int)] 0)) (offerI (midW n n, []) frm [(frm : Int)] 0) = st at h hq hI
  refine ⟨h.len, h.home, h.non, fun v hv hvf hv0 => ?_, fun x hx h0 => ?_, fun v hv => ?_, hOK.n16⟩
  · obtain ⟨p, a, _, b⟩ := h.par v hv hvf hv0
    exact ⟨p, a, b⟩
  · have hx0 := hl0 x hx
    refine h.outs x hx trivial ?_
    cases hs : (wa st x.f0.toNat).f2 with
    | true => rfl
    | false =>
      rcases h.wait x.f0.toNat (by omega) h0 hs with hk | ⟨y, hy, _⟩
      · exact hk.elim
      · rw [hq] at hy; cases hy
  · have h1 := hI.way v hv
    have h2 := nset_le st.1
    have h3 := hI.len
    have h4 := hOK.n16
    rcases h1 with h1 | h1
    · rw [h1]; simp
    · omega
end Go.Proofs.Ytaeacdnefklakaa.L
