/-
  graph.Check, walked.
  Conditions: as the contract states them.
-/
import Derived.Test.YtaeacdnefklakaaGa
namespace Go.Proofs.Ytaeacdnefklakaa.L
open Go.RowKit Go.Proofs.YtaeacdnefklakaaW.PrintWords Go.Proofs.YtaeacdnefklakaaW.PrintLast Go.Proofs.YtaeacdnefklakaaW.PrintMore Go.Fr Go.Maps
set_option linter.unusedVariables false
set_option linter.unusedSimpArgs false

/-- A link's numbers are numbers of their kind. -/
def wfLink (x : S60) : Prop := wf64 x.f0 ∧ wf64 x.f1
theorem below_grownBy {n b : Nat} {w W W2 : World} (h : Below n w W) (hg : W.grownBy W2 (some b)) (hb : n ≤ b) (hs : n ≤ w.heap.size := by omega) : Below n w W2 :=
  ⟨hg.os.trans h.os, hg.tape.trans h.tape, hg.output.trans h.output, Nat.le_trans h.size hg.size, fun k hk => (hg.block k (Nat.lt_of_lt_of_le (Nat.lt_of_lt_of_le hk hs) h.size) (fun e => by injection e with e; omega)).trans (h.block k hk)⟩
theorem wf_nat (k : Nat) (h : k ≤ 1000) : wf64 (k : Int) := by
  unfold wf64
  exact WalkArith.wf_i64 (by omega)

set_option maxHeartbeats 1600000 in
set_option maxRecDepth 100000 in
theorem gcheck_c (W : World) (n : Int) (l : List S60) (A : Option Addr) (c : Nat) (hC : k60.C W A l.length l) (hc : l.length ≤ c) (hwf : ∀ x, x ∈ l → wfLink x) :
    Calls Try.prog 23 #[.int .i64 n, .slice A l.length c] W fun e w' => e = .returned (.int .i64 (chk n l)) ∧ Below W.heap.size W w' := by
  obtain ⟨r, hr⟩ : ∃ r, chk n l = r := ⟨_, rfl⟩
  rw [hr]
  unfold chk at hr
  by_cases h1 : n < 1
  · rw [if_pos (Or.inl h1)] at hr
    subst hr
    go_enter Try.func23, Try.ntmps23
    go_wp2
    go_ret
    exact ⟨rfl, below_alloc (Below.refl _ _) _⟩
  have h1' : decide (n < 1) = false := by simpa using h1
  by_cases h2 : 16 < n
  · rw [if_pos (Or.inr h2)] at hr
    subst hr
    clear h1
    go_enter Try.func23, Try.ntmps23
    go_wp2
    go_ret
    exact ⟨rfl, below_alloc (Below.refl _ _) _⟩
  have h2' : decide (16 < n) = false := by simpa using h2
  rw [if_neg (by omega)] at hr
  clear h1 h2
  by_cases h3 : 64 < l.length
  · rw [if_pos h3] at hr
    subst hr
    have h3' : (64 : Int) < l.length := by omega
    go_enter Try.func23, Try.ntmps23
    go_wp2
    go_ret
    exact ⟨rfl, below_alloc (Below.refl _ _) _⟩
  have h3' : decide ((64 : Int) < l.length) = false := by simp; omega
  rw [if_neg h3] at hr
  have HC := Aside0.mk hC
  have HW := Aside0.mk hwf
  have H3 : l.length ≤ 64 := by omega
  have hmk : ∀ w, (Instr.makeMap 100 none).run Try.prog w = .ok (.map (some w.heap.size)) (w.alloc (.map #[] 0)) := fun w => run_makeMap _ w
  have HH := Aside0.mk hr
  have H0 : Aside0 (IsHad ((W.alloc (.cells #[.int .i64 n] 3)).alloc (.map #[] 0)) (W.heap.size + 1) 0 []) := ⟨⟨⟨.map [], by have := World.ownsMap_made (W.alloc (.cells #[.int .i64 n] 3)) Try.prog 102 (plainElem (H := Unit) Try.prog 3); rwa [World.size_alloc] at this, isMap_empty, fun _ _ _ => rfl⟩, by simp⟩⟩
  clear hC hwf hr h3
  go_enter Try.func23, Try.ntmps23
  go_wp2
  go_loopg [27] l.length (fun g vi wr => ∃ (k : Nat) (s : List (Int × Int)), vi = .int .i64 k ∧ l.length - k ≤ g ∧ k ≤ l.length ∧ Below W.heap.size W wr ∧ wr.heap[W.heap.size]? = some (.cells #[.int .i64 n] 3 (0, 0)) ∧ IsHad wr (W.heap.size + 1) k s ∧ Hid ((if okFrom n s (l.drop k) = true then (0 : Int) else 2) = r))
  case atStart => exact ⟨0, [], rfl, by omega, by omega, below_alloc (below_alloc (Below.refl _ _) _) _, blk_alloc (blk_new _ _) _, H0.out, HH.out⟩
  case round =>
    obtain ⟨k, s, rfl, hkg, hk, hB, hbx, hI, hE⟩ := hrel
    have hE := hE.out
    by_cases hkl : k = l.length
    · have hkl' : decide ((k : Int) < l.length) = false := by simp; omega
      rw [List.drop_of_length_le (by omega)] at hE
      simp only [okFrom, if_true] at hE
      subst hE
      go_wp2
      go_ret
      exact ⟨rfl, hB⟩
    have hkl' : (k : Int) < l.length := by omega
    have hC := Kd.C_below HC.out hB
    obtain ⟨ad, rfl, c0, c1, c2, c3, c4⟩ := at_T60 hC k (by omega) hkl'
    have hd : l.drop k = rd_T60 l k :: l.drop (k + 1) := by rw [List.drop_eq_getElem_cons (by omega)]; simp [rd_T60, show k < l.length by omega]
    have hwx : wfLink (rd_T60 l k) := HW.out _ (by have := List.mem_of_mem_drop (hd ▸ List.mem_cons_self : rd_T60 l k ∈ l.drop k); exact this)
    rw [hd] at hE
    generalize rd_T60 l k = x at *
    obtain ⟨x0, x1, x2, x3, x4⟩ := x
    simp only [Int.toNat_natCast] at c0 c1 c2 c3 c4
    simp only [okFrom, okLink] at hE
    have HI := Aside0.mk hI
    have HX := Aside0.mk hbx
    have HWX := Aside0.mk hwx
    have HBB := Aside0.mk hB
    have HE := Aside0.mk hE
    clear hI hbx hwx hd hC hB hE
    by_cases q0 : s.contains (x0, x1) = true
    · have e2 := HE.out
      simp only [q0, Bool.not_true, Bool.not_false, Bool.false_and, Bool.true_and, Bool.and_false, Bool.false_eq_true, if_false] at e2
      subst e2
      have H0 := Aside0.mk q0
      go_wp2_with (first
        | (at_lookup; refine (HI.out.alloc2).lookup (x0, x1) HWX.out.1 HWX.out.2 _ H0.out rfl _ _ rfl rfl rfl ?_; intro c)
        | (at_mapUpdate; refine (HI.out.alloc2).put (by omega) (x0, x1) HWX.out.1 HWX.out.2 k (wf_nat k (by omega)) rfl _ _ _ rfl rfl rfl rfl ?_; intro w1 hI1 hg1; have HI1 := Aside0.mk hI1; have HG1 := Aside0.mk hg1; clear hI1 hg1)
        | (go_at_call 40; (with_reducible refine (node_c _ W.heap.size n x0 ((blk_cell (blk_alloc (blk_alloc HX.out _) _) 0).trans rfl)).mono ?_); rintro e w' ⟨rfl, rfl⟩)
        | (go_at_call 40; (with_reducible refine (node_c _ W.heap.size n x1 ((blk_cell (blk_alloc (blk_alloc HX.out _) _) 0).trans rfl)).mono ?_); rintro e w' ⟨rfl, rfl⟩))
      go_ret
      exact ⟨rfl, below_alloc (below_alloc HBB.out _) _⟩
    have q0 : s.contains (x0, x1) = false := by simpa using q0
    have H0 := Aside0.mk q0
    by_cases q1 : inN n x0 = false
    · have e2 := HE.out
      simp only [q0, q1, Bool.not_true, Bool.not_false, Bool.false_and, Bool.true_and, Bool.and_false, Bool.false_eq_true, if_false] at e2
      subst e2
      go_wp2_with (first
        | (at_lookup; refine (HI.out.alloc2).lookup (x0, x1) HWX.out.1 HWX.out.2 _ H0.out rfl _ _ rfl rfl rfl ?_; intro c)
        | (at_mapUpdate; refine (HI.out.alloc2).put (by omega) (x0, x1) HWX.out.1 HWX.out.2 k (wf_nat k (by omega)) rfl _ _ _ rfl rfl rfl rfl ?_; intro w1 hI1 hg1; have HI1 := Aside0.mk hI1; have HG1 := Aside0.mk hg1; clear hI1 hg1)
        | (go_at_call 40; (with_reducible refine (node_c _ W.heap.size n x0 ((blk_cell (blk_alloc (blk_alloc HX.out _) _) 0).trans rfl)).mono ?_); rintro e w' ⟨rfl, rfl⟩)
        | (go_at_call 40; (with_reducible refine (node_c _ W.heap.size n x1 ((blk_cell (blk_alloc (blk_alloc HX.out _) _) 0).trans rfl)).mono ?_); rintro e w' ⟨rfl, rfl⟩))
      go_ret
      exact ⟨rfl, below_alloc (below_alloc HBB.out _) _⟩
    have q1 : inN n x0 = true := by simpa using q1
    by_cases q2 : inN n x1 = false
    · have e2 := HE.out
      simp only [q0, q1, q2, Bool.not_true, Bool.not_false, Bool.false_and, Bool.true_and, Bool.and_false, Bool.false_eq_true, if_false] at e2
      subst e2
      go_wp2_with (first
        | (at_lookup; refine (HI.out.alloc2).lookup (x0, x1) HWX.out.1 HWX.out.2 _ H0.out rfl _ _ rfl rfl rfl ?_; intro c)
        | (at_mapUpdate; refine (HI.out.alloc2).put (by omega) (x0, x1) HWX.out.1 HWX.out.2 k (wf_nat k (by omega)) rfl _ _ _ rfl rfl rfl rfl ?_; intro w1 hI1 hg1; have HI1 := Aside0.mk hI1; have HG1 := Aside0.mk hg1; clear hI1 hg1)
        | (go_at_call 40; (with_reducible refine (node_c _ W.heap.size n x0 ((blk_cell (blk_alloc (blk_alloc HX.out _) _) 0).trans rfl)).mono ?_); rintro e w' ⟨rfl, rfl⟩)
        | (go_at_call 40; (with_reducible refine (node_c _ W.heap.size n x1 ((blk_cell (blk_alloc (blk_alloc HX.out _) _) 0).trans rfl)).mono ?_); rintro e w' ⟨rfl, rfl⟩))
      go_ret
      exact ⟨rfl, below_alloc (below_alloc HBB.out _) _⟩
    have q2 : inN n x1 = true := by simpa using q2
    by_cases q3 : (x0 == x1) = true
    · have e2 := HE.out
      simp only [q0, q1, q2, q3, Bool.not_true, Bool.not_false, Bool.false_and, Bool.true_and, Bool.and_false, Bool.false_eq_true, if_false] at e2
      subst e2
      go_wp2_with (first
        | (at_lookup; refine (HI.out.alloc2).lookup (x0, x1) HWX.out.1 HWX.out.2 _ H0.out rfl _ _ rfl rfl rfl ?_; intro c)
        | (at_mapUpdate; refine (HI.out.alloc2).put (by omega) (x0, x1) HWX.out.1 HWX.out.2 k (wf_nat k (by omega)) rfl _ _ _ rfl rfl rfl rfl ?_; intro w1 hI1 hg1; have HI1 := Aside0.mk hI1; have HG1 := Aside0.mk hg1; clear hI1 hg1)
        | (go_at_call 40; (with_reducible refine (node_c _ W.heap.size n x0 ((blk_cell (blk_alloc (blk_alloc HX.out _) _) 0).trans rfl)).mono ?_); rintro e w' ⟨rfl, rfl⟩)
        | (go_at_call 40; (with_reducible refine (node_c _ W.heap.size n x1 ((blk_cell (blk_alloc (blk_alloc HX.out _) _) 0).trans rfl)).mono ?_); rintro e w' ⟨rfl, rfl⟩))
      go_ret
      exact ⟨rfl, below_alloc (below_alloc HBB.out _) _⟩
    have q3 : (x0 == x1) = false := by simpa using q3
    by_cases q4 : decide (x3 < 1) = true
    · have e2 := HE.out
      simp only [q0, q1, q2, q3, q4, Bool.not_true, Bool.not_false, Bool.false_and, Bool.true_and, Bool.and_false, Bool.false_eq_true, if_false] at e2
      subst e2
      go_wp2_with (first
        | (at_lookup; refine (HI.out.alloc2).lookup (x0, x1) HWX.out.1 HWX.out.2 _ H0.out rfl _ _ rfl rfl rfl ?_; intro c)
        | (at_mapUpdate; refine (HI.out.alloc2).put (by omega) (x0, x1) HWX.out.1 HWX.out.2 k (wf_nat k (by omega)) rfl _ _ _ rfl rfl rfl rfl ?_; intro w1 hI1 hg1; have HI1 := Aside0.mk hI1; have HG1 := Aside0.mk hg1; clear hI1 hg1)
        | (go_at_call 40; (with_reducible refine (node_c _ W.heap.size n x0 ((blk_cell (blk_alloc (blk_alloc HX.out _) _) 0).trans rfl)).mono ?_); rintro e w' ⟨rfl, rfl⟩)
        | (go_at_call 40; (with_reducible refine (node_c _ W.heap.size n x1 ((blk_cell (blk_alloc (blk_alloc HX.out _) _) 0).trans rfl)).mono ?_); rintro e w' ⟨rfl, rfl⟩))
      go_ret
      exact ⟨rfl, below_alloc (below_alloc HBB.out _) _⟩
    have q4 : decide (x3 < 1) = false := by simpa using q4
    by_cases q5 : decide (65535 < x3) = true
    · have e2 := HE.out
      simp only [q0, q1, q2, q3, q4, q5, Bool.not_true, Bool.not_false, Bool.false_and, Bool.true_and, Bool.and_false, Bool.false_eq_true, if_false] at e2
      subst e2
      go_wp2_with (first
        | (at_lookup; refine (HI.out.alloc2).lookup (x0, x1) HWX.out.1 HWX.out.2 _ H0.out rfl _ _ rfl rfl rfl ?_; intro c)
        | (at_mapUpdate; refine (HI.out.alloc2).put (by omega) (x0, x1) HWX.out.1 HWX.out.2 k (wf_nat k (by omega)) rfl _ _ _ rfl rfl rfl rfl ?_; intro w1 hI1 hg1; have HI1 := Aside0.mk hI1; have HG1 := Aside0.mk hg1; clear hI1 hg1)
        | (go_at_call 40; (with_reducible refine (node_c _ W.heap.size n x0 ((blk_cell (blk_alloc (blk_alloc HX.out _) _) 0).trans rfl)).mono ?_); rintro e w' ⟨rfl, rfl⟩)
        | (go_at_call 40; (with_reducible refine (node_c _ W.heap.size n x1 ((blk_cell (blk_alloc (blk_alloc HX.out _) _) 0).trans rfl)).mono ?_); rintro e w' ⟨rfl, rfl⟩))
      go_ret
      exact ⟨rfl, below_alloc (below_alloc HBB.out _) _⟩
    have q5 : decide (65535 < x3) = false := by simpa using q5
    have e2 := HE.out
    simp only [q0, q1, q2, q3, q4, q5, Bool.not_false, Bool.true_and] at e2
    have E2 := Aside0.mk e2
    clear e2
    go_wp2_with (first
      | (at_lookup; refine (HI.out.alloc2).lookup (x0, x1) HWX.out.1 HWX.out.2 _ H0.out rfl _ _ rfl rfl rfl ?_; intro c)
      | (at_mapUpdate; refine (HI.out.alloc2).put (by omega) (x0, x1) HWX.out.1 HWX.out.2 k (wf_nat k (by omega)) rfl _ _ _ rfl rfl rfl rfl ?_; intro w1 hI1 hg1; have HI1 := Aside0.mk hI1; have HG1 := Aside0.mk hg1; clear hI1 hg1)
      | (go_at_call 40; (with_reducible refine (node_c _ W.heap.size n x0 ((blk_cell (blk_alloc (blk_alloc HX.out _) _) 0).trans rfl)).mono ?_); rintro e w' ⟨rfl, rfl⟩)
      | (go_at_call 40; (with_reducible refine (node_c _ W.heap.size n x1 ((blk_cell (blk_alloc (blk_alloc HX.out _) _) 0).trans rfl)).mono ?_); rintro e w' ⟨rfl, rfl⟩))
    go_roundg (l.length - (k + 1))
    case measure => omega
    case rel => exact ⟨k + 1, (x0, x1) :: s, by go_num, Nat.le_refl _, by omega, below_grownBy (below_alloc (below_alloc HBB.out _) _) HG1.out (by omega), blk_grown (blk_alloc (blk_alloc HX.out _) _) HG1.out (by simp), HI1.out, E2.out⟩
end Go.Proofs.Ytaeacdnefklakaa.L
