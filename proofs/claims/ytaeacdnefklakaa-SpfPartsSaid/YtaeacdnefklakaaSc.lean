/-
  graph.Outs.
  Conditions: as the contract states them.
-/
import Derived.Test.YtaeacdnefklakaaSb
namespace Go.Proofs.Ytaeacdnefklakaa.L
open Go.RowKit Go.Proofs.YtaeacdnefklakaaW.PrintWords Go.Proofs.YtaeacdnefklakaaW.PrintLast Go.Proofs.YtaeacdnefklakaaW.PrintMore Go.Fr
set_option linter.unusedVariables false
set_option linter.unusedSimpArgs false
set_option maxRecDepth 100000

def idxI (l : List S60) (node : Int) (k : Nat) : List Int := ((List.range k).filter (fun i => (l.getD i z60).f0 == node)).map Int.ofNat
def keyI (l : List S60) (i : Int) : Int := (rd_T60 l i).f1
def outsI (l : List S60) (node : Int) : List Int := sortO (keyI l) (idxI l node l.length)
theorem idxI_succ (l : List S60) (node : Int) (k : Nat) : idxI l node (k + 1) = idxI l node k ++ (if (l.getD k z60).f0 == node then [(k : Int)] else []) := by
  unfold idxI
  rw [List.range_succ, List.filter_append, List.map_append]
  congr 1
  by_cases h : ((l.getD k z60).f0 == node) = true
  · rw [List.filter_cons, List.filter_nil, if_pos h, if_pos h]; rfl
  · rw [List.filter_cons, List.filter_nil, if_neg h, if_neg h]; rfl
theorem idxI_mem {l : List S60} {node : Int} {k : Nat} {x : Int} (h : x ∈ idxI l node k) : 0 ≤ x ∧ x < k ∧ (rd_T60 l x).f0 = node := by
  unfold idxI at h
  obtain ⟨i, hi, rfl⟩ := List.mem_map.1 h
  obtain ⟨h1, h2⟩ := List.mem_filter.1 hi
  have := List.mem_range.1 h1
  refine ⟨by simp, by simpa using this, ?_⟩
  simpa [rd_T60] using h2

set_option maxHeartbeats 1600000 in
theorem outs_c (W : World) (l : List S60) (A : Option Addr) (c : Nat) (node : Int) (hC : k60.C W A l.length l) (hc : l.length ≤ c) (hn : (idxI l node l.length).length ≤ 19) (hl : l.length ≤ 1024) :
    Calls Try.prog 45 #[.slice A l.length c, .int .i64 node] W fun e w' => ∃ v, e = .returned v ∧ (Kd.int .i64).R 3 w' W.heap.size Any v (outsI l node) ∧ Fr W.heap.size [3] W w' := by
  have HC := Aside0.mk hC
  have HN := Aside0.mk hn
  clear hC hn
  go_enter Try.func45, Try.ntmps45
  go_wp2
  go_loopg [5, 10] l.length (fun g v5 v10 wr => ∃ (k : Nat), v10 = .int .i64 k ∧ l.length - k ≤ g ∧ k ≤ l.length ∧ Fr W.heap.size [3] W wr ∧ wr.heap[W.heap.size]? = some (.cells #[.slice A l.length c] 22 (0, 0)) ∧ (Kd.int .i64).R 3 wr W.heap.size Any v5 (idxI l node k) ∧ Hid (idxI l node k = [] → v5 = .slice none 0 0))
  case atStart => exact ⟨0, rfl, by omega, by omega, (Fr.refl _ _ _).alloc _, blk_new _ _, Kd.R_nil _ _ _ _ _, fun _ => rfl⟩
  case round =>
    rename_i v5 _
    obtain ⟨k, rfl, hkg, hk, hF, hB, hR, hE⟩ := hrel
    have HF := Aside0.mk hF
    have HB := Aside0.mk hB
    have HR := Aside0.mk hR
    have HE := Aside0.mk hE
    by_cases hkl : k = l.length
    · subst hkl
      have hkl' : decide ((l.length : Int) < l.length) = false := by simp
      obtain ⟨xs, hxs⟩ : ∃ xs, idxI l node l.length = xs := ⟨_, rfl⟩
      have hV : ∀ x, x ∈ xs → 0 ≤ x ∧ x < l.length := fun x hx => by
        rw [← hxs] at hx
        exact ⟨(idxI_mem hx).1, (idxI_mem hx).2.1⟩
      have hn := HN.out
      have hE := HE.out
      have hR := HR.out
      rw [hxs] at hn hE hR
      have e0 : sortO (keyI l) xs = outsI l node := by rw [← hxs]; rfl
      have E0 := Aside0.mk e0
      by_cases hx0 : xs = []
      · subst hx0
        have hv := hE.out rfl
        subst hv
        clear hR hE hn hV e0 hF hB HR HE hxs
        go_wp2_with (go_at_call 59; refine (sortst_nil _ _).mono ?_; rintro e w' ⟨rfl, rfl⟩)
        go_ret
        refine ⟨_, rfl, ?_, HF.out⟩
        rw [← E0.out]
        exact Kd.R_nil _ _ _ _ _
      · obtain ⟨g, cap, rfl, _, _, _⟩ := Kd.R_form hR (List.length_pos_iff.2 hx0)
        have S := Aside0.mk (sortst_c wr W.heap.size (keyI l) (fun x => 0 ≤ x ∧ x < l.length) W.heap.size g cap xs hn (fun w1 hf x y hx hy => outs1_c w1 W.heap.size l A c ((blk_cell (hf.blk hB (by decide)) 0).trans rfl) (Kd.C_below HC.out ((hF.trans hf).below (Nat.le_refl _))) x y hx hy) hR hV)
        clear hR hE hn hV e0 hF hB HR HE hxs hx0
        go_wp2_with (go_at_call 59; (with_reducible refine S.out.mono ?_); rintro e w' ⟨rfl, hr1, hf1⟩; have R1 := Aside0.mk hr1; have F1 := Aside0.mk hf1; clear hr1 hf1)
        go_ret
        refine ⟨_, rfl, ?_, HF.out.trans F1.out⟩
        rw [← E0.out]
        exact R1.out
    · have hkl' : (k : Int) < l.length := by omega
      have hCr := Kd.C_below HC.out (hF.below (Nat.le_refl _))
      obtain ⟨ad, rfl, c0, c1, c2, c3, c4⟩ := at_T60 hCr k (by omega) hkl'
      simp only [Int.toNat_natCast] at c0 c1 c2 c3 c4
      have hs := idxI_succ l node k
      rw [show l.getD k z60 = rd_T60 l (k : Int) by simp [rd_T60]] at hs
      have hlen : (idxI l node k).length ≤ 1024 := by
        unfold idxI
        rw [List.length_map]
        exact Nat.le_trans (List.length_filter_le _ _) (by simp; omega)
      generalize rd_T60 l (k : Int) = x at *
      obtain ⟨x0, x1, x2, x3, x4⟩ := x
      obtain ⟨xs, hxs⟩ : ∃ xs, idxI l node k = xs := ⟨_, rfl⟩
      have hR := HR.out
      have hE := HE.out
      rw [hxs] at hs hR hE hlen
      have HS := Aside0.mk hs
      have HL := Aside0.mk hlen
      cases hb : (x0 == node) with
      | true =>
        obtain ⟨A1, c1', rfl, hc1, hC1⟩ := Kd.R_reads hR
        have HR1 := Aside0.mk (Kd.R_alloc hR (.cells #[.int .i64 x0, .int .i64 x1, .int .u64 x2, .int .i64 x3, .int .u32 x4] 60))
        have HS1 : Aside0 (idxI l node (k + 1) = xs ++ [(k : Int)]) := ⟨by rw [HS.out, hb]; rfl⟩
        have hW : W.heap.size ≤ wr.heap.size + 1 := by have := hF.size; omega
        clear hs hR hE hxs hF hB HR HE hCr hC1 HS hlen
        go_wp2_with (at_builtin; go_loud (refine app1 (Kd.int .i64) (base := W.heap.size) (T := [3]) (W0 := W) (W := wr.alloc (.cells #[.int .i64 x0, .int .i64 x1, .int .u64 x2, .int .i64 x3, .int .u32 x4] 60)) (.tmp 19) (.tmp 21) 25 3 (.int .i64 0) 8 (.slice A1 xs.length c1') xs (k : Int) [.int .i64 k] rfl rfl (by kernel_rfl) (by kernel_rfl) rfl (by decide) (by decide) rfl (by first | rfl | simp [go_sem]) rfl HR1.out (by first | omega | (simp; omega)) (by have := HL.out; omega) (HF.out.alloc _) (List.mem_singleton.2 rfl) ?_); intro v1 w3 hR1 hF1 hg1 hat1; have R2 := Aside0.mk hR1; have F2 := Aside0.mk hF1; have B2 := Aside0.mk (blk_grown (blk_alloc HB.out _) hg1 (Kd.R_ne HR1.out (blk_alloc HB.out _) (by decide))); clear hR1 hF1 hg1 hat1)
        go_roundg (l.length - (k + 1))
        case measure => omega
        case rel => exact ⟨k + 1, by go_num, Nat.le_refl _, by omega, F2.out, B2.out, by rw [HS1.out]; exact R2.out, fun h => by rw [HS1.out] at h; simp at h⟩
      | false =>
        have HS1 : Aside0 (idxI l node (k + 1) = xs) := ⟨by rw [HS.out, hb]; simp⟩
        have HR1 := Aside0.mk (Kd.R_alloc hR (.cells #[.int .i64 x0, .int .i64 x1, .int .u64 x2, .int .i64 x3, .int .u32 x4] 60))
        have HE1 := Aside0.mk hE
        clear hs hR hE hxs hF hB HR HE hCr HS hlen
        go_wp2
        go_roundg (l.length - (k + 1))
        case measure => omega
        case rel => exact ⟨k + 1, by go_num, Nat.le_refl _, by omega, HF.out.alloc _, blk_alloc HB.out _, by rw [HS1.out]; exact HR1.out, fun h => HE1.out (by rw [← HS1.out]; exact h)⟩
end Go.Proofs.Ytaeacdnefklakaa.L
