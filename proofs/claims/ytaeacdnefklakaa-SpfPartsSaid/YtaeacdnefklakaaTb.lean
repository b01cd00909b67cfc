/-
  spf's settle.
  Conditions: as the contract states them.
-/
import Derived.Test.YtaeacdnefklakaaTa
namespace Go.Proofs.Ytaeacdnefklakaa.L
open Go.RowKit Go.Proofs.YtaeacdnefklakaaW.PrintWords Go.Proofs.YtaeacdnefklakaaW.PrintLast Go.Proofs.YtaeacdnefklakaaW.PrintMore Go.Fr
set_option linter.unusedVariables false
set_option linter.unusedSimpArgs false
set_option maxRecDepth 100000

theorem insI_mem (key : Int → Int) : ∀ (j : Nat) (xs : List Int), j < xs.length → ∀ x, x ∈ insI key j xs → x ∈ xs
  | 0, _, _, _, h => h
  | j + 1, xs, hj, x, h => by
    unfold insI at h
    split at h
    · exact swpN_mem hj (by omega) (insI_mem key j _ (by rw [swpN_length]; omega) x h)
    · exact h
theorem insO_length (key : Int → Int) (n : Nat) : ∀ (f i : Nat) (xs : List Int), (insO key n f i xs).length = xs.length
  | 0, _, _ => rfl
  | f + 1, i, xs => by unfold insO; split; rw [insO_length, insI_length]; rfl
theorem insO_mem (key : Int → Int) (n : Nat) : ∀ (f i : Nat) (xs : List Int), n ≤ xs.length → ∀ x, x ∈ insO key n f i xs → x ∈ xs
  | 0, _, _, _, _, h => h
  | f + 1, i, xs, hn, x, h => by
    unfold insO at h
    split at h
    · rename_i hi
      exact insI_mem key i xs (by omega) x (insO_mem key n f (i + 1) _ (by rw [insI_length]; exact hn) x h)
    · exact h
theorem outsI_mem {l : List S60} {node x : Int} (h : x ∈ outsI l node) : 0 ≤ x ∧ x < l.length ∧ (rd_T60 l x).f0 = node :=
  idxI_mem (insO_mem _ _ _ _ _ (Nat.le_refl _) x h)

theorem offerI_len (st : List S69 × List S73) (tn : Nat) (lst : List Int) (cost : Int) : (offerI st tn lst cost).1.length = st.1.length := by
  unfold offerI; simp only; split
  · rfl
  · simp
theorem offerI_q (st : List S69 × List S73) (tn : Nat) (lst : List Int) (cost : Int) : (offerI st tn lst cost).2.length ≤ st.2.length + 1 := by
  unfold offerI; simp only; split
  · omega
  · simp [pushI, upI_length]
theorem offerI_keep {st : List S69 × List S73} {tn : Nat} {lst : List Int} {cost : Int} {node : Nat} {w : S69} (h : st.1.getD node z69 = w) (hs : w.f2 = true) : (offerI st tn lst cost).1.getD node z69 = w := by
  unfold offerI; simp only
  by_cases e : tn = node
  · subst e
    rw [h, hs, Bool.true_or, if_pos rfl]
    exact h
  · split
    · exact h
    · rw [← h]; simp [e]
/-- What settle asks. -/
structure Ready (l : List S60) (ws : List S69) (xs : List S73) (node : Nat) : Prop where
  ls : l.length ≤ 64
  wsz : ws.length ≤ 16
  nd : node < ws.length
  outs : (idxI l node l.length).length ≤ 19
  ends : ∀ x, x ∈ l → 0 ≤ x.f1 ∧ x.f1 < ws.length
  cost : ∀ x, x ∈ l → 0 ≤ x.f3 ∧ x.f3 ≤ 65535
  room : xs.length + l.length ≤ 1024
  f0 : 0 < (ws.getD node z69).f0.length ∧ (ws.getD node z69).f0.length ≤ 1000
  f1 : 0 ≤ (ws.getD node z69).f1 ∧ (ws.getD node z69).f1 ≤ 1000000000

set_option maxHeartbeats 1600000 in
theorem settle_c (W0 W : World) (s : Nat) (A : Option Addr) (c : Nat) (l : List S60) (ws : List S69) (xs : List S73) (hB0 : Below W0.heap.size W0 W) (hC0 : k60.C W0 A l.length l) (hc : l.length ≤ c)
    (h : IsS W W0.heap.size s A l.length c ws xs) (it : S73) (node : Nat) (hit : it.f2 = (node : Int)) (hr : Ready l ws xs node) (st : List S69 × List S73) (hst : settleI l (ws, xs) node = st) :
    Calls Try.prog 27 #[.pointer (some ⟨s, 0, none⟩), .agg #[.int .i64 it.f0, .int .i64 it.f1, .int .i64 it.f2]] W fun e w' => e = .returned (.tuple #[]) ∧ IsS w' W0.heap.size s A l.length c st.1 st.2 ∧ Fr W0.heap.size [69, 73, 108] W w' ∧ OwnS s W w' := by
  have hS := Aside0.mk h
  obtain ⟨vw, q, hb, hR, hQ⟩ := h
  have hnd := hr.nd
  obtain ⟨g, cap, cur, rfl, hg, hh, hcap, hsz⟩ := R_plain hR (by omega)
  obtain ⟨v0, c0, c1, c2, hR0⟩ := way_at hR node hnd
  have s0 : W.cell? ⟨s, 0, none⟩ = some (.slice A l.length c) := (blk_cell hb 0).trans rfl
  have s1 : W.cell? ⟨s, 1, none⟩ = some (.slice (some ⟨g, 0, none⟩) ws.length cap) := (blk_cell hb 1).trans rfl
  have hsl := blk_lt hb
  have hgl := blk_lt hh
  obtain ⟨i0, i1, i2⟩ := it
  simp only at hit
  subst hit
  obtain ⟨w, hw⟩ : ∃ w, ws.getD node z69 = w := ⟨_, rfl⟩
  have hf0 := hr.f0
  have hf1 := hr.f1
  have hws := hr.wsz
  have hls := hr.ls
  unfold settleI at hst
  simp only at hst
  rw [hw] at c1 c2 hR0 hf0 hf1 hst
  obtain ⟨w0, w1, w2⟩ := w
  simp only at c0 c1 c2 hst hR0 hf0 hf1
  have HWV := Aside0.mk hw
  have H := Aside0.mk (And.intro hb (And.intro hR (And.intro hQ hh)))
  have HR := Aside0.mk hr
  have HB0 := Aside0.mk hB0
  have HC0 := Aside0.mk hC0
  have hnd' : (node : Int) < ws.length := by omega
  clear hb hR hQ hh hr hB0 hC0 hR0 hw
  cases w2 with
  | true =>
    simp only [if_true] at hst
    subst hst
    go_enter Try.func27, Try.ntmps27
    go_wp2
    refine Rt.region (by kernel_rfl) (by kernel_rfl) ?_
    go_wp2
    refine ⟨rfl, rfl, ?_⟩
    go_wp2
    go_returns
    exact ⟨rfl, hS.out.below (below_drew (below_alloc (Below.refl _ _) _)), ((Fr.refl _ _ _).alloc _).drew, OwnS.of H.out.1 (OwnQ.below (below_drew (below_alloc (Below.refl _ _) _)))⟩
  | false =>
    simp only [Bool.false_eq_true, if_false] at hst
    go_enter Try.func27, Try.ntmps27
    go_wp2
    refine Rt.region (by kernel_rfl) (by kernel_rfl) ?_
    go_wp2
    refine ⟨rfl, rfl, ?_⟩
    obtain ⟨Wa, hWa⟩ : ∃ Wa, (W.alloc (.cells #[.int .i64 i0, .int .i64 i1, .int .i64 node] 73)).drew = Wa := ⟨_, rfl⟩
    rw [hWa]
    have hBa : Below W.heap.size W Wa := by rw [← hWa]; exact below_drew (below_alloc (Below.refl _ _) _)
    have hXa : Wa.heap[W.heap.size]? = some (.cells #[.int .i64 i0, .int .i64 i1, .int .i64 node] 73 (0, 0)) := by rw [← hWa]; exact blk_drew (blk_new _ _)
    have hFa : Fr W0.heap.size [69, 73, 108] W Wa := by rw [← hWa]; exact ((Fr.refl _ _ _).alloc _).drew
    clear hWa
    have hle : W0.heap.size ≤ W.heap.size := HB0.out.size
    have Ra := Kd.R_below H.out.2.1 hBa
    obtain ⟨vc, hcc, hrc⟩ := way_cells Ra node (by omega) ⟨w0, w1, false⟩ HWV.out
    have M1 := Aside0.mk (k69_mkM Wa W0.heap.size (fun k => k ≠ g) ⟨w0, w1, true⟩ hrc)
    have CC := Aside0.mk hcc
    have RA := Aside0.mk Ra
    have d2 : Wa.cell? ⟨g, node * 3 + 2, none⟩ = some (.bool false) := by
      have := hcc 2 _ rfl
      rwa [Int.toNat_natCast] at this
    have XA := Aside0.mk hXa
    have FA := Aside0.mk hFa
    have BA := Aside0.mk hBa
    clear hBa hXa hFa Ra hcc hrc c0 c1 c2 s0 s1
    go_wp2_with (first
      | ((with_reducible refine gate_ (.store 4 (.tmp 21) (.const (.bool true))) rfl ?_); (refine put_part k69 4 (.tmp 21) (.const (.bool true)) 69 (node : Int) 2 ws ⟨w0, w1, true⟩ (.bool true) [vc, .int .i64 w1, .bool false] rfl rfl rfl rfl (by rw [Int.toNat_natCast]; rfl) rfl rfl (by kernel_rfl) RA.out (by omega) hnd' rfl CC.out (by decide) M1.out (Fr.refl W0.heap.size [69] Wa) (List.mem_singleton.2 rfl) ?_); intro Wb hR1 hF1 hg1; have R1 := Aside0.mk hR1; have F1 := Aside0.mk hF1; have x1 := hF1.blk (blk_below H.out.1 BA.out) (by decide); have s0 : Wb.cell? ⟨s, 0, none⟩ = some (.slice A l.length c) := (blk_cell x1 0).trans rfl; have X1 := Aside0.mk x1; have x2 := hF1.blk XA.out (by decide); have b2 : Wb.cell? ⟨W.heap.size, 2, none⟩ = some (.int .i64 node) := (blk_cell x2 2).trans rfl; clear hR1 hF1 hg1 x1 x2))
    have hle2 : W0.heap.size ≤ Wa.heap.size := Nat.le_trans hle BA.out.size
    have OUTS := Aside0.mk (outs_c Wb.drew l A c (node : Int) (Kd.C_below HC0.out ((HB0.out.trans (BA.out.mono hle)).trans (below_drew (F1.out.below hle2)))) hc HR.out.outs (by omega))
    refine Rt.region (by kernel_rfl) (by kernel_rfl) ?_
    go_wp2_with (go_at_call 45; (with_reducible refine OUTS.out.mono ?_); rintro e Wc ⟨vo, rfl, hro, hfo⟩; obtain ⟨Ao, co, rfl, hco, hCo⟩ := Kd.R_reads hro; have RO := Aside0.mk hro; have FO := Aside0.mk hfo; clear hro hfo hCo)
    refine ⟨rfl, rfl, ?_⟩
    obtain ⟨os, hos⟩ : ∃ os, outsI l (node : Int) = os := ⟨_, rfl⟩
    have BC : Below Wb.heap.size Wb Wc := (below_drew (Below.refl _ _)).trans (FO.out.below (Nat.le_refl _))
    have FC : Fr W0.heap.size [69, 73, 108] W Wc := (FA.out.trans (F1.out.mono (Nat.le_refl _) (by simp))).then_below BC
    have QC : IsQ Wc W0.heap.size q xs := ((H.out.2.2.1.below BA.out).fr F1.out (by decide) (by decide)).below BC
    have RC := Kd.R_below R1.out BC
    have ro := RO.out
    rw [hos] at ro hst hco ⊢
    have HOM : Aside0 (∀ i, i ∈ os → 0 ≤ i ∧ i < l.length) := ⟨fun i hi => by rw [← hos] at hi; exact ⟨(outsI_mem hi).1, (outsI_mem hi).2.1⟩⟩
    have OC := Aside0.mk (((OwnQ.below (q := q) BA.out).trans (OwnQ.of_fr F1.out (by decide) (by decide)) BA.out.size).trans (OwnQ.below BC) (Nat.le_trans BA.out.size F1.out.size))
    have BC := Aside0.mk BC
    have FC := Aside0.mk FC
    have QC := Aside0.mk QC
    have RC := Aside0.mk RC
    have RO := Aside0.mk ro
    have HST := Aside0.mk hst
    have hom : os.length ≤ 1024 := by
      have := HR.out.outs
      rw [← hos]; unfold outsI sortO
      rw [insO_length]; omega
    have HOL : Aside0 (os.length ≤ l.length) := ⟨by rw [← hos]; unfold outsI sortO; rw [insO_length]; unfold idxI; rw [List.length_map]; exact Nat.le_trans (List.length_filter_le _ _) (by simp)⟩
    clear ro hst hos
    go_wp2
    go_loopg [30] os.length (fun g2 vi wr => ∃ (k : Nat) (st1 : List S69 × List S73), vi = .int .i64 k ∧ k ≤ os.length ∧ os.length - k ≤ g2 ∧ k69.R 69 wr W0.heap.size Any (.slice (some ⟨g, 0, none⟩) ws.length cap) st1.1 ∧ IsQ wr W0.heap.size q st1.2 ∧ Fr W0.heap.size [69, 73, 108] W wr ∧ OwnQ q W wr ∧
      (Kd.int .i64).R 3 wr Wb.heap.size Any (.slice Ao os.length co) os ∧ st1.1.length = ws.length ∧ st1.1.getD node z69 = ⟨w0, w1, true⟩ ∧ st1.2.length ≤ xs.length + k ∧ Hid ((os.drop k).foldl (fun st i => offerI st ((rd_T60 l i).f1).toNat (w0 ++ [(rd_T60 l i).f1]) (w1 + (rd_T60 l i).f3)) st1 = st))
    case atStart => exact ⟨0, _, rfl, by omega, by omega, RC.out, QC.out, FC.out, OC.out, RO.out, by simp, by simp [hnd], by simp, HST.out⟩
    case round =>
      obtain ⟨k, st1, rfl, hk, hkg, hRr, hQr, hFr, hWr, hOr, hlr, hnr, hxr, hE⟩ := hrel
      have hE := hE.out
      have OW := Aside0.mk hWr
      clear hWr
      by_cases hkl : k = os.length
      · have t1 : decide (k < os.length) = false := by simp; omega
        have t2 : decide ((k : Int) < os.length) = false := by simp; omega
        rw [List.drop_of_length_le (by omega)] at hE
        simp only [List.foldl_nil] at hE
        subst hE
        have Rr := Aside0.mk hRr
        have Qr := Aside0.mk hQr
        have Fr' := Aside0.mk hFr
        clear hRr hQr hFr hOr hnr hkl
        go_wp2
        go_end0
        exact ⟨rfl, ⟨_, q, Fr'.out.blk H.out.1 (by decide), Rr.out, Qr.out⟩, Fr'.out, OwnS.of H.out.1 OW.out⟩
      · have hk' : k < os.length := by omega
        have t1 : (k : Int) < os.length := by omega
        rw [List.drop_eq_getElem_cons hk', List.foldl_cons] at hE
        obtain ⟨ao, rfl, ci⟩ := at_nat (Kd.R_reads' hOr).2.2 k hk'
        have ei : os.getD k 0 = os[k] := by simp [hk']
        rw [← ei] at hE
        have hi := HOM.out (os.getD k 0) (by rw [ei]; exact List.getElem_mem _)
        obtain ⟨i, hie⟩ := Int.eq_ofNat_of_zero_le hi.1
        rw [hie] at hE ci hi
        have hil : i < l.length := by have := hi.2; omega
        have hil' : (i : Int) < l.length := by omega
        have hCr := Kd.C_below HC0.out (HB0.out.trans (hFr.below hle))
        obtain ⟨ad, rfl, l0, l1, l2, l3, l4⟩ := at_T60 hCr i (by omega) hil'
        simp only [Int.toNat_natCast] at l0 l1 l2 l3 l4
        have hmem : rd_T60 l (i : Int) ∈ l := by simp [rd_T60, hil]
        have hends := HR.out.ends _ hmem
        have hcost := HR.out.cost _ hmem
        generalize rd_T60 l (i : Int) = x at *
        obtain ⟨x0, x1, x2, x3, x4⟩ := x
        simp only at l0 l1 l2 l3 l4 hends hcost hE
        obtain ⟨tn, rfl⟩ := Int.eq_ofNat_of_zero_le hends.1
        rw [Int.toNat_natCast] at hE
        have htn : tn < st1.1.length := by have := hends.2; omega
        obtain ⟨vd, hcd, hrd⟩ := way_cells hRr node (by omega) ⟨w0, w1, true⟩ hnr
        simp only at hcd hrd
        have hrd := Kd.R_mono (ok' := Any) hrd (fun _ _ => trivial)
        obtain ⟨Ad, cd, rfl, hcdl, hCd⟩ := Kd.R_reads hrd
        have d0 := hcd 0 _ rfl
        have d1 := hcd 1 _ rfl
        rw [Int.toNat_natCast, show k69.sz = 3 from rfl] at d0 d1
        rw [Nat.add_zero] at d0
        have hsr := hFr.blk H.out.1 (by decide)
        have s0 : wr.cell? ⟨s, 0, none⟩ = some (.slice (some ad) l.length c) := (blk_cell hsr 0).trans rfl
        have hgr : g < wr.heap.size := Nat.lt_of_lt_of_le hgl hFr.size
        have hsr' : s < wr.heap.size := blk_lt hsr
        have Rr := Aside0.mk hRr
        have Qr := Aside0.mk hQr
        have F0 := Aside0.mk hFr
        have Or := Aside0.mk hOr
        have Er := Aside0.mk hE
        have CD := Aside0.mk hCd
        have NR := Aside0.mk hnr
        have HI := Aside0.mk hie
        clear hRr hQr hFr hOr hE hCd hcd hrd hnr hsr hmem hCr ei hie
        go_wp2
        obtain ⟨Wl, hWl⟩ : ∃ Wl, wr.alloc (.cells #[.int .i64 x0, .int .i64 tn, .int .u64 x2, .int .i64 x3, .int .u32 x4] 60) = Wl := ⟨_, rfl⟩
        rw [hWl]
        have hBl : Below wr.heap.size wr Wl := by rw [← hWl]; exact below_alloc (Below.refl _ _) _
        have hXl : Wl.heap[wr.heap.size]? = some (.cells #[.int .i64 x0, .int .i64 tn, .int .u64 x2, .int .i64 x3, .int .u32 x4] 60 (0, 0)) := by rw [← hWl]; exact blk_new _ _
        have e1 : Wl.cell? ⟨wr.heap.size, 1, none⟩ = some (.int .i64 tn) := (blk_cell hXl 1).trans rfl
        have e3 : Wl.cell? ⟨wr.heap.size, 3, none⟩ = some (.int .i64 x3) := (blk_cell hXl 3).trans rfl
        obtain ⟨dcur, hdg⟩ : ∃ dcur, wr.heap[g]? = some (.cells dcur 69 (0, 0)) := by
          obtain ⟨g', c', cur', e, _, hb', _⟩ := R_plain Rr.out (by omega)
          injection e with e
          injection e with e
          injection e with e
          subst e
          exact ⟨cur', hb'⟩
        have d0 : Wl.cell? ⟨g, node * 3, none⟩ = some (.slice Ad w0.length cd) := by rw [blk_cell (blk_below hdg hBl)]; rw [blk_cell hdg] at d0; exact d0
        have d1 : Wl.cell? ⟨g, node * 3 + 1, none⟩ = some (.int .i64 w1) := by rw [blk_cell (blk_below hdg hBl)]; rw [blk_cell hdg] at d1; exact d1
        have CD := Aside0.mk (Kd.C_below CD.out hBl)
        have BL := Aside0.mk hBl
        have XL := Aside0.mk hXl
        have HDG := Aside0.mk hdg
        clear hBl hXl hdg hWl l0 l1 l2 l3 l4 s0 ci
        refine Rt.region2 28 [22] [2, 6, 10, 15, 19, 25, 27] (Below Wl.drew.heap.size Wl.drew) (by kernel_rfl) (by kernel_rfl) (Below.refl _ _) (fun w w' h1 h2 => h1.trans (h2.mono h1.size)) ?_
        dsimp only [Rt.wpSeg, List.take]
        go_wp2_with (at_builtin; (refine grow1 (W := Wl.drew) (.tmp 58) (.tmp 61) rfl rfl Ad w0 (tn : Int) rfl rfl (Kd.C_drew CD.out) hf0.1 (by omega) ?_); intro v1 w3 hR1 hB1; have RV := Aside0.mk hR1; have BV := Aside0.mk hB1; clear hR1 hB1)
        have B3 : Below wr.heap.size wr w3 := (BL.out.trans ((below_drew (Below.refl _ _)).mono BL.out.size)).trans (BV.out.mono BL.out.size)
        have I3 : IsS w3 W0.heap.size s (some ad) l.length c st1.1 st1.2 := ⟨_, q, blk_below (F0.out.blk H.out.1 (by decide)) B3, Kd.R_below Rr.out B3, Qr.out.below B3⟩
        have hx3 : 0 ≤ x3 := hcost.1
        have hx3' : x3 ≤ 65535 := hcost.2
        have hw1 : 0 ≤ w1 := hf1.1
        have hw1' : w1 ≤ 1000000000 := hf1.2
        have OFF := Aside0.mk (offer_c w3 W0.heap.size s (some ad) l.length c st1.1 st1.2 I3 tn htn (by omega) (by have := HR.out.room; have := HOL.out; omega) v1 (w0 ++ [(tn : Int)]) (Kd.R_lower RV.out (Nat.le_trans hle (Nat.le_trans F0.out.size BL.out.size))) (w1 + x3) _ rfl)
        have d1' : w3.cell? ⟨g, node * 3 + 1, none⟩ = some (.int .i64 w1) := by rw [blk_cell (blk_below HDG.out B3)]; rw [blk_cell (blk_below HDG.out BL.out)] at d1; exact d1
        have e3' : w3.cell? ⟨wr.heap.size, 3, none⟩ = some (.int .i64 x3) := (blk_cell (blk_below XL.out ((below_drew (Below.refl _ _)).trans BV.out)) 3).trans rfl
        have B3 := Aside0.mk B3
        have F3 := Aside0.mk (F0.out.then_below B3.out)
        clear I3
        refine ⟨BV.out, ?_⟩
        go_wp2_with (go_at_call 25; go_loud ((with_reducible refine OFF.out.mono ?_); rintro e w4 ⟨rfl, hi4, hf4, ho4⟩; have I4 := Aside0.mk hi4; have F4 := Aside0.mk hf4; have O4S := Aside0.mk ho4; clear hi4 hf4 ho4))
        have LW : Aside0 (∀ w2, Below Wl.drew.heap.size Wl.drew w2 → w2.cell? ⟨wr.heap.size, 1, none⟩ = some (.int .i64 tn) ∧ w2.cell? ⟨wr.heap.size, 3, none⟩ = some (.int .i64 x3) ∧ w2.cell? ⟨g, node * 3, none⟩ = some (.slice Ad w0.length cd) ∧ w2.cell? ⟨g, node * 3 + 1, none⟩ = some (.int .i64 w1)) := ⟨fun w2 hb => by
          have b1 := blk_below (blk_drew XL.out) hb
          have b2 := blk_below (blk_drew (blk_below HDG.out BL.out)) hb
          rw [blk_cell (blk_below HDG.out BL.out)] at d0 d1
          exact ⟨(blk_cell b1 1).trans rfl, (blk_cell b1 3).trans rfl, (blk_cell b2 _).trans d0, (blk_cell b2 _).trans d1⟩⟩
        refine ⟨rfl, rfl, ⟨fun _ w2 hS => ?_, fun _ w2 hS => ?_, fun _ w2 hS => ?_, fun _ w2 hS => ?_, fun _ w2 hS => ?_, fun _ w2 hS => ?_, fun _ w2 hS => ?_, trivial⟩, ?_⟩
        · obtain ⟨q1, q2, q3, q4⟩ := LW.out w2 hS
          clear LW
          simp [execOp, go_sem]
          rw [q1]
          rfl
        · obtain ⟨q1, q2, q3, q4⟩ := LW.out w2 hS
          clear LW
          simp [execOp, go_sem]
          rw [q3]
          rfl
        · obtain ⟨q1, q2, q3, q4⟩ := LW.out w2 hS
          clear LW
          simp [execOp, go_sem]
          rw [q3]
          rfl
        · obtain ⟨q1, q2, q3, q4⟩ := LW.out w2 hS
          clear LW
          simp [execOp, go_sem]
          rw [q3]
          rfl
        · obtain ⟨q1, q2, q3, q4⟩ := LW.out w2 hS
          clear LW
          simp [execOp, go_sem]
          rw [q1]
          rfl
        · obtain ⟨q1, q2, q3, q4⟩ := LW.out w2 hS
          clear LW
          simp [execOp, go_sem]
          rw [q4]
          rfl
        · obtain ⟨q1, q2, q3, q4⟩ := LW.out w2 hS
          clear LW
          simp [execOp, go_sem]
          rw [q2]
          rfl
        have F5 := F3.out.trans F4.out
        have OW4 := Aside0.mk ((OW.out.trans (OwnQ.below B3.out) F0.out.size).trans (O4S.out _ _ q (blk_below (F0.out.blk H.out.1 (by decide)) B3.out)) (Nat.le_trans F0.out.size B3.out.size))
        obtain ⟨vw4, q4, hb4, R4, Q4⟩ := I4.out
        have hb5 := F5.blk H.out.1 (by decide)
        rw [hb4] at hb5
        injection hb5 with hb5
        injection hb5 with hb5
        injection hb5 with hb5
        injection hb5 with _ hb5
        injection hb5 with e5 hb5
        injection hb5 with e6 _
        injection e6 with e6
        injection e6 with e6
        injection e6 with e6
        subst e5 e6
        have R4 := Aside0.mk R4
        have Q4 := Aside0.mk Q4
        have F5 := Aside0.mk F5
        have O4 := Aside0.mk (R_fr (R_fr Or.out (Fr.of_below B3.out 0 []) (by simp)) F4.out (by decide))
        clear hb4
        go_wp2
        go_roundg (os.length - (k + 1))
        case measure => omega
        case rel => exact ⟨k + 1, offerI st1 tn (w0 ++ [(tn : Int)]) (w1 + x3), by go_num, by omega, Nat.le_refl _, R4.out, Q4.out, F5.out, OW4.out, O4.out, by rw [offerI_len]; exact hlr, offerI_keep NR.out rfl, by have := offerI_q st1 tn (w0 ++ [(tn : Int)]) (w1 + x3); omega, Er.out⟩
end Go.Proofs.Ytaeacdnefklakaa.L
