/-
  spf's search: its block; offer.
  Conditions: as the contract states them.
-/
import Derived.Test.YtaeacdnefklakaaQe
import Derived.Test.YtaeacdnefklakaaBa
namespace Go.Proofs.Ytaeacdnefklakaa.L
open Go.RowKit Go.Proofs.YtaeacdnefklakaaW.PrintWords Go.Proofs.YtaeacdnefklakaaW.PrintLast Go.Proofs.YtaeacdnefklakaaW.PrintMore Go.Fr
set_option linter.unusedVariables false
set_option linter.unusedSimpArgs false
set_option maxRecDepth 100000

/-- What stands at a way's place. -/
theorem way_at {W : World} {base g n cap : Nat} {ws : List S69} (h : k69.R 69 W base Any (.slice (some ⟨g, 0, none⟩) n cap) ws) (i : Nat) (hi : i < n) :
    ∃ v0, W.cell? ⟨g, i * 3, none⟩ = some v0 ∧ W.cell? ⟨g, i * 3 + 1, none⟩ = some (.int .i64 (ws.getD i z69).f1) ∧ W.cell? ⟨g, i * 3 + 2, none⟩ = some (.bool (ws.getD i z69).f2) ∧ (Kd.int .i64).R 3 W base Any v0 (ws.getD i z69).f0 := by
  obtain ⟨c, hcl, hM, hcc⟩ := Kd.R_get h z69 (i : Int) (by omega) (by omega)
  rw [Int.toNat_natCast] at hM hcc
  obtain ⟨v0, rfl, hR⟩ := k69_openM hM
  have e : k69.sz = 3 := rfl
  rw [e] at hcc
  have h0 := hcc 0 _ rfl
  have h1 := hcc 1 _ rfl
  have h2 := hcc 2 _ rfl
  simp only [add_plain, Nat.zero_add, Nat.add_zero] at h0 h1 h2
  exact ⟨v0, h0, h1, h2, Kd.R_mono hR (fun _ _ => trivial)⟩

theorem way_cells {W : World} {base g n cap : Nat} {ws : List S69} (h : k69.R 69 W base Any (.slice (some ⟨g, 0, none⟩) n cap) ws) (i : Nat) (hi : i < n) (w : S69) (hw : ws.getD i z69 = w) :
    ∃ v0 : Value, (∀ (j : Nat) (u : Value), [v0, .int .i64 w.f1, .bool w.f2][j]? = some u → W.cell? ⟨g, (i : Int).toNat * k69.sz + j, none⟩ = some u) ∧ (Kd.int .i64).R 3 W base (fun k => k ≠ g) v0 w.f0 := by
  subst hw
  obtain ⟨c, hcl, hM, hcc⟩ := Kd.R_get h z69 (i : Int) (by omega) (by omega)
  rw [Int.toNat_natCast] at hM
  obtain ⟨v0, rfl, hR⟩ := k69_openM hM
  refine ⟨v0, fun j u hj => ?_, Kd.R_mono hR (fun k hk e => hk.2 (by rw [e]; rfl))⟩
  have := hcc j u hj
  rwa [add_plain] at this
theorem wF {w : World} {base g : Nat} {v : Value} {xs : List Int} {cells : Array Value} (h : (Kd.int .i64).R 3 w base Any v xs) (hb : w.heap[g]? = some (.cells cells 69 (0, 0))) : (Kd.int .i64).R 3 w base (fun k => k ≠ g) v xs := Kd.R_mono (Kd.R_types h hb (by decide)) (fun _ hk => hk.2)

/-- A search at block s: its links, its ways, its queue. -/
structure IsS (W : World) (base s : Nat) (A : Option Addr) (n c : Nat) (ws : List S69) (xs : List S73) : Prop where
  ex : ∃ vw q, W.heap[s]? = some (.cells #[.slice A n c, vw, .pointer (some ⟨q, 0, none⟩)] 67 (0, 0)) ∧ k69.R 69 W base Any vw ws ∧ IsQ W base q xs

theorem wayE : ∀ q, q ∈ 69 :: k69.E → q = 69 ∨ q = 3 := by
  intro q hq
  simp [k69, Kd.iso, Kd.pair, Kd.int, Kd.bool, Kd.scalar, Kd.slice] at hq
  exact hq

theorem IsS.fr {W W' : World} {base s b n c : Nat} {A : Option Addr} {ws : List S69} {xs : List S73} {T : List Nat} (h : IsS W base s A n c ws xs) (hf : Fr b T W W') (h1 : 73 ∉ T) (h2 : 108 ∉ T) (h3 : 69 ∉ T) (h4 : 3 ∉ T) (h5 : 67 ∉ T) : IsS W' base s A n c ws xs := by
  obtain ⟨vw, q, hb, hR, hQ⟩ := h
  exact ⟨vw, q, hf.blk hb h5, R_fr hR hf (by intro x hx; rcases wayE x hx with rfl | rfl <;> assumption), hQ.fr hf h1 h2⟩
theorem IsS.below {W W' : World} {base s n c : Nat} {A : Option Addr} {ws : List S69} {xs : List S73} (h : IsS W base s A n c ws xs) (hf : Below W.heap.size W W') : IsS W' base s A n c ws xs := h.fr (Fr.of_below hf base []) (by simp) (by simp) (by simp) (by simp) (by simp)

/-- Of the search's queue: as OwnQ. -/
def OwnS (s : Nat) (w W : World) : Prop := ∀ (u v : Value) (q : Nat), w.heap[s]? = some (.cells #[u, v, .pointer (some ⟨q, 0, none⟩)] 67 (0, 0)) → OwnQ q w W
theorem OwnS.of {s q : Nat} {w W : World} {a b : Value} (hb : w.heap[s]? = some (.cells #[a, b, .pointer (some ⟨q, 0, none⟩)] 67 (0, 0))) (h : OwnQ q w W) : OwnS s w W := fun u v q' hb' => by
  rw [hb] at hb'
  injection hb' with hb'
  injection hb' with hb'
  injection hb' with hb'
  injection hb' with _ hb'
  injection hb' with _ hb'
  injection hb' with hb' _
  injection hb' with hb'
  injection hb' with hb'
  injection hb' with hb'
  subst hb'
  exact h

/-- What offer does. -/
def offerI (st : List S69 × List S73) (tn : Nat) (lst : List Int) (cost : Int) : List S69 × List S73 :=
  let w := st.1.getD tn z69
  if w.f2 || (decide (0 ≤ w.f1) && !betterI cost lst w.f1 w.f0) then st else (st.1.set tn ⟨lst, cost, w.f2⟩, pushI st.2 ⟨cost, lst.length, tn⟩)

set_option maxHeartbeats 1600000 in
theorem offer_c (W : World) (base s : Nat) (A : Option Addr) (n c : Nat) (ws : List S69) (xs : List S73) (h : IsS W base s A n c ws xs) (tn : Nat) (hto : tn < ws.length) (hws : ws.length ≤ 16) (hxs : xs.length < 1024) (vl : Value) (lst : List Int) (hl : (Kd.int .i64).R 3 W base Any vl lst) (cost : Int)
    (st : List S69 × List S73) (hst : offerI (ws, xs) tn lst cost = st) :
    Calls Try.prog 25 #[.pointer (some ⟨s, 0, none⟩), .int .i64 tn, vl, .int .i64 cost] W fun e w' => e = .returned (.tuple #[]) ∧ IsS w' base s A n c st.1 st.2 ∧ Fr base [69, 73, 108] W w' ∧ OwnS s W w' := by
  obtain ⟨vw, q, hb, hR, hQ⟩ := h
  obtain ⟨g, cap, cur, rfl, hg, hh, hcap, hsz⟩ := R_plain hR (by omega)
  obtain ⟨v0, c0, c1, c2, hR0⟩ := way_at hR tn hto
  obtain ⟨Al, cl, rfl, hcl, hCl⟩ := Kd.R_reads hl
  obtain ⟨A0, k0, rfl, hk0, hC0⟩ := Kd.R_reads hR0
  have s1 : W.cell? ⟨s, 1, none⟩ = some (.slice (some ⟨g, 0, none⟩) ws.length cap) := (blk_cell hb 1).trans rfl
  have s2 : W.cell? ⟨s, 2, none⟩ = some (.pointer (some ⟨q, 0, none⟩)) := (blk_cell hb 2).trans rfl
  have H := Aside0.mk (And.intro hb (And.intro hR (And.intro hQ hl)))
  have HH := Aside0.mk hh
  have BET := Aside0.mk (fun (w1 : World) (hb : Below W.heap.size W w1) => better_c w1 cost (ws.getD tn z69).f1 lst (ws.getD tn z69).f0 Al A0 cl k0 (Kd.C_below hCl hb) (Kd.C_below hC0 hb) hcl hk0)
  obtain ⟨w, hw⟩ : ∃ w, ws.getD tn z69 = w := ⟨_, rfl⟩
  unfold offerI at hst
  simp only at hst
  rw [hw] at hst c0 c1 c2 BET
  have HR0 := Aside0.mk hR0
  rw [hw] at HR0
  obtain ⟨w0, w1, w2⟩ := w
  simp only at c0 c1 c2 hst
  have HWV := Aside0.mk hw
  clear hb hR hQ hl hh hCl hC0 hR0 hw
  have hto' : (tn : Int) < ws.length := by omega
  obtain ⟨bb, hbb⟩ : ∃ bb, betterI cost lst w1 w0 = bb := ⟨_, rfl⟩
  simp only at BET
  rw [hbb] at hst BET
  clear hbb
  cases w2 with
  | true =>
    simp only [Bool.true_or, if_true] at hst
    subst hst
    go_enter Try.func25, Try.ntmps25
    go_wp2
    refine Rt.region (by kernel_rfl) (by kernel_rfl) ?_
    have HB := Aside0.mk (below_drew (Below.refl W.heap.size W))
    go_wp2_with (go_at_call 22; (with_reducible refine (BET.out _ HB.out).mono ?_); rintro e w' ⟨rfl, rfl⟩)
    refine ⟨rfl, rfl, ?_⟩
    go_wp2
    go_returns
    have HW : IsS W base s A n c ws xs := ⟨_, q, H.out.1, H.out.2.1, H.out.2.2.1⟩
    exact ⟨rfl, HW.below (below_drew (Below.refl _ _)), (Fr.refl _ _ _).drew, OwnS.of H.out.1 (OwnQ.below (below_drew (Below.refl _ _)))⟩
  | false =>
  cases h0 : decide (0 ≤ w1) with
  | true =>
    cases bb with
    | false =>
      rw [h0] at hst
      simp only [Bool.false_or, Bool.true_and, Bool.not_false, if_true] at hst
      subst hst
      go_enter Try.func25, Try.ntmps25
      go_wp2
      refine Rt.region (by kernel_rfl) (by kernel_rfl) ?_
      have HB := Aside0.mk (below_drew (Below.refl W.heap.size W))
      go_wp2_with (go_at_call 22; (with_reducible refine (BET.out _ HB.out).mono ?_); rintro e w' ⟨rfl, rfl⟩)
      refine ⟨rfl, rfl, ?_⟩
      go_wp2
      go_returns
      have HW : IsS W base s A n c ws xs := ⟨_, q, H.out.1, H.out.2.1, H.out.2.2.1⟩
      exact ⟨rfl, HW.below (below_drew (Below.refl _ _)), (Fr.refl _ _ _).drew, OwnS.of H.out.1 (OwnQ.below (below_drew (Below.refl _ _)))⟩
    | true =>
      rw [h0] at hst
      simp only [Bool.false_or, Bool.true_and, Bool.not_true, Bool.false_eq_true, if_false] at hst
      subst hst
      go_enter Try.func25, Try.ntmps25
      go_wp2
      refine Rt.region (by kernel_rfl) (by kernel_rfl) ?_
      have HB := Aside0.mk (below_drew (Below.refl W.heap.size W))
      go_wp2_with (go_at_call 22; (with_reducible refine (BET.out _ HB.out).mono ?_); rintro e w' ⟨rfl, rfl⟩)
      refine ⟨rfl, rfl, ?_⟩
      have R0 := Aside0.mk (Kd.R_drew H.out.2.1)
      have F0 := Aside0.mk ((Fr.refl base [69] W).drew)
      have WC := way_cells R0.out tn (by omega) ⟨w0, w1, false⟩ HWV.out
      obtain ⟨vc, hcc, hrc⟩ := WC
      have CC := Aside0.mk hcc
      have M1 := Aside0.mk (k69_mkM W.drew base (fun k => k ≠ g) ⟨lst, w1, false⟩ (wF (Kd.R_drew H.out.2.2.2) (blk_drew HH.out)))
      clear hcc hrc
      go_wp2_with (first
        | ((with_reducible refine gate_ (.store 25 (.tmp 45) (.tmp 42)) rfl ?_); refine put_part k69 25 (.tmp 45) (.tmp 42) 69 (tn : Int) 0 ws ⟨lst, w1, false⟩ (.slice Al lst.length cl) [vc, .int .i64 w1, .bool false] rfl rfl rfl rfl (by rw [Int.toNat_natCast]; rfl) rfl rfl (by kernel_rfl) R0.out (by omega) hto' rfl CC.out (by decide) M1.out F0.out (List.mem_singleton.2 rfl) ?_; intro w1' hR1 hF1 hg1; obtain ⟨vd, hcd, hrd⟩ := way_cells hR1 tn (by omega) ⟨lst, w1, false⟩ (by simp [hto]); have R1 := Aside0.mk hR1; have CD := Aside0.mk hcd; have M2 := Aside0.mk (k69_mkM w1' base (fun k => k ≠ g) ⟨lst, cost, false⟩ hrd); have F1 := Aside0.mk hF1; clear hR1 hF1 hg1 hcd hrd)
        | ((with_reducible refine gate_ (.store 3 (.tmp 47) (.tmp 43)) rfl ?_); refine put_part k69 3 (.tmp 47) (.tmp 43) 69 (tn : Int) 1 _ ⟨lst, cost, false⟩ (.int .i64 cost) [vd, .int .i64 w1, .bool false] rfl rfl rfl rfl (by rw [Int.toNat_natCast]; rfl) rfl rfl (by kernel_rfl) R1.out (by omega) hto' rfl CD.out (by decide) M2.out F1.out (List.mem_singleton.2 rfl) ?_; intro w2' hR2 hF2 hg2; rw [List.set_set] at hR2; have R2 := Aside0.mk hR2; have F2 := Aside0.mk hF2; have x2 := hF2.blk H.out.1 (by decide); have y2 : w2'.cell? ⟨s, 2, none⟩ = some (.pointer (some ⟨q, 0, none⟩)) := (blk_cell x2 2).trans rfl; have X2 := Aside0.mk x2; have PUSH := Aside0.mk (qpush_c w2' base q xs (H.out.2.2.1.fr hF2 (by decide) (by decide)) ⟨cost, lst.length, tn⟩ hxs _ rfl); clear hR2 hF2 hg2 x2)
        | (go_at_call 41; (with_reducible refine PUSH.out.mono ?_); rintro e w3 ⟨rfl, hq3, hf3⟩; have Q3 := Aside0.mk hq3; have F3 := Aside0.mk hf3.fr; have O3 := Aside0.mk hf3.own; clear hq3 hf3))
      go_end0
      refine ⟨rfl, ⟨_, q, F3.out.blk X2.out (by decide), R_fr R2.out F3.out (by decide), Q3.out⟩, (F2.out.mono (Nat.le_refl _) (by simp)).trans (F3.out.mono (Nat.le_refl _) (by simp)), OwnS.of H.out.1 ((OwnQ.of_fr F2.out (by decide) (by decide)).trans O3.out F2.out.size)⟩
  | false =>
    rw [h0] at hst
    simp only [Bool.false_or, Bool.false_and, Bool.false_eq_true, if_false] at hst
    subst hst
    go_enter Try.func25, Try.ntmps25
    go_wp2
    refine Rt.region (by kernel_rfl) (by kernel_rfl) ?_
    have HB := Aside0.mk (below_drew (Below.refl W.heap.size W))
    go_wp2_with (go_at_call 22; (with_reducible refine (BET.out _ HB.out).mono ?_); rintro e w' ⟨rfl, rfl⟩)
    refine ⟨rfl, rfl, ?_⟩
    have R0 := Aside0.mk (Kd.R_drew H.out.2.1)
    have F0 := Aside0.mk ((Fr.refl base [69] W).drew)
    have WC := way_cells R0.out tn (by omega) ⟨w0, w1, false⟩ HWV.out
    obtain ⟨vc, hcc, hrc⟩ := WC
    have CC := Aside0.mk hcc
    have M1 := Aside0.mk (k69_mkM W.drew base (fun k => k ≠ g) ⟨lst, w1, false⟩ (wF (Kd.R_drew H.out.2.2.2) (blk_drew HH.out)))
    clear hcc hrc
    go_wp2_with (first
      | ((with_reducible refine gate_ (.store 25 (.tmp 45) (.tmp 42)) rfl ?_); refine put_part k69 25 (.tmp 45) (.tmp 42) 69 (tn : Int) 0 ws ⟨lst, w1, false⟩ (.slice Al lst.length cl) [vc, .int .i64 w1, .bool false] rfl rfl rfl rfl (by rw [Int.toNat_natCast]; rfl) rfl rfl (by kernel_rfl) R0.out (by omega) hto' rfl CC.out (by decide) M1.out F0.out (List.mem_singleton.2 rfl) ?_; intro w1' hR1 hF1 hg1; obtain ⟨vd, hcd, hrd⟩ := way_cells hR1 tn (by omega) ⟨lst, w1, false⟩ (by simp [hto]); have R1 := Aside0.mk hR1; have CD := Aside0.mk hcd; have M2 := Aside0.mk (k69_mkM w1' base (fun k => k ≠ g) ⟨lst, cost, false⟩ hrd); have F1 := Aside0.mk hF1; clear hR1 hF1 hg1 hcd hrd)
      | ((with_reducible refine gate_ (.store 3 (.tmp 47) (.tmp 43)) rfl ?_); refine put_part k69 3 (.tmp 47) (.tmp 43) 69 (tn : Int) 1 _ ⟨lst, cost, false⟩ (.int .i64 cost) [vd, .int .i64 w1, .bool false] rfl rfl rfl rfl (by rw [Int.toNat_natCast]; rfl) rfl rfl (by kernel_rfl) R1.out (by omega) hto' rfl CD.out (by decide) M2.out F1.out (List.mem_singleton.2 rfl) ?_; intro w2' hR2 hF2 hg2; rw [List.set_set] at hR2; have R2 := Aside0.mk hR2; have F2 := Aside0.mk hF2; have x2 := hF2.blk H.out.1 (by decide); have y2 : w2'.cell? ⟨s, 2, none⟩ = some (.pointer (some ⟨q, 0, none⟩)) := (blk_cell x2 2).trans rfl; have X2 := Aside0.mk x2; have PUSH := Aside0.mk (qpush_c w2' base q xs (H.out.2.2.1.fr hF2 (by decide) (by decide)) ⟨cost, lst.length, tn⟩ hxs _ rfl); clear hR2 hF2 hg2 x2)
      | (go_at_call 41; (with_reducible refine PUSH.out.mono ?_); rintro e w3 ⟨rfl, hq3, hf3⟩; have Q3 := Aside0.mk hq3; have F3 := Aside0.mk hf3.fr; have O3 := Aside0.mk hf3.own; clear hq3 hf3))
    go_end0
    refine ⟨rfl, ⟨_, q, F3.out.blk X2.out (by decide), R_fr R2.out F3.out (by decide), Q3.out⟩, (F2.out.mono (Nat.le_refl _) (by simp)).trans (F3.out.mono (Nat.le_refl _) (by simp)), OwnS.of H.out.1 ((OwnQ.of_fr F2.out (by decide) (by decide)).trans O3.out F2.out.size)⟩
end Go.Proofs.Ytaeacdnefklakaa.L
