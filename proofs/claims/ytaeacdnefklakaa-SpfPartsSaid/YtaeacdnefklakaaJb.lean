/-
  spf.All.
  Conditions: as the contract states them.
-/
import Derived.Test.YtaeacdnefklakaaJa
namespace Go.Proofs.Ytaeacdnefklakaa.L
open Go.RowKit Go.Proofs.YtaeacdnefklakaaW.PrintWords Go.Proofs.YtaeacdnefklakaaW.PrintLast Go.Proofs.YtaeacdnefklakaaW.PrintMore Go.Fr
set_option linter.unusedVariables false
set_option linter.unusedSimpArgs false
set_option maxRecDepth 100000

def wayZ : S69 := ⟨[], 0, false⟩
def wayU : S69 := ⟨[], -1, false⟩

theorem info_way : (Try.prog.info? 69).map (fun i => (i.zero, i.size, i.bytes)) = some (some (.agg #[.slice none 0 0, .int .i64 0, .bool false]), 3, 40) := by kernel_rfl
theorem info_sint : (Try.prog.info? 25).map (fun i => (i.zero, i.size, i.bytes)) = some (some (.slice none 0 0), 1, 24) := by kernel_rfl
theorem under_ssint : Try.prog.underlying 31 = some (.slice 25) := by kernel_rfl
theorem under_sway : Try.prog.underlying 63 = some (.slice 69) := by kernel_rfl

/-- make([]T, n). -/
theorem mk_run {e t : Nat} {z : Value} {sz bytes : Nat} (ht : Try.prog.underlying t = some (.slice e)) (hinfo : (Try.prog.info? e).map (fun i => (i.zero, i.size, i.bytes)) = some (some z, sz, bytes)) (m : Nat) (hm : m ≤ 1000) (hb : bytes ≤ 1000) (w : World) :
    (Instr.makeSlice t (.int .i64 m) (.int .i64 m)).run Try.prog w = .ok (.slice (some ⟨w.heap.size, 0, none⟩) m m) (w.alloc (.cells (madeCells z.cells (m * sz)) e)) := by
  obtain ⟨i0, hi, hzz⟩ := Option.map_eq_some_iff.1 hinfo
  simp only [Prod.mk.injEq] at hzz
  obtain ⟨hz0, hz1, hz2⟩ := hzz
  have h : bytes * m ≤ 1000 * 1000 := Nat.mul_le_mul hb hm
  have hr := run_make (P := Try.prog) (w := w) t e i0 z ht hi hz0 .i64 .i64 (m : Int) (m : Int) (by omega) (by omega) (by rw [hz2, ← Int.natCast_mul]; omega) (by omega)
  simp only [Int.toNat_natCast] at hr
  rwa [hz1] at hr
theorem mk_R {α : Type} (d : Kd α) (e : Nat) {z : Value} (hz : z.cells.size = d.sz) (hs0 : 0 < d.sz) (z0 : α) (m : Nat) (hm : m ≤ 1000) (W : World) (base : Nat) (hb : base ≤ W.heap.size) (hzero : d.M W base (fun _ => False) z0 z.cells.toList) {ok : Nat → Prop} (hok : ok W.heap.size) :
    d.R e (W.alloc (.cells (madeCells z.cells (m * d.sz)) e)) base ok (.slice (some ⟨W.heap.size, 0, none⟩) m m) (List.replicate m z0) := by
  have hrep := Kd.reps_made hz hs0 hzero m
  refine ⟨fun k hk => by have : W.heap.size = k := by simpa [Value.ownBlock] using hk
                         rw [← this]; exact hok, (madeCells z.cells (m * d.sz)).toList, ?_, ?_⟩
  · have h2 := World.ownsRow_lit (base := base) (e := e) (size := d.sz) W (madeCells z.cells (m * d.sz)) m hb (by simp only [maxLen]; omega) (by simp [size_madeCells])
    simpa using h2
  · exact hrep.imp_ (fun p c hp => d.M_mono (fun k hk => absurd hk.1 (by simp)) (Kd.M_below (d.M_bound hp) (below_alloc (Below.refl _ _) _)))

theorem mkI (m : Nat) (hm : m ≤ 1000) (W : World) (base : Nat) (hb : base ≤ W.heap.size) : (Kd.int .i64).R 3 (W.alloc (.cells (madeCells #[.int .i64 0] m) 3)) base Any (.slice (some ⟨W.heap.size, 0, none⟩) m m) (List.replicate m (0 : Int)) := by
  have := mk_R (Kd.int .i64) 3 (z := .int .i64 0) rfl (by decide) (0 : Int) m hm W base hb rfl (ok := Any) trivial
  rwa [show m * (Kd.int .i64).sz = m from Nat.mul_one m] at this
theorem mkS (m : Nat) (hm : m ≤ 1000) (W : World) (base : Nat) (hb : base ≤ W.heap.size) {ok : Nat → Prop} (hok : ok W.heap.size) : (Kd.slice 3 (Kd.int .i64)).R 25 (W.alloc (.cells (madeCells #[.slice none 0 0] m) 25)) base ok (.slice (some ⟨W.heap.size, 0, none⟩) m m) (List.replicate m ([] : List Int)) := by
  have := mk_R (Kd.slice 3 (Kd.int .i64)) 25 (z := .slice none 0 0) rfl (by decide) ([] : List Int) m hm W base hb ⟨_, rfl, Kd.R_nil _ _ _ _ _⟩ hok
  rwa [show m * (Kd.slice 3 (Kd.int .i64)).sz = m from Nat.mul_one m] at this
def midW (n k : Nat) : List S69 := List.replicate k wayU ++ List.replicate (n - k) wayZ
theorem midW_len (n k : Nat) (h : k ≤ n) : (midW n k).length = n := by simp [midW]; omega
theorem midW_get (n k : Nat) (h : k < n) : (midW n k).getD k z69 = wayZ := by
  unfold midW
  rw [List.getD_eq_getElem?_getD, List.getElem?_append_right (by simp), List.length_replicate, Nat.sub_self]
  simp [show 0 < n - k by omega]
theorem midW_set (n k : Nat) (h : k < n) : (midW n k).set k wayU = midW n (k + 1) := by
  unfold midW
  rw [show n - k = (n - (k + 1)) + 1 by omega, List.replicate_succ, List.set_append_right _ _ (by simp), List.length_replicate, Nat.sub_self, List.set_cons_zero, List.replicate_succ', List.append_assoc]
  rfl

theorem start_inv {n frm : Nat} (hf : frm < n) : Inv n (offerI (midW n n, []) frm [(frm : Int)] 0) := by
  have h0 : InvB n 0 1 0 (midW n n, []) := ⟨midW_len n n (Nat.le_refl _), fun i hi => Or.inl (by simp [midW, hi, wayU]), by simp, by simp⟩
  have hn : nset (midW n n) = 0 := by simp [nset, midW, wayU, List.countP_replicate]
  obtain ⟨h1, h2⟩ := offer_inv h0 hf (Int.le_refl 0) (Int.le_refl 0) (lst := [(frm : Int)]) (by simp) (by simp)
  unfold Inv
  rw [h2]
  simp only
  rw [hn]
  exact h1.mono (by simp) (by simp) (by simp)

/-- The search's loop. -/
def runI (l : List S60) : Nat → List S69 × List S73 → List S69 × List S73
  | 0, st => st
  | f + 1, st => match st.2 with
    | [] => st
    | _ :: _ => runI l f (settleI l (st.1, (popI st.2).2) (popI st.2).1.f2.toNat)
def measI (n : Nat) (st : List S69 × List S73) : Nat := st.2.length + 20 * (n - nset st.1)

theorem IsS.at {w : World} {base s n c q : Nat} {A : Option Addr} {ws : List S69} {xs : List S73} {a v : Value} (h : IsS w base s A n c ws xs) (hb : w.heap[s]? = some (.cells #[a, v, .pointer (some ⟨q, 0, none⟩)] 67 (0, 0))) : k69.R 69 w base Any v ws ∧ IsQ w base q xs := by
  obtain ⟨vw', q', hb', hR', hQ'⟩ := h
  rw [hb'] at hb
  injection hb with hb
  injection hb with hb
  injection hb with hb
  injection hb with _ hb
  injection hb with e5 hb
  injection hb with e6 _
  injection e6 with e6
  injection e6 with e6
  injection e6 with e6
  subst e5 e6
  exact ⟨hR', hQ'⟩
/-- Stores into an item's block that is not the queue's row. -/
theorem IsQ.item {w : World} {base q b : Nat} {xs : List S73} {cs : Array Value} (h : IsQ w base q xs) (hb : w.heap[b]? = some (.cells cs 73 (0, 0))) (hne : ∀ v : Value, w.heap[q]? = some (.cells #[.bool true, v] 108 (0, 0)) → some b ≠ v.ownBlock) (i : Nat) (u : Value) : IsQ (w.setCell ⟨b, i, none⟩ u) base q xs := by
  obtain ⟨⟨v, hv, hR⟩, hle, hn⟩ := h
  have hqb : q ≠ b := blk_ne hv hb (by decide)
  exact ⟨⟨v, blk_far hv hqb u, R_mono_any (Kd.R_far (R_ok (ok := fun k => k ≠ b) hR (fun k hk e => hne v hv (by rw [hk, e]))) (fun _ h => h) u)⟩, hle, hn⟩
theorem row_item {w : World} {q b : Nat} {cs : Array Value} (hb : w.heap[b]? = some (.cells cs 73 (0, 0))) (i : Nat) (u : Value) {P : Value → Prop} (h : ∀ v : Value, w.heap[q]? = some (.cells #[.bool true, v] 108 (0, 0)) → P v) (hq : q ≠ b) : ∀ v : Value, (w.setCell ⟨b, i, none⟩ u).heap[q]? = some (.cells #[.bool true, v] 108 (0, 0)) → P v := fun v hv => h v (by rw [Below.heap_setCell w _ u q hq] at hv; exact hv)
theorem row_lt {w : World} {base q : Nat} {xs : List S73} (h : IsQ w base q xs) : ∀ v : Value, w.heap[q]? = some (.cells #[.bool true, v] 108 (0, 0)) → ∀ k, v.ownBlock = some k → k < w.heap.size := fun v hv k hk => by
  obtain ⟨u, hu, hR⟩ := h.ex
  rw [hv] at hu
  injection hu with hu
  injection hu with hu
  injection hu with hu
  injection hu with _ hu
  injection hu with hu
  subst hu
  exact Kd.R_lt hR k hk
theorem own_keep {w W : World} {base q b : Nat} {xs : List S73} {cs : Array Value} (h : IsQ w base q xs) (ho : OwnQ q w W) (hb : w.heap[b]? = some (.cells cs 73 (0, 0))) (hne : ∀ v : Value, w.heap[q]? = some (.cells #[.bool true, v] 108 (0, 0)) → some b ≠ v.ownBlock) :
    W.heap[b]? = some (.cells cs 73 (0, 0)) ∧ ∀ v : Value, W.heap[q]? = some (.cells #[.bool true, v] 108 (0, 0)) → some b ≠ v.ownBlock := by
  obtain ⟨v0, hv0, _⟩ := h.ex
  obtain ⟨h1, v', hv', o'⟩ := ho v0 hv0
  refine ⟨h1 b cs hb (hne v0 hv0), fun v hv => ?_⟩
  rw [hv] at hv'
  injection hv' with hv'
  injection hv' with hv'
  injection hv' with hv'
  injection hv' with _ hv'
  injection hv' with hv'
  subst hv'
  rcases o' with o' | ⟨b', o', hb'⟩
  · rw [o']; exact hne v0 hv0
  · rw [o']; intro e; injection e with e; have := blk_lt hb; omega
theorem new_ne {w : World} {base q : Nat} {xs : List S73} (h : IsQ w base q xs) (o : Obj) : ∀ v : Value, (w.alloc o).heap[q]? = some (.cells #[.bool true, v] 108 (0, 0)) → some w.heap.size ≠ v.ownBlock := fun v hv e => by
  obtain ⟨u, hu, _⟩ := h.ex
  rw [Below.heap_alloc w o q (blk_lt hu)] at hv
  have := row_lt h v hv _ e.symm
  omega
theorem runI_nil (l : List S60) (f : Nat) (st : List S69 × List S73) (h : st.2 = []) : runI l f st = st := by
  cases f with
  | zero => rfl
  | succ f => unfold runI; rw [h]
theorem runI_cons (l : List S60) (f : Nat) (st : List S69 × List S73) (x : S73) (ys : List S73) (h : 0 < st.2.length) (hp : popI st.2 = (x, ys)) : runI l (f + 1) st = runI l f (settleI l (st.1, ys) x.f2.toNat) := by
  conv => lhs; unfold runI
  split
  · rename_i e; rw [e] at h; exact absurd h (by simp)
  · rw [hp]

section
variable {P : Program} {ops : Array Oper} {rest : List Oper} {o : Oper} {a : Act} {Q : Exit → Act → World → Prop} {α : Type}
/-- out[i] = x', the row's blocks told by ok. -/
theorem put_ok (d : Kd α) {base : Nat} {W : World} (t : TypeId) (p x : Operand) (e : TypeId) {g n cap : Nat} (i : Int) (xs : List α) (x' : α) (u : Value) (ok okp : Nat → Prop) (hN : o.dst = none) (hgd : o.guard = none) (ho : o.op = .store t p x)
    (haddr : a.eval p = .pointer (some ⟨g, i.toNat * d.sz, none⟩)) (hx : a.eval x = u) (ht : (P.info? t).map (·.size) = some d.sz)
    (HO : d.R e W base ok (.slice (some ⟨g, 0, none⟩) n cap) xs) (h0 : 0 ≤ i) (hi : i < n) (hM : d.M W base okp x' u.cells.toList) (hok : ∀ k, okp k → ok k ∧ k ≠ g)
    (h : ∀ w1, d.R e w1 base ok (.slice (some ⟨g, 0, none⟩) n cap) (xs.set i.toNat x') → W.grownBy w1 (some g) → wpList P ops Q rest a w1) : wpList P ops Q (o :: rest) a W := by
  obtain ⟨c, hcl, _, hcc⟩ := Kd.R_get HO x' i h0 hi
  have hlen := d.K_len (d.K_of_M hM)
  refine Kd.R_store d (w0 := W) base hN hgd t p x ho e i 0 xs x' u u.cells.toList c ok okp haddr rfl hx rfl (by rw [hlen]; exact ht) (d.K_one (d.K_of_M hM)) HO h0 hi hcl
    (fun j q hq => by have := hcc j q hq; rw [add_plain] at this; exact this) (by rw [hlen]; omega) ?_ hok (Below.refl _ _) ?_
  · rw [List.take_zero, List.nil_append, Nat.zero_add, hlen, List.drop_of_length_le (by omega), List.append_nil]; exact hM
  · intro w1 hR _ hg
    exact h w1 hR hg
end

/-- The ways that All finds. -/
def allI (l : List S60) (n frm : Nat) : List S69 := (runI l (measI n (offerI (midW n n, []) frm [(frm : Int)] 0)) (offerI (midW n n, []) frm [(frm : Int)] 0)).1

set_option maxHeartbeats 1600000 in
theorem all_good (W : World) (n frm : Nat) (l : List S60) (A : Option Addr) (c : Nat) (hC : k60.C W A l.length l) (hc : l.length ≤ c) (hwf : ∀ x, x ∈ l → wfLink x) (hk : chk n l = 0) (hf : frm < n) :
    Calls Try.prog 12 #[.int .i64 n, .slice A l.length c, .int .i64 frm] W fun e w' => ∃ vr vc, e = .returned (.tuple #[vr, vc, .int .i64 0]) ∧ (Kd.slice 3 (Kd.int .i64)).R 25 w' W.heap.size Any vr ((allI l n frm).map (·.f0)) ∧ (Kd.int .i64).R 3 w' W.heap.size Any vc ((allI l n frm).map (·.f1)) ∧ Below W.heap.size W w' := by
  obtain ⟨_, hn16, _, hOK⟩ := ok_of_chk hk
  have CH := gcheck_c W n l A c hC hc hwf
  rw [hk] at CH
  have CH := Aside0.mk CH
  have HC := Aside0.mk hC
  have OK := Aside0.mk hOK
  clear hC hwf hk hOK
  have t1 : decide ((frm : Int) < 0) = false := by simp
  have t2 : decide ((n : Int) ≤ frm) = false := by simp; omega
  have t3 : decide (n ≤ frm) = false := by simp; omega
  have MK := fun w => mk_run under_sway info_way n (by omega) (by decide) w
  go_enter Try.func12, Try.ntmps12
  go_upto_region 3 with (go_at_call 23; (with_reducible refine CH.out.mono ?_); rintro e w1 ⟨rfl, hb1⟩; have B1 := Aside0.mk hb1; clear hb1)
  go_cut [9] from 31 to 36 (fun v9 wx => ∃ s, v9 = .pointer (some ⟨s, 0, none⟩) ∧ IsS wx W.heap.size s A l.length c (List.replicate n wayZ) [] ∧ Below W.heap.size W wx ∧ W.heap.size ≤ s)
  case first =>
    go_region_with (go_at_call 24; (refine (qnew_c _).mono ?_); rintro e w2 ⟨rfl, hb2, hl2, hq2⟩)
    all_goals go_wp2_with fail
    all_goals go_meet
    · have hle := B1.out.size
      have hQ := hq2 W.heap.size (by simp only [World.size_drew, World.size_alloc]; omega)
      simp only [World.size_drew, World.size_alloc] at hQ hl2
      have hBx := below_drew (below_alloc (Below.refl w1.heap.size w1) (.cells (madeCells #[.slice none 0 0, .int .i64 0, .bool false] (n * 3)) 69))
      have hR := Kd.R_below (Kd.R_drew (mk_R k69 69 (z := .agg #[.slice none 0 0, .int .i64 0, .bool false]) rfl (by decide) wayZ n (by omega) w1 W.heap.size hle (k69_mkM _ _ _ wayZ (Kd.R_nil _ _ _ _ _)) (ok := Any) trivial)) hb2
      have hBw : Below W.heap.size W w2 := B1.out.trans ((hBx.trans (hb2.mono hBx.size)).mono hle)
      exact ⟨_, rfl, ⟨_, _, blk_new _ _, Kd.R_alloc hR _, hQ.below (below_alloc (Below.refl _ _) _)⟩, below_alloc hBw _, hBw.size⟩
    · have hle := B1.out.size
      have hQ := hq2 W.heap.size hle
      have hBw : Below W.heap.size W w2 := B1.out.trans (((below_drew (Below.refl w1.heap.size w1)).trans hb2).mono hle)
      have hR := mk_R k69 69 (z := .agg #[.slice none 0 0, .int .i64 0, .bool false]) rfl (by decide) wayZ n (by omega) w2 W.heap.size hBw.size (k69_mkM _ _ _ wayZ (Kd.R_nil _ _ _ _ _)) (ok := Any) trivial
      exact ⟨_, rfl, ⟨_, _, by first | exact blk_new _ _ | (rw [← World.size_alloc]; exact blk_new _ _), Kd.R_alloc hR _, hQ.below (below_alloc (below_alloc (Below.refl _ _) _) _)⟩, below_alloc (below_alloc hBw _) _, by have := hBw.size; omega⟩
  case rest =>
    obtain ⟨s, rfl, hS, hB, hs⟩ := hcut
    obtain ⟨vw, q, hb, hR, hQ⟩ := hS
    obtain ⟨g, cap, cur, rfl, hg, hh, hcap, hsz⟩ := R_plain hR (by simp; omega)
    rw [List.length_replicate] at hb hR hcap
    have s1 : wc.cell? ⟨s, 1, none⟩ = some (.slice (some ⟨g, 0, none⟩) n cap) := (blk_cell hb 1).trans rfl
    have HB := Aside0.mk hb
    have HH := Aside0.mk hh
    have HQ := Aside0.mk hQ
    have HBW := Aside0.mk hB
    have HR := Aside0.mk hR
    clear hb hR hQ hB hh CH
    go_wp2
    go_loopg [42] n (fun g1 vi wr => ∃ k : Nat, vi = .int .i64 k ∧ k ≤ n ∧ n - k ≤ g1 ∧ k69.R 69 wr W.heap.size Any (.slice (some ⟨g, 0, none⟩) n cap) (midW n k) ∧ Fr W.heap.size [69] wc wr)
    case atStart => exact ⟨0, rfl, by omega, by omega, by simpa [midW] using HR.out, Fr.refl _ _ _⟩
    case round =>
      obtain ⟨k, rfl, hkn, hkg, hRr, hFr⟩ := hrel
      by_cases hk : k = n
      · subst hk
        have t4 : decide (k < k) = false := by simp
        have I0 : IsS (wr.alloc (.cells #[.int .i64 frm] 3)) W.heap.size s A l.length c (midW k k) [] := ⟨_, q, blk_alloc (hFr.blk HB.out (by decide)) _, Kd.R_alloc hRr _, (HQ.out.fr hFr (by decide) (by decide)).below (below_alloc (Below.refl _ _) _)⟩
        have hW : W.heap.size ≤ wr.heap.size := Nat.le_trans HBW.out.size hFr.size
        have RV : (Kd.int .i64).R 3 (wr.alloc (.cells #[.int .i64 frm] 3)) W.heap.size Any (.slice (some ⟨wr.heap.size, 0, none⟩) 1 1) [(frm : Int)] := Kd.R_of_own (h1 := fun _ => rfl) (World.ownsRow_lit (size := 1) wr #[.int .i64 frm] 1 hW (by simp [maxLen]) rfl) (fun _ _ => trivial)
        obtain ⟨st0, hst0⟩ : ∃ st0, offerI (midW k k, []) frm [(frm : Int)] 0 = st0 := ⟨_, rfl⟩
        have OFF := Aside0.mk (offer_c _ W.heap.size s A l.length c (midW k k) [] I0 frm (by rw [midW_len _ _ (Nat.le_refl _)]; omega) (by rw [midW_len _ _ (Nat.le_refl _)]; omega) (by simp) _ [(frm : Int)] RV 0 st0 hst0)
        have FA := Aside0.mk (hFr.alloc (.cells #[.int .i64 frm] 3))
        have HST0 := Aside0.mk hst0
        clear hRr hFr s1 I0 RV hst0
        go_upto_region 11 with (go_at_call 25; go_loud ((with_reducible refine OFF.out.mono ?_); rintro e w4 ⟨rfl, hi4, hf4, ho4⟩; have hF4 := (FA.out.mono (Nat.le_refl _) (T' := [69, 73, 108]) (by simp)).trans hf4; have hb4 := hF4.blk HB.out (by decide); have s2 : w4.cell? ⟨s, 2, none⟩ = some (.pointer (some ⟨q, 0, none⟩)) := (blk_cell hb4 2).trans rfl; have I4 := Aside0.mk hi4; have F4 := Aside0.mk hF4; clear hi4 hf4 ho4 hF4 hb4))
        obtain ⟨x0, e0, ys0, hp0⟩ : ∃ x0 e0 ys0, popE st0.2 = (x0, e0, ys0) := ⟨_, _, _, rfl⟩
        have IQ0 : IsQ w4 W.heap.size q st0.2 := by
          obtain ⟨vw', q', hb', hR', hQ'⟩ := I4.out
          have hb5 := F4.out.blk HB.out (by decide)
          rw [hb'] at hb5
          injection hb5 with hb5
          injection hb5 with hb5
          injection hb5 with hb5
          injection hb5 with _ hb5
          injection hb5 with _ hb5
          injection hb5 with e6 _
          injection e6 with e6
          injection e6 with e6
          injection e6 with e6
          subst e6
          exact hQ'
        have POP0 := Aside0.mk (popE_c w4 W.heap.size q st0.2 IQ0 x0 e0 ys0 hp0)
        clear IQ0
        go_wp2_with (go_at_call 26; go_loud ((with_reducible refine POP0.out.mono ?_); rintro e w5 ⟨rfl, hq5, hf5⟩; have Q5 := Aside0.mk hq5; have F5 := Aside0.mk hf5; clear hq5 hf5))
        have hI0 : Inv k st0 := by rw [← HST0.out]; exact start_inv hf
        obtain ⟨fin, hfin⟩ : ∃ fin, runI l (measI k st0) st0 = fin := ⟨_, rfl⟩
        have R4 : k69.R 69 w4 W.heap.size Any (.slice (some ⟨g, 0, none⟩) k cap) st0.1 := by
          obtain ⟨vw', q', hb', hR', hQ'⟩ := I4.out
          have hb5 := F4.out.blk HB.out (by decide)
          rw [hb'] at hb5
          injection hb5 with hb5
          injection hb5 with hb5
          injection hb5 with hb5
          injection hb5 with _ hb5
          injection hb5 with e5 _
          subst e5
          exact hR'
        have START : ∃ (b : Nat) (st : List S69 × List S73) (x : S73) (er : Int) (ys : List S73) (f : Nat), Value.pointer (some ⟨w5.heap.size, 0, none⟩) = .pointer (some ⟨b, 0, none⟩) ∧ Value.int .i64 e0 = .int .i64 er ∧ popE st.2 = (x, er, ys) ∧
            (w5.alloc (.cells #[.int .i64 x0.f0, .int .i64 x0.f1, .int .i64 x0.f2] 73)).heap[b]? = some (.cells #[.int .i64 x.f0, .int .i64 x.f1, .int .i64 x.f2] 73 (0, 0)) ∧ k69.R 69 (w5.alloc (.cells #[.int .i64 x0.f0, .int .i64 x0.f1, .int .i64 x0.f2] 73)) W.heap.size Any (.slice (some ⟨g, 0, none⟩) k cap) st.1 ∧ IsQ (w5.alloc (.cells #[.int .i64 x0.f0, .int .i64 x0.f1, .int .i64 x0.f2] 73)) W.heap.size q ys ∧
            Fr W.heap.size [69, 73, 108] wc (w5.alloc (.cells #[.int .i64 x0.f0, .int .i64 x0.f1, .int .i64 x0.f2] 73)) ∧ (∀ v : Value, (w5.alloc (.cells #[.int .i64 x0.f0, .int .i64 x0.f1, .int .i64 x0.f2] 73)).heap[q]? = some (.cells #[.bool true, v] 108 (0, 0)) → some b ≠ v.ownBlock) ∧ Inv k st ∧ measI k st ≤ measI k st0 ∧ measI k st ≤ f ∧ Hid (runI l f st = fin) := by
          refine ⟨w5.heap.size, st0, x0, e0, ys0, measI k st0, rfl, rfl, hp0, blk_new _ _, Kd.R_alloc (R_fr R4 F5.out.fr (by decide)) _, Q5.out.below (below_alloc (Below.refl _ _) _), (F4.out.trans (F5.out.fr.mono (Nat.le_refl _) (by simp))).alloc _, fun v hv => ?_, hI0, Nat.le_refl _, Nat.le_refl _, hfin⟩
          obtain ⟨u, hu, hRu⟩ := Q5.out.ex
          have hu' := blk_alloc hu (.cells #[.int .i64 x0.f0, .int .i64 x0.f1, .int .i64 x0.f2] 73)
          rw [hv] at hu'
          injection hu' with hu'
          injection hu' with hu'
          injection hu' with hu'
          injection hu' with _ hu'
          injection hu' with hu'
          subst hu'
          intro e
          have := Kd.R_lt hRu _ e.symm
          omega
        have START := Aside0.mk START
        have HFIN := Aside0.mk hfin
        clear hp0 R4 hI0 hfin
        go_loopg [12, 13] (measI k st0) (fun g1 v12 v13 wr => ∃ (b : Nat) (st : List S69 × List S73) (x : S73) (er : Int) (ys : List S73) (f : Nat), v12 = .pointer (some ⟨b, 0, none⟩) ∧ v13 = .int .i64 er ∧ popE st.2 = (x, er, ys) ∧
          wr.heap[b]? = some (.cells #[.int .i64 x.f0, .int .i64 x.f1, .int .i64 x.f2] 73 (0, 0)) ∧ k69.R 69 wr W.heap.size Any (.slice (some ⟨g, 0, none⟩) k cap) st.1 ∧ IsQ wr W.heap.size q ys ∧
          Fr W.heap.size [69, 73, 108] wc wr ∧ (∀ v : Value, wr.heap[q]? = some (.cells #[.bool true, v] 108 (0, 0)) → some b ≠ v.ownBlock) ∧ Inv k st ∧ measI k st ≤ g1 ∧ measI k st ≤ f ∧ Hid (runI l f st = fin))
        case atStart => exact START.out
        case round =>
          obtain ⟨b, st, x, er, ys, f, rfl, rfl, hp, hb, hRr, hQr, hFr, hnr, hI, hg1, hf1, hE⟩ := hrel
          by_cases hnil : st.2 = []
          · rw [hnil] at hp
            simp only [popE] at hp
            injection hp with h1 h2
            injection h2 with h2 h3
            subst h1 h2 h3
            have hE := hE.out
            rw [runI_nil _ _ _ hnil] at hE
            subst hE
            have RR := Aside0.mk hRr
            have FR := Aside0.mk hFr
            clear hRr hFr hQr hnr hb hg1 hf1
            have MK1 := fun w => mk_run under_ssint info_sint k (by omega) (by decide) w
            have MK2 := fun w => mk_run under_sint info_int k (by omega) (by decide) w
            have hWr : W.heap.size ≤ wr.heap.size := Nat.le_trans HBW.out.size FR.out.size
            go_upto_region 17 with fail
            go_cut [14, 15] from 79 to 82 (fun v14 v15 wx => ∃ g1 g2, v14 = .slice (some ⟨g1, 0, none⟩) k k ∧ v15 = .slice (some ⟨g2, 0, none⟩) k k ∧ wr.heap.size ≤ g1 ∧ wr.heap.size ≤ g2 ∧ (Kd.slice 3 (Kd.int .i64)).R 25 wx W.heap.size (fun j => j ≠ g2) (.slice (some ⟨g1, 0, none⟩) k k) (List.replicate k []) ∧ (Kd.int .i64).R 3 wx W.heap.size Any (.slice (some ⟨g2, 0, none⟩) k k) (List.replicate k 0) ∧ Below wr.heap.size wr wx)
            case first =>
              go_region_with fail
              all_goals go_wp2_with fail
              all_goals go_meet
              · have h1 := mkS k (by omega) wr W.heap.size hWr (ok := fun j => j ≠ wr.heap.size + 1) (by omega)
                have h2 := mkI k (by omega) (wr.alloc (.cells (madeCells #[.slice none 0 0] k) 25)) W.heap.size (by rw [World.size_alloc]; omega)
                rw [World.size_alloc] at h2
                exact ⟨_, _, rfl, rfl, Nat.le_refl _, by omega, Kd.R_drew (Kd.R_alloc h1 _), Kd.R_drew h2, below_drew (below_alloc (below_alloc (Below.refl _ _) _) _)⟩
              · have h1 := mkI k (by omega) wr W.heap.size hWr
                have h2 := mkS k (by omega) (wr.alloc (.cells (madeCells #[.int .i64 0] k) 3)) W.heap.size (by rw [World.size_alloc]; omega) (ok := fun j => j ≠ wr.heap.size) (by rw [World.size_alloc]; omega)
                rw [World.size_alloc] at h2
                exact ⟨_, _, rfl, rfl, by omega, Nat.le_refl _, Kd.R_drew h2, Kd.R_drew (Kd.R_alloc h1 _), below_drew (below_alloc (below_alloc (Below.refl _ _) _) _)⟩
            case rest =>
              obtain ⟨g1, g2, rfl, rfl, hg1', hg2', hA, hB2, hBx⟩ := hcut
              have hsx := blk_below (FR.out.blk HB.out (by decide)) hBx
              have s1x : wc.cell? ⟨s, 1, none⟩ = some (.slice (some ⟨g, 0, none⟩) k cap) := (blk_cell hsx 1).trans rfl
              have hlen : st.1.length = k := hI.len
              have WX : Aside0 (k69.R 69 wc W.heap.size (fun j => j < wr.heap.size) (.slice (some ⟨g, 0, none⟩) k cap) st.1) := ⟨Kd.R_below (Kd.R_mono (Kd.R_bound RR.out) (fun _ h => h.2.2.1)) hBx⟩
              have hBW : Below W.heap.size W wc := (HBW.out.trans (FR.out.below HBW.out.size)).trans (hBx.mono hWr)
              have HBWc := Aside0.mk hBW
              have HA := Aside0.mk hA
              have HB2 := Aside0.mk hB2
              have hsz1 : wr.heap.size ≤ wc.heap.size := hBx.size
              clear hA hB2 hsx hBW
              go_wp2
              go_loopg [88] k (fun g3 vi wy => ∃ i : Nat, vi = .int .i64 i ∧ i ≤ k ∧ k - i ≤ g3 ∧ (Kd.slice 3 (Kd.int .i64)).R 25 wy W.heap.size (fun j => j ≠ g2) (.slice (some ⟨g1, 0, none⟩) k k) ((st.1.map (·.f0)).take i ++ List.replicate (k - i) []) ∧
                (Kd.int .i64).R 3 wy W.heap.size Any (.slice (some ⟨g2, 0, none⟩) k k) ((st.1.map (·.f1)).take i ++ List.replicate (k - i) 0) ∧ k69.R 69 wy W.heap.size (fun j => j < wr.heap.size) (.slice (some ⟨g, 0, none⟩) k cap) st.1 ∧ Below W.heap.size W wy ∧ wr.heap.size ≤ wy.heap.size)
              case atStart => exact ⟨0, rfl, by omega, by omega, by simpa using HA.out, by simpa using HB2.out, WX.out, HBWc.out, hsz1⟩
              case round =>
                obtain ⟨i, rfl, hik, hig, hRr, hRc, hRw, hBy, hsy⟩ := hrel
                by_cases hi : i = k
                · subst hi
                  have t6 : decide (i < i) = false := by simp
                  have l0 : (st.1.map (·.f0)).take i ++ List.replicate (i - i) [] = st.1.map (·.f0) := by rw [List.take_of_length_le (by simp; omega)]; simp
                  have l1 : (st.1.map (·.f1)).take i ++ List.replicate (i - i) 0 = st.1.map (·.f1) := by rw [List.take_of_length_le (by simp; omega)]; simp
                  rw [l0] at hRr
                  rw [l1] at hRc
                  have HRR := Aside0.mk (Kd.R_mono (ok' := Any) hRr (fun _ _ => trivial))
                  have HRC := Aside0.mk hRc
                  have HBY := Aside0.mk hBy
                  have hst : st = runI l (measI i (offerI (midW i i, []) frm [(frm : Int)] 0)) (offerI (midW i i, []) frm [(frm : Int)] 0) := by rw [HST0.out, HFIN.out]
                  have HST := Aside0.mk hst
                  clear hRr hRc hRw hBy l0 l1 hst
                  go_wp2
                  go_ret3
                  have e1 : allI l i frm = st.1 := by unfold allI; rw [← HST.out]
                  rw [e1]
                  exact ⟨_, _, rfl, HRR.out, HRC.out, HBY.out⟩
                · have hik' : i < k := by omega
                  have t6 : decide (i < k) = true := by simpa using hik'
                  have t7 : (i : Int) < k := by omega
                  obtain ⟨cc, hcl, hM, hcc⟩ := Kd.R_get hRw z69 (i : Int) (by omega) (by omega)
                  rw [Int.toNat_natCast] at hM hcc
                  obtain ⟨vw, rfl, hR0⟩ := k69_openM hM
                  have hR0 := Kd.R_mono (ok' := Any) hR0 (fun _ _ => trivial)
                  obtain ⟨A0, c0', rfl, hc0, hC0⟩ := Kd.R_reads hR0
                  have hfl : (st.1.getD i z69).f0.length ≤ 1024 := by
                    have hns := nset_le st.1
                    rcases hI.way i hik' with e | e
                    · rw [e]; simp
                    · omega
                  have y0 := hcc 0 _ rfl
                  have y1 := hcc 1 _ rfl
                  have y2 := hcc 2 _ rfl
                  rw [show k69.sz = 3 from rfl] at y0 y1 y2
                  simp only [add_plain, Nat.zero_add, Nat.add_zero] at y0 y1 y2
                  obtain ⟨w, hw⟩ : ∃ w, st.1.getD i z69 = w := ⟨_, rfl⟩
                  rw [hw] at y0 y1 y2 hR0 hfl hc0
                  obtain ⟨w0, w1, w2⟩ := w
                  simp only at y0 y1 y2 hR0 hfl hc0
                  have HW := Aside0.mk hw
                  have HR0 := Aside0.mk hR0
                  have HRR := Aside0.mk hRr
                  have HRC := Aside0.mk hRc
                  have HRW := Aside0.mk hRw
                  have HBY := Aside0.mk hBy
                  clear hcc hM hRr hRc hRw hBy hR0 hC0 hw hcl
                  go_upto_region 21 with fail
                  obtain ⟨Wl, hWl⟩ : ∃ Wl, wr.alloc (.cells #[.slice A0 w0.length c0', .int .i64 w1, .bool w2] 69) = Wl := ⟨_, rfl⟩
                  rw [hWl]
                  have hBl : Below wr.heap.size wr Wl := by rw [← hWl]; exact below_alloc (Below.refl _ _) _
                  have hXl : Wl.heap[wr.heap.size]? = some (.cells #[.slice A0 w0.length c0', .int .i64 w1, .bool w2] 69 (0, 0)) := by rw [← hWl]; exact blk_new _ _
                  have e0 : Wl.cell? ⟨wr.heap.size, 0, none⟩ = some (.slice A0 w0.length c0') := (blk_cell hXl 0).trans rfl
                  have e1 : Wl.cell? ⟨wr.heap.size, 1, none⟩ = some (.int .i64 w1) := (blk_cell hXl 1).trans rfl
                  have CLN := Aside0.mk (clone_c Wl.drew W.heap.size w0 (.slice A0 w0.length c0') (Kd.R_drew (Kd.R_below HR0.out hBl)) hfl)
                  have BL := Aside0.mk hBl
                  have XL := Aside0.mk hXl
                  clear hBl hXl hWl y0 y1 y2
                  refine Rt.region2 11 [7, 4] [5, 8] (fun w => w.heap[wr.heap.size]? = some (.cells #[.slice A0 w0.length c0', .int .i64 w1, .bool w2] 69 (0, 0))) (by kernel_rfl) (by kernel_rfl) (blk_drew XL.out) (fun w w' h1 h2 => blk_below h1 h2) ?_
                  dsimp only [Rt.wpSeg, List.take]
                  go_wp2_with (go_at_call 28; go_loud ((with_reducible refine CLN.out.mono ?_); rintro e w9 ⟨vn, rfl, hrn, hbn⟩; have RN := Aside0.mk hrn; have BN := Aside0.mk hbn; clear hrn hbn))
                  refine ⟨blk_below (blk_drew XL.out) BN.out, ?_⟩
                  have e1' : w9.cell? ⟨wr.heap.size, 1, none⟩ = some (.int .i64 w1) := (blk_cell (blk_below (blk_drew XL.out) BN.out) 1).trans rfl
                  obtain ⟨An, cn, rfl, hcn, hCn⟩ := Kd.R_reads RN.out
                  have BY9 : Below wr.heap.size wr w9 := (BL.out.trans ((below_drew (Below.refl _ _)).mono BL.out.size)).trans (BN.out.mono BL.out.size)
                  have RR9 := Aside0.mk (Kd.R_below HRR.out BY9)
                  have RC9 := Aside0.mk (Kd.R_below HRC.out BY9)
                  have RW9 := Aside0.mk (Kd.R_below HRW.out BY9)
                  have XL9 := Aside0.mk (blk_below (blk_drew XL.out) BN.out)
                  have BY9 := Aside0.mk BY9
                  clear hCn
                  have HG12 : Aside0 (g1 < wr.heap.size ∧ g2 < wr.heap.size) := ⟨⟨Kd.R_lt HRR.out g1 rfl, Kd.R_lt HRC.out g2 rfl⟩⟩
                  have MV : Aside0 ((Kd.slice 3 (Kd.int .i64)).M w9 W.heap.size (fun j => j ≠ g2 ∧ j ≠ g1) w0 [Value.slice An w0.length cn]) := by
                    refine ⟨⟨_, rfl, Kd.R_lower (Kd.R_mono (Kd.R_bound RN.out) (fun j hj => ?_)) ?_⟩⟩
                    · have hj1 := hj.2.1
                      have hb1 := HG12.out
                      have hw1 := blk_lt XL.out
                      simp only [World.size_drew] at hj1
                      exact ⟨by omega, by omega⟩
                    · have := BL.out.size
                      have := HBY.out.size
                      simp only [World.size_drew]
                      omega
                  go_wp2_with ((with_reducible refine gate_ (.store 25 (.tmp 102) (.tmp 99)) rfl ?_); go_loud (refine put_ok (Kd.slice 3 (Kd.int .i64)) 25 (.tmp 102) (.tmp 99) 25 (i : Int) _ w0 (.slice An w0.length cn) (fun j => j ≠ g2) (fun j => j ≠ g2 ∧ j ≠ g1) rfl rfl rfl (by rw [show ((i : Int).toNat * (Kd.slice 3 (Kd.int .i64)).sz) = i from by rw [Int.toNat_natCast]; exact Nat.mul_one i]; rfl) rfl (by kernel_rfl) RR9.out (by omega) t7 MV.out (fun _ h => h) ?_); intro wa hRa hga; have RA := Aside0.mk hRa; have GA := Aside0.mk hga; clear hRa hga)
                  have XA := Aside0.mk (blk_grown XL9.out GA.out (Kd.R_ne RR9.out XL9.out (by decide)))
                  refine ⟨XA.out, ?_⟩
                  obtain ⟨curg, hbg⟩ : ∃ cur, w9.heap[g1]? = some (.cells cur 25 (0, 0)) := by
                    obtain ⟨g', c', cur', e, _, hb', _⟩ := R_plain RR9.out (by simp; omega)
                    injection e with e
                    injection e with e
                    injection e with e
                    subst e
                    exact ⟨cur', hb'⟩
                  have RCA := Aside0.mk (Kd.R_grown1 RC9.out rfl GA.out (Kd.R_ne RC9.out hbg (by decide)))
                  have RWA := Aside0.mk (Kd.R_grown RW9.out GA.out (fun j hj e => by injection e with e; omega))
                  have ea : wa.cell? ⟨wr.heap.size, 1, none⟩ = some (.int .i64 w1) := (blk_cell XA.out 1).trans rfl
                  clear hbg
                  go_wp2_with ((with_reducible refine gate_ (.store 3 (.tmp 103) (.tmp 101)) rfl ?_); go_loud (refine put_ok (Kd.int .i64) 3 (.tmp 103) (.tmp 101) 3 (i : Int) _ w1 (.int .i64 w1) Any (fun _ => False) rfl rfl rfl (by rw [show ((i : Int).toNat * (Kd.int .i64).sz) = i from by rw [Int.toNat_natCast]; exact Nat.mul_one i]; rfl) rfl (by kernel_rfl) RCA.out (by omega) t7 rfl (fun _ h => h.elim) ?_); intro wb hRb hgb; have RB := Aside0.mk hRb; have GB := Aside0.mk hgb; clear hRb hgb)
                  have L0 : ∀ (α : Type) (ys : List α) (z x : α), ys.length = k → ys[i]? = some x → (ys.take i ++ List.replicate (k - i) z).set (i : Int).toNat x = ys.take (i + 1) ++ List.replicate (k - (i + 1)) z := by
                    intro α ys z x hy hx
                    obtain ⟨hlt, hx⟩ := List.getElem?_eq_some_iff.1 hx
                    rw [Int.toNat_natCast, show k - i = (k - (i + 1)) + 1 by omega, List.replicate_succ, List.set_append_right _ _ (by simp; omega), List.length_take, Nat.min_eq_left (by omega), Nat.sub_self, List.set_cons_zero, List.take_succ_eq_append_getElem hlt, List.append_assoc, ← hx]
                    rfl
                  have hgi : st.1[i]? = some ⟨w0, w1, w2⟩ := by
                    have := HW.out
                    rw [List.getD_eq_getElem?_getD] at this
                    rw [List.getElem?_eq_getElem (by omega)] at this ⊢
                    simpa using this
                  have RA1 : (Kd.slice 3 (Kd.int .i64)).R 25 wb W.heap.size (fun j => j ≠ g2) (.slice (some ⟨g1, 0, none⟩) k k) ((st.1.map (·.f0)).take (i + 1) ++ List.replicate (k - (i + 1)) []) := by
                    have h := Kd.R_grown RA.out GB.out (fun j hj e => by injection e with e; exact hj e)
                    rwa [L0 _ _ _ _ (by simpa using hlen) (by simp [hgi])] at h
                  have RB1 : (Kd.int .i64).R 3 wb W.heap.size Any (.slice (some ⟨g2, 0, none⟩) k k) ((st.1.map (·.f1)).take (i + 1) ++ List.replicate (k - (i + 1)) 0) := by
                    have h := RB.out
                    rwa [L0 _ _ _ _ (by simpa using hlen) (by simp [hgi])] at h
                  have RW1 := Kd.R_grown RWA.out GB.out (fun j hj e => by injection e with e; omega)
                  have BYb : Below W.heap.size W wb := by
                    have h1 := HBY.out.trans (BY9.out.mono HBY.out.size)
                    have F1 := (Fr.of_below h1 W.heap.size [3, 25]).trans (Fr.row (Fr.refl W.heap.size [3, 25] w9) RR9.out GA.out (by simp))
                    exact (F1.trans (Fr.row (Fr.refl W.heap.size [3, 25] wa) RCA.out GB.out (by simp))).below (Nat.le_refl _)
                  have SZb : Aside0 (wr.heap.size ≤ wb.heap.size) := ⟨Nat.le_trans BY9.out.size (Nat.le_trans GA.out.size GB.out.size)⟩
                  have RA1 := Aside0.mk RA1
                  have RB1 := Aside0.mk RB1
                  have RW1 := Aside0.mk RW1
                  have BYb := Aside0.mk BYb
                  clear L0 hgi ea e1' e1 e0
                  refine ⟨rfl, rfl, ⟨fun _ w2' hS => ?_, fun _ w2' hS => ?_, trivial⟩, ?_⟩
                  · have q1 : w2'.cell? ⟨wr.heap.size, 0, none⟩ = some (.slice A0 w0.length c0') := (blk_cell hS 0).trans rfl
                    simp [execOp, go_sem]
                    rw [q1]
                    rfl
                  · have q1 : w2'.cell? ⟨wr.heap.size, 1, none⟩ = some (.int .i64 w1) := (blk_cell hS 1).trans rfl
                    simp [execOp, go_sem]
                    rw [q1]
                    rfl
                  go_wp2
                  go_roundg (k - (i + 1))
                  case measure => omega
                  case rel => exact ⟨i + 1, by go_num, by omega, Nat.le_refl _, RA1.out, RB1.out, RW1.out, BYb.out, by have := SZb.out; omega⟩
          · have hpos : 0 < st.2.length := List.length_pos_iff.2 hnil
            have hpe : popI st.2 = (x, ys) ∧ er = 0 := by
              cases hst : st.2 with
              | nil => exact absurd hst hnil
              | cons y t =>
                rw [hst] at hp
                simp only [popE] at hp
                injection hp with h1 h2
                injection h2 with h2 h3
                exact ⟨by rw [← h1, ← h3], h2.symm⟩
            obtain ⟨hpi, rfl⟩ := hpe
            obtain ⟨hI', hRdy, hx0, hms⟩ := settle_inv OK.out hI x ys hpos hpi
            obtain ⟨st', hst'⟩ : ∃ st', settleI l (st.1, ys) x.f2.toNat = st' := ⟨_, rfl⟩
            rw [hst'] at hI' hms
            obtain ⟨f', rfl⟩ : ∃ f', f = f' + 1 := ⟨f - 1, by unfold measI at hf1; omega⟩
            have hE := hE.out
            rw [runI_cons l f' st x ys hpos hpi, hst'] at hE
            have hsr := hFr.blk HB.out (by decide)
            have hBr : Below W.heap.size W wr := HBW.out.trans (hFr.below HBW.out.size)
            have SET := Aside0.mk (settle_c W wr s A c l st.1 ys hBr HC.out hc ⟨_, q, hsr, hRr, hQr⟩ x x.f2.toNat (by omega) hRdy st' hst')
            obtain ⟨x', er', ys', hp'⟩ : ∃ x' er' ys', popE st'.2 = (x', er', ys') := ⟨_, _, _, rfl⟩
            obtain ⟨v0, hv0, _⟩ := hQr.ex
            have KB : Aside0 (∀ w6, OwnQ q wr w6 → w6.heap[b]? = some (.cells #[.int .i64 x.f0, .int .i64 x.f1, .int .i64 x.f2] 73 (0, 0))) := ⟨fun w6 ho => (ho v0 hv0).1 b _ hb (hnr v0 hv0)⟩
            have y0 : wr.cell? ⟨b, 0, none⟩ = some (.int .i64 x.f0) := (blk_cell hb 0).trans rfl
            have y1 : wr.cell? ⟨b, 1, none⟩ = some (.int .i64 x.f1) := (blk_cell hb 1).trans rfl
            have y2 : wr.cell? ⟨b, 2, none⟩ = some (.int .i64 x.f2) := (blk_cell hb 2).trans rfl
            have HSR := Aside0.mk hsr
            have FR := Aside0.mk hFr
            have HI' := Aside0.mk (And.intro hI' (And.intro hms (And.intro hE hf1)))
            have HP' := Aside0.mk hp'
            clear hRr hFr hQr hnr hb hsr hv0 hI' hms hE hf1 hp' hI hp hpi hRdy hst' hBr
            go_wp2_with (first
              | (go_at_call 27; (with_reducible refine SET.out.mono ?_); rintro e w6 ⟨rfl, hi6, hf6, ho6⟩; have hF6 := FR.out.trans hf6; have hs6 := hF6.blk HB.out (by decide); have hb6 := KB.out w6 (ho6 _ _ q HSR.out); obtain ⟨R6, Q6⟩ := hi6.at hs6; have z0 : w6.cell? ⟨b, 0, none⟩ = some (.int .i64 x.f0) := (blk_cell hb6 0).trans rfl; have z1 : w6.cell? ⟨b, 1, none⟩ = some (.int .i64 x.f1) := (blk_cell hb6 1).trans rfl; have z2 : w6.cell? ⟨b, 2, none⟩ = some (.int .i64 x.f2) := (blk_cell hb6 2).trans rfl; have hblt := blk_lt hb6; have R6 := Aside0.mk R6; have POP6 := Aside0.mk (popE_c (w6.alloc (.cells #[.int .i64 x.f0, .int .i64 x.f1, .int .i64 x.f2] 73)) W.heap.size q st'.2 (Q6.below (below_alloc (Below.refl _ _) _)) x' er' ys' HP'.out); have Q6 := Aside0.mk Q6; have F6 := Aside0.mk hF6; clear hi6 hf6 ho6 hF6 hs6 hb6)
              | (go_at_call 26; go_loud ((with_reducible refine POP6.out.mono ?_); rintro e w7 ⟨rfl, hq7, hf7⟩; obtain ⟨hb7, hn7⟩ := own_keep (Q6.out.below (below_alloc (Below.refl _ _) _)) hf7.own (blk_new w6 _) (new_ne Q6.out _); have a0 : w7.cell? ⟨w6.heap.size, 0, none⟩ = some (.int .i64 x.f0) := (blk_cell hb7 0).trans rfl; have a1 : w7.cell? ⟨w6.heap.size, 1, none⟩ = some (.int .i64 x.f1) := (blk_cell hb7 1).trans rfl; have a2 : w7.cell? ⟨w6.heap.size, 2, none⟩ = some (.int .i64 x.f2) := (blk_cell hb7 2).trans rfl; have f0 := blk_frozen hb7 0; have f1 := blk_frozen hb7 1; have f2 := blk_frozen hb7 2; have HB7 := Aside0.mk hb7; have HN7 := Aside0.mk hn7; have Q7 := Aside0.mk hq7; have F7 := Aside0.mk hf7; clear hq7 hf7 hb7 hn7)))
            obtain ⟨v7, hv7, _⟩ := Q7.out.ex
            have hqb : q ≠ w6.heap.size := blk_ne hv7 HB7.out (by decide)
            have b7a := blk_put HB7.out 0 (.int .i64 x'.f0) rfl
            have b7b := blk_put b7a 1 (.int .i64 x'.f1) rfl
            have q7a := Q7.out.item HB7.out HN7.out 0 (.int .i64 x'.f0)
            have n7a := row_item HB7.out 0 (.int .i64 x'.f0) HN7.out hqb
            have q7b := q7a.item b7a n7a 1 (.int .i64 x'.f1)
            have n7b := row_item b7a 1 (.int .i64 x'.f1) n7a hqb
            have q7c := q7b.item b7b n7b 2 (.int .i64 x'.f2)
            have n7c := row_item b7b 2 (.int .i64 x'.f2) n7b hqb
            have hWs : W.heap.size ≤ w6.heap.size := Nat.le_trans HBW.out.size F6.out.size
            have F8 : Fr W.heap.size [73] w7 (((w7.setCell ⟨w6.heap.size, 0, none⟩ (.int .i64 x'.f0)).setCell ⟨w6.heap.size, 1, none⟩ (.int .i64 x'.f1)).setCell ⟨w6.heap.size, 2, none⟩ (.int .i64 x'.f2)) :=
              (((Fr.refl _ _ _).setCell (p := ⟨w6.heap.size, 0, none⟩) HB7.out (List.mem_singleton.2 rfl) hWs _).setCell (p := ⟨w6.heap.size, 1, none⟩) b7a (List.mem_singleton.2 rfl) hWs _).setCell (p := ⟨w6.heap.size, 2, none⟩) b7b (List.mem_singleton.2 rfl) hWs _
            have F9 := ((F6.out.alloc (.cells #[.int .i64 x.f0, .int .i64 x.f1, .int .i64 x.f2] 73)).trans (F7.out.fr.mono (Nat.le_refl _) (by simp))).trans (F8.mono (Nat.le_refl _) (by simp))
            have R9 := R_fr (R_fr (Kd.R_alloc R6.out (.cells #[.int .i64 x.f0, .int .i64 x.f1, .int .i64 x.f2] 73)) F7.out.fr (by decide)) F8 (by decide)
            have B9 := blk_put b7b 2 (.int .i64 x'.f2) rfl
            have ALL := Aside0.mk (And.intro q7c (And.intro n7c (And.intro F9 (And.intro R9 B9))))
            clear q7a q7b q7c n7a n7b n7c F8 F9 R9 B9 b7a b7b hv7
            go_roundg (measI k st')
            case measure => have := HI'.out.2.1; unfold measI at hg1 ⊢; omega
            case rel => exact ⟨w6.heap.size, st', x', er', ys', f', rfl, rfl, HP'.out, ALL.out.2.2.2.2, ALL.out.2.2.2.1, ALL.out.1, ALL.out.2.2.1, ALL.out.2.1, HI'.out.1, Nat.le_refl _, by have h1 := HI'.out.2.1; have h2 := HI'.out.2.2.2; unfold measI at h2 ⊢; omega, HI'.out.2.2.1⟩
      · have hkn' : k < n := by omega
        have t4 : decide (k < n) = true := by simpa using hkn'
        have t5 : (k : Int) < n := by omega
        have hml := midW_len n k hkn
        obtain ⟨vd, hcd, hrd⟩ := way_cells hRr k (by omega) wayZ (midW_get n k hkn')
        have M1 := Aside0.mk (k69_mkM wr W.heap.size (fun k => k ≠ g) wayU hrd)
        have CD := Aside0.mk hcd
        have hsr := hFr.blk HB.out (by decide)
        have s1' : wr.cell? ⟨s, 1, none⟩ = some (.slice (some ⟨g, 0, none⟩) n cap) := (blk_cell hsr 1).trans rfl
        have RR := Aside0.mk hRr
        have FR := Aside0.mk hFr
        clear hcd hrd hsr hRr hFr s1
        go_wp2_with ((with_reducible refine gate_ (.store 3 (.tmp 51) (.const (.int .i64 (-1)))) rfl ?_); go_loud (refine put_part k69 3 (.tmp 51) (.const (.int .i64 (-1))) 69 (k : Int) 1 (midW n k) wayU (.int .i64 (-1)) [vd, .int .i64 0, .bool false] rfl rfl rfl rfl (by rw [Int.toNat_natCast]; rfl) rfl rfl (by kernel_rfl) RR.out (by omega) t5 rfl CD.out (by decide) M1.out FR.out (List.mem_singleton.2 rfl) ?_); intro w5 hR5 hF5 hg5; rw [Int.toNat_natCast, midW_set n k hkn'] at hR5; have R5 := Aside0.mk hR5; have F5 := Aside0.mk hF5; clear hR5 hF5 hg5)
        go_roundg (n - (k + 1))
        case measure => omega
        case rel => exact ⟨k + 1, by go_num, by omega, Nat.le_refl _, R5.out, F5.out⟩
end Go.Proofs.Ytaeacdnefklakaa.L
