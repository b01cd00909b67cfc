/-
  cmp.Compare; slices.insertionSortCmpFunc, stableCmpFunc, SortStableFunc over a row of ints, not more than 19.
  Conditions: as each contract states them.
-/
import Derived.Test.YtaeacdnefklakaaK
import Derived.Test.YtaeacdnefklakaaRt
import Derived.Test.YtaeacdnefklakaaFr
import Derived.Deep.LoopGhost
namespace Go.Proofs.Ytaeacdnefklakaa.L
open Go.RowKit Go.Proofs.YtaeacdnefklakaaW.PrintWords Go.Proofs.YtaeacdnefklakaaW.PrintLast Go.Proofs.YtaeacdnefklakaaW.PrintMore Go.Fr
set_option linter.unusedVariables false
set_option linter.unusedSimpArgs false
set_option maxRecDepth 100000

def cmpI (x y : Int) : Int := if x < y then -1 else if y < x then 1 else 0

set_option maxHeartbeats 400000 in
theorem isnan_c (x : Int) (w : World) : Calls Try.prog 65 #[.int .i64 x] w fun e w' => e = .returned (.bool false) ∧ w' = w := by
  go_enter Try.func65, Try.ntmps65
  go_wp2
  go_ret
  exact ⟨by simp, rfl⟩

set_option maxHeartbeats 400000 in
theorem cmp_c (x y : Int) (w : World) : Calls Try.prog 55 #[.int .i64 x, .int .i64 y] w fun e w' => e = .returned (.int .i64 (cmpI x y)) ∧ w' = w := by
  obtain ⟨r, hr⟩ : ∃ r, cmpI x y = r := ⟨_, rfl⟩
  rw [hr]
  unfold cmpI at hr
  by_cases h1 : x < y
  · rw [if_pos h1] at hr
    subst hr
    go_enter Try.func55, Try.ntmps55
    go_wp2_with (go_at_call 65; refine (isnan_c _ _).mono ?_; rintro e w' ⟨rfl, rfl⟩)
    go_ret
    exact ⟨rfl, rfl⟩
  · rw [if_neg h1] at hr
    have h1' : decide (x < y) = false := by simpa using h1
    clear h1
    by_cases h2 : y < x
    · rw [if_pos h2] at hr
      subst hr
      go_enter Try.func55, Try.ntmps55
      go_wp2_with (go_at_call 65; refine (isnan_c _ _).mono ?_; rintro e w' ⟨rfl, rfl⟩)
      go_ret
      exact ⟨rfl, rfl⟩
    · rw [if_neg h2] at hr
      have h2' : decide (y < x) = false := by simpa using h2
      clear h2
      subst hr
      go_enter Try.func55, Try.ntmps55
      go_wp2_with (go_at_call 65; refine (isnan_c _ _).mono ?_; rintro e w' ⟨rfl, rfl⟩)
      go_ret
      exact ⟨rfl, rfl⟩

def swpN (xs : List Int) (i j : Nat) : List Int := (xs.set i (xs.getD j 0)).set j (xs.getD i 0)
theorem swpN_length (xs : List Int) (i j : Nat) : (swpN xs i j).length = xs.length := by simp [swpN]
/-- The inner loop, and the outer one. -/
def insI (key : Int → Int) : Nat → List Int → List Int
  | 0, xs => xs
  | j + 1, xs => if key (xs.getD (j + 1) 0) < key (xs.getD j 0) then insI key j (swpN xs (j + 1) j) else xs
def insO (key : Int → Int) (n : Nat) : Nat → Nat → List Int → List Int
  | 0, _, xs => xs
  | f + 1, i, xs => if i < n then insO key n f (i + 1) (insI key i xs) else xs
def sortO (key : Int → Int) (xs : List Int) : List Int := insO key xs.length xs.length 1 xs
theorem insI_length (key : Int → Int) : ∀ (j : Nat) (xs : List Int), (insI key j xs).length = xs.length
  | 0, _ => rfl
  | j + 1, xs => by unfold insI; split; rw [insI_length, swpN_length]; rfl
theorem swpN_mem {xs : List Int} {i j : Nat} (hi : i < xs.length) (hj : j < xs.length) {x : Int} (h : x ∈ swpN xs i j) : x ∈ xs := by
  unfold swpN at h
  rcases List.mem_or_eq_of_mem_set h with h | rfl
  · rcases List.mem_or_eq_of_mem_set h with h | rfl
    · exact h
    · simp [hj]
  · simp [hi]

/-- What stands at a place of a row of ints. -/
theorem int_at {W : World} {base g n cap : Nat} {xs : List Int} (h : (Kd.int .i64).R 3 W base Any (.slice (some ⟨g, 0, none⟩) n cap) xs) (i : Nat) (hi : i < n) : W.cell? ⟨g, i, none⟩ = some (.int .i64 (xs.getD i 0)) ∧ W.frozen? ⟨g, i, none⟩ = false := by
  have := Kd.R_celln (0 : Int) h (i : Int) (by omega) (by omega)
  rwa [Int.toNat_natCast, show rdOf (0 : Int) xs (i : Int) = xs.getD i 0 by simp [rdOf]] at this
theorem int_put {W : World} {base g n cap : Nat} {xs : List Int} (h : (Kd.int .i64).R 3 W base Any (.slice (some ⟨g, 0, none⟩) n cap) xs) (i : Nat) (x : Int) : (Kd.int .i64).R 3 (W.setCell ⟨g, i, none⟩ (.int .i64 x)) base Any (.slice (some ⟨g, 0, none⟩) n cap) (xs.set i x) ∧ W.grownBy (W.setCell ⟨g, i, none⟩ (.int .i64 x)) (some g) :=
  Kd.R_putg h (i : Int) x
/-- The exchange's world. -/
theorem int_swap {W : World} {base g n cap : Nat} {xs : List Int} {T : List Nat} (h : (Kd.int .i64).R 3 W base Any (.slice (some ⟨g, 0, none⟩) n cap) xs) (i j : Nat) (W0 : World) (hF : Fr base [3] W0 W) :
    (Kd.int .i64).R 3 ((W.setCell ⟨g, i, none⟩ (.int .i64 (xs.getD j 0))).setCell ⟨g, j, none⟩ (.int .i64 (xs.getD i 0))) base Any (.slice (some ⟨g, 0, none⟩) n cap) (swpN xs i j) ∧ Fr base [3] W0 ((W.setCell ⟨g, i, none⟩ (.int .i64 (xs.getD j 0))).setCell ⟨g, j, none⟩ (.int .i64 (xs.getD i 0))) := by
  obtain ⟨h1, g1⟩ := int_put h i (xs.getD j 0)
  obtain ⟨h2, g2⟩ := int_put h1 j (xs.getD i 0)
  have F1 := hF.trans (Fr.row (Fr.refl _ _ _) h g1 (List.mem_singleton.2 rfl))
  exact ⟨h2, F1.trans (Fr.row (Fr.refl _ _ _) h1 g2 (List.mem_singleton.2 rfl))⟩

set_option maxHeartbeats 1600000 in
theorem ins_c (W : World) (base : Nat) (key : Int → Int) (V : Int → Prop) (b : Nat) (g cap : Nat) (xs : List Int) (hx : xs.length ≤ 19)
    (hcmp : ∀ w1, Fr base [3] W w1 → ∀ x y, V x → V y → Calls Try.prog 60 #[.int .i64 x, .int .i64 y, .pointer (some ⟨b, 0, none⟩)] w1 fun e w' => e = .returned (.int .i64 (cmpI (key x) (key y))) ∧ Below w1.heap.size w1 w')
    (hR : (Kd.int .i64).R 3 W base Any (.slice (some ⟨g, 0, none⟩) xs.length cap) xs) (hV : ∀ x, x ∈ xs → V x) :
    Calls Try.prog 72 #[.slice (some ⟨g, 0, none⟩) xs.length cap, .int .i64 0, .int .i64 xs.length, .func (.func 60) #[] #[.pointer (some ⟨b, 0, none⟩)]] W fun e w' => e = .returned (.tuple #[]) ∧ (Kd.int .i64).R 3 w' base Any (.slice (some ⟨g, 0, none⟩) xs.length cap) (sortO key xs) ∧ Fr base [3] W w' := by
  obtain ⟨n, hn⟩ : ∃ n, xs.length = n := ⟨_, rfl⟩
  have HV := Aside0.mk hV
  have HC := Aside0.mk hcmp
  have e0 : insO key n n 1 xs = sortO key xs := by unfold sortO; rw [hn]
  have E0 := Aside0.mk e0
  rw [hn] at hR hx ⊢
  have HR := Aside0.mk hR
  have HN := Aside0.mk hn
  clear hR hV hcmp e0 hn
  go_enter Try.func72, Try.ntmps72
  go_wp2
  go_loopg [8] n (fun g1 vi wr => ∃ (i f : Nat) (ys : List Int), vi = .int .i64 i ∧ 1 ≤ i ∧ n - i ≤ g1 ∧ i ≤ n + 1 ∧ n ≤ i + f ∧ ys.length = n ∧ (Kd.int .i64).R 3 wr base Any (.slice (some ⟨g, 0, none⟩) n cap) ys ∧ Hid (∀ x, x ∈ ys → V x) ∧ Fr base [3] W wr ∧ Hid (insO key n f i ys = sortO key xs))
  case atStart => exact ⟨1, n, xs, rfl, Nat.le_refl _, by omega, by omega, by omega, HN.out, HR.out, HV.out, Fr.refl _ _ _, E0.out⟩
  case round =>
    obtain ⟨i, f, ys, rfl, hi1, hg1, hin, hif, hly, hRy, hVy, hFy, hEy⟩ := hrel
    by_cases hlt : i < n
    · obtain ⟨f, rfl⟩ : ∃ f', f = f' + 1 := ⟨f - 1, by omega⟩
      have hltz : (i : Int) < (n : Int) := by omega
      have HRy := Aside0.mk hRy
      have HFy := Aside0.mk hFy
      have HEy : Aside0 (insO key n f (i + 1) (insI key i ys) = sortO key xs) := ⟨by rw [← hEy.out, insO, if_pos hlt]⟩
      have HLy := Aside0.mk hly
      clear hRy hFy hEy hly
      go_wp2
      go_loopg [9] i (fun g2 vj wr2 => ∃ (j : Nat) (zs : List Int), vj = .int .i64 j ∧ j ≤ i ∧ j ≤ g2 ∧ zs.length = n ∧ (Kd.int .i64).R 3 wr2 base Any (.slice (some ⟨g, 0, none⟩) n cap) zs ∧ Hid (∀ x, x ∈ zs → V x) ∧ Fr base [3] W wr2 ∧ Hid (insI key j zs = insI key i ys))
      case atStart => exact ⟨i, ys, rfl, Nat.le_refl _, Nat.le_refl _, HLy.out, HRy.out, hVy, HFy.out, rfl⟩
      case round =>
        obtain ⟨j, zs, rfl, hji, hg2, hlz, hRz, hVz, hFz, hEz⟩ := hrel
        have HRz := Aside0.mk hRz
        have HFz := Aside0.mk hFz
        have HEz := Aside0.mk hEz.out
        have HLz := Aside0.mk hlz
        by_cases hj0 : j = 0
        · subst hj0
          clear hRz hFz hEz hlz
          go_wp2
          refine Rt.region (by kernel_rfl) (by kernel_rfl) ?_
          go_wp2
          refine ⟨rfl, rfl, ?_⟩
          go_wp2
          go_roundg (n - (i + 1))
          case measure => omega
          case rel => exact ⟨i + 1, f, zs, by go_num, by omega, Nat.le_refl _, by omega, by omega, HLz.out, Kd.R_drew HRz.out, hVz, HFz.out.drew, by have := HEz.out; simp only [insI] at this; rw [this]; exact HEy.out⟩
        · obtain ⟨m, rfl⟩ : ∃ m, j = m + 1 := ⟨j - 1, by omega⟩
          obtain ⟨cj, fj⟩ := int_at hRz (m + 1) (by omega)
          obtain ⟨cp, fp⟩ := int_at hRz m (by omega)
          have vj : V (zs.getD (m + 1) 0) := hVz.out _ (by simp [show m + 1 < zs.length by omega])
          have vp : V (zs.getD m 0) := hVz.out _ (by simp [show m < zs.length by omega])
          have SW := Aside0.mk (fun (w1 : World) (hb : Below wr.heap.size wr w1) => int_swap (T := []) (Kd.R_below hRz hb) (m + 1) m W (hFz.then_below hb))
          have AT1 := Aside0.mk (fun (w1 : World) (hb : Below wr.heap.size wr w1) => (⟨(int_at (Kd.R_below hRz hb) (m + 1) (by omega)).1, (int_at (Kd.R_below hRz hb) (m + 1) (by omega)).2, (int_at (Kd.R_below hRz hb) m (by omega)).1, (int_at (Kd.R_below hRz hb) m (by omega)).2⟩ : w1.cell? ⟨g, m + 1, none⟩ = some (.int .i64 (zs.getD (m + 1) 0)) ∧ w1.frozen? ⟨g, m + 1, none⟩ = false ∧ w1.cell? ⟨g, m, none⟩ = some (.int .i64 (zs.getD m 0)) ∧ w1.frozen? ⟨g, m, none⟩ = false))
          have CMP0 := fun (w1 : World) (hb : Below wr.heap.size wr w1) => HC.out w1 (hFz.then_below hb) _ _ vj vp
          obtain ⟨r, hr⟩ : ∃ r, cmpI (key (zs.getD (m + 1) 0)) (key (zs.getD m 0)) = r := ⟨_, rfl⟩
          rw [hr] at CMP0
          have HB := Aside0.mk (below_drew (Below.refl wr.heap.size wr))
          by_cases hk : key (zs.getD (m + 1) 0) < key (zs.getD m 0)
          · have hr0 : r < 0 := by rw [← hr]; unfold cmpI; rw [if_pos hk]; decide
            have HK := Aside0.mk hk
            have HZ := Aside0.mk hVz
            obtain ⟨zj, hzj⟩ : ∃ z, zs.getD (m + 1) 0 = z := ⟨_, rfl⟩
            obtain ⟨zp, hzp⟩ : ∃ z, zs.getD m 0 = z := ⟨_, rfl⟩
            rw [hzj] at cj
            rw [hzp] at cp
            have SW1 : ∀ w1, Below wr.heap.size wr w1 → (Kd.int .i64).R 3 ((w1.setCell ⟨g, m + 1, none⟩ (.int .i64 zp)).setCell ⟨g, m, none⟩ (.int .i64 zj)) base Any (.slice (some ⟨g, 0, none⟩) n cap) (swpN zs (m + 1) m) ∧ Fr base [3] W ((w1.setCell ⟨g, m + 1, none⟩ (.int .i64 zp)).setCell ⟨g, m, none⟩ (.int .i64 zj)) := fun w1 hb => by have := SW.out w1 hb; rw [hzj, hzp] at this; exact this
            have SW1 := Aside0.mk SW1
            have AT2 := AT1.out
            rw [hzj, hzp] at AT2
            have AT1 := Aside0.mk AT2
            clear AT2
            rw [hzj, hzp] at CMP0
            have CMP := Aside0.mk CMP0
            clear hRz hFz hEz hlz vj vp hr hVz hzj hzp SW hk CMP0
            go_wp2
            refine Rt.region (by kernel_rfl) (by kernel_rfl) ?_
            go_wp2_with (go_at_call 60; (refine (CMP.out _ HB.out).mono ?_); rintro e w1 ⟨rfl, hb1⟩; have HB1 := Aside0.mk (HB.out.trans (hb1.mono HB.out.size)); clear hb1)
            obtain ⟨a1, a2, a3, a4⟩ := AT1.out w1 HB1.out
            refine ⟨rfl, rfl, ?_⟩
            clear cj cp fj fp
            go_wp2
            refine Rt.region (by kernel_rfl) (by kernel_rfl) ?_
            go_wp2
            refine ⟨rfl, rfl, ?_⟩
            go_wp2
            obtain ⟨R2, F2⟩ := SW1.out w1.drew (below_drew HB1.out)
            have R2 := Aside0.mk R2
            have F2 := Aside0.mk F2
            go_roundg m
            case measure => omega
            case rel =>
              exact ⟨m, swpN zs (m + 1) m, by go_num, by omega, Nat.le_refl _, by rw [swpN_length]; exact HLz.out, R2.out, (show Hid _ from fun x hx => HZ.out x (swpN_mem (by have := HLz.out; omega) (by have := HLz.out; omega) hx)), F2.out, by
                show _ = _
                rw [← HEz.out, insI.eq_2, if_pos HK.out]⟩
          · have hr0 : decide (r < 0) = false := by
              rw [← hr]; unfold cmpI; rw [if_neg hk]; split <;> decide
            have HK := Aside0.mk hk
            have HZ := Aside0.mk hVz
            obtain ⟨zj, hzj⟩ : ∃ z, zs.getD (m + 1) 0 = z := ⟨_, rfl⟩
            obtain ⟨zp, hzp⟩ : ∃ z, zs.getD m 0 = z := ⟨_, rfl⟩
            rw [hzj] at cj
            rw [hzp] at cp
            rw [hzj, hzp] at CMP0
            have CMP := Aside0.mk CMP0
            clear hRz hFz hEz hlz vj vp hr hVz hzj hzp SW hk CMP0
            go_wp2
            refine Rt.region (by kernel_rfl) (by kernel_rfl) ?_
            go_wp2_with (go_at_call 60; (refine (CMP.out _ HB.out).mono ?_); rintro e w1 ⟨rfl, hb1⟩; have HB1 := Aside0.mk (HB.out.trans (hb1.mono HB.out.size)); clear hb1)
            refine ⟨rfl, rfl, ?_⟩
            clear cj cp fj fp
            go_wp2
            go_roundg (n - (i + 1))
            case measure => omega
            case rel => exact ⟨i + 1, f, zs, by go_num, by omega, Nat.le_refl _, by omega, by omega, HLz.out, Kd.R_below HRz.out HB1.out, HZ.out, HFz.out.then_below HB1.out, by
                have := HEz.out
                rw [insI.eq_2, if_neg (Int.not_lt.2 HK.out)] at this
                rw [this]
                exact HEy.out⟩
    · have hltz : decide ((i : Int) < (n : Int)) = false := by simp; omega
      have HRy := Aside0.mk hRy
      have HFy := Aside0.mk hFy
      have HEy := Aside0.mk hEy.out
      clear hRy hFy hEy
      go_wp2
      go_end0
      have e : insO key n f i ys = ys := by cases f <;> simp [insO, hlt]
      have E := HEy.out
      rw [e] at E
      subst E
      exact ⟨rfl, HRy.out, HFy.out⟩
end Go.Proofs.Ytaeacdnefklakaa.L
