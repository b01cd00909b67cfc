/-
  slices.Compare over ints, spf.Better, slices.Clone over ints.
  Conditions: as each contract states them.
-/
import Derived.Test.YtaeacdnefklakaaSa
import Derived.Handy
namespace Go.Proofs.Ytaeacdnefklakaa.L
open Go.RowKit Go.Proofs.YtaeacdnefklakaaW.PrintWords Go.Proofs.YtaeacdnefklakaaW.PrintLast Go.Proofs.YtaeacdnefklakaaW.PrintMore Go.Fr
set_option linter.unusedVariables false
set_option linter.unusedSimpArgs false
set_option maxRecDepth 100000

def cmpL : List Int → List Int → Int
  | [], [] => 0
  | [], _ :: _ => -1
  | _ :: _, [] => 1
  | x :: s, y :: t => if cmpI x y = 0 then cmpL s t else cmpI x y

theorem at_nat {w : World} {A : Option Addr} {n : Nat} {xs : List Int} (h : (Kd.int .i64).C w A n xs) (i : Nat) (h1 : i < n) : ∃ ad, A = some ad ∧ w.cell? (ad.add i) = some (.int .i64 (xs.getD i 0)) := by
  obtain ⟨ad, e, h⟩ := Kd.at_int h (i : Int) (by omega) (by omega)
  exact ⟨ad, e, by simpa [rd] using h⟩

set_option maxHeartbeats 1600000 in
theorem compare_c (W : World) (xs ys : List Int) (A1 A2 : Option Addr) (c1 c2 : Nat) (h1 : (Kd.int .i64).C W A1 xs.length xs) (h2 : (Kd.int .i64).C W A2 ys.length ys) (hc1 : xs.length ≤ c1) (hc2 : ys.length ≤ c2) :
    Calls Try.prog 39 #[.slice A1 xs.length c1, .slice A2 ys.length c2] W fun e w' => e = .returned (.int .i64 (cmpL xs ys)) ∧ w' = W := by
  obtain ⟨r, hr⟩ : ∃ r, cmpL xs ys = r := ⟨_, rfl⟩
  rw [hr]
  have HR := Aside0.mk hr
  have H1 := Aside0.mk h1
  have H2 := Aside0.mk h2
  have hm1 := Kd.C_max h1
  have hm2 := Kd.C_max h2
  clear hr h1 h2
  go_enter Try.func39, Try.ntmps39
  go_wp2
  go_loopg [11] xs.length (fun g vi wr => ∃ (k : Nat), vi = .int .i64 k ∧ k ≤ xs.length ∧ k ≤ ys.length ∧ xs.length - k ≤ g ∧ wr = W ∧ Hid (cmpL (xs.drop k) (ys.drop k) = r))
  case atStart => exact ⟨0, rfl, by omega, by omega, by omega, rfl, HR.out⟩
  case round =>
    obtain ⟨k, rfl, hk1, hk2, hg, rfl, hE⟩ := hrel
    have hE := hE.out
    by_cases e1 : k = xs.length
    · have t1 : decide (k < xs.length) = false := by simp; omega
      rw [List.drop_of_length_le (by omega : xs.length ≤ k)] at hE
      by_cases e2 : k = ys.length
      · have t2 : decide (xs.length < ys.length) = false := by simp; omega
        rw [List.drop_of_length_le (by omega : ys.length ≤ k)] at hE
        simp only [cmpL] at hE
        subst hE
        clear e1 e2
        go_wp2
        go_ret
        exact ⟨rfl, rfl⟩
      · have t2 : (xs.length : Int) < ys.length := by omega
        rw [List.drop_eq_getElem_cons (by omega : k < ys.length)] at hE
        simp only [cmpL] at hE
        subst hE
        clear e1 e2
        go_wp2
        go_ret
        exact ⟨rfl, rfl⟩
    · have t1 : (k : Int) < xs.length := by omega
      have hk1' : k < xs.length := by omega
      obtain ⟨ad, rfl, cx⟩ := at_nat H1.out k hk1'
      rw [List.drop_eq_getElem_cons hk1'] at hE
      have ex : xs.getD k 0 = xs[k] := by simp [hk1']
      rw [← ex] at hE
      obtain ⟨x, hx⟩ : ∃ x, xs.getD k 0 = x := ⟨_, rfl⟩
      rw [hx] at hE cx
      by_cases e2 : k = ys.length
      · have t2 : (ys.length : Int) ≤ k := by omega
        rw [List.drop_of_length_le (by omega : ys.length ≤ k)] at hE
        simp only [cmpL] at hE
        subst hE
        clear e1 e2 ex hx
        go_wp2
        go_ret
        exact ⟨rfl, rfl⟩
      · have t2 : decide ((ys.length : Int) ≤ k) = false := by simp; omega
        have t3 : (k : Int) < ys.length := by omega
        have hk2' : k < ys.length := by omega
        obtain ⟨ad', rfl, cy⟩ := at_nat H2.out k hk2'
        rw [List.drop_eq_getElem_cons hk2'] at hE
        have ey : ys.getD k 0 = ys[k] := by simp [hk2']
        rw [← ey] at hE
        obtain ⟨y, hy⟩ : ∃ y, ys.getD k 0 = y := ⟨_, rfl⟩
        rw [hy] at hE cy
        obtain ⟨q, hq⟩ : ∃ q, cmpI x y = q := ⟨_, rfl⟩
        have CM : ∀ w, Calls Try.prog 55 #[.int .i64 x, .int .i64 y] w fun e w' => e = .returned (.int .i64 q) ∧ w' = w := fun w => by have := cmp_c x y w; rwa [hq] at this
        have CM := Aside0.mk CM
        simp only [cmpL] at hE
        rw [hq] at hE
        by_cases hq0 : q = 0
        · rw [if_pos hq0] at hE
          subst hq0
          have HE := Aside0.mk hE
          clear hE hq hx hy ex ey e1 e2
          go_wp2_with (go_at_call 55; refine (CM.out _).mono ?_; rintro e w' ⟨rfl, rfl⟩)
          go_roundg (xs.length - (k + 1))
          case measure => omega
          case rel => exact ⟨k + 1, by go_num, by omega, by omega, Nat.le_refl _, rfl, HE.out⟩
        · rw [if_neg hq0] at hE
          have hq1 : (q != 0) = true := by simpa using hq0
          subst hE
          clear hq0 hq hx hy ex ey e1 e2
          go_wp2_with (go_at_call 55; refine (CM.out _).mono ?_; rintro e w' ⟨rfl, rfl⟩)
          go_ret
          exact ⟨rfl, rfl⟩

/-- spf.Better. -/
def betterI (cost : Int) (a : List Int) (other : Int) (b : List Int) : Bool :=
  if cost = other then (if a.length = b.length then decide (cmpL a b < 0) else decide (a.length < b.length)) else decide (cost < other)

set_option maxHeartbeats 800000 in
theorem better_c (W : World) (cost other : Int) (xs ys : List Int) (A1 A2 : Option Addr) (c1 c2 : Nat) (h1 : (Kd.int .i64).C W A1 xs.length xs) (h2 : (Kd.int .i64).C W A2 ys.length ys) (hc1 : xs.length ≤ c1) (hc2 : ys.length ≤ c2) :
    Calls Try.prog 22 #[.int .i64 cost, .slice A1 xs.length c1, .int .i64 other, .slice A2 ys.length c2] W fun e w' => e = .returned (.bool (betterI cost xs other ys)) ∧ w' = W := by
  obtain ⟨r, hr⟩ : ∃ r, betterI cost xs other ys = r := ⟨_, rfl⟩
  rw [hr]
  unfold betterI at hr
  have C := Aside0.mk (compare_c W xs ys A1 A2 c1 c2 h1 h2 hc1 hc2)
  have hm1 := Kd.C_max h1
  have hm2 := Kd.C_max h2
  clear h1 h2
  by_cases e : cost = other
  · have e' : (cost != other) = false := by simpa using e
    rw [if_pos e] at hr
    clear e
    by_cases e2 : xs.length = ys.length
    · have e2' : ((xs.length : Int) != (ys.length : Int)) = false := by simp; omega
      rw [if_pos e2] at hr
      subst hr
      clear e2
      go_enter Try.func22, Try.ntmps22
      go_wp2_with (go_at_call 39; (with_reducible refine C.out.mono ?_); rintro e w' ⟨rfl, rfl⟩)
      go_ret
      exact ⟨rfl, rfl⟩
    · have e2' : ((xs.length : Int) != (ys.length : Int)) = true := by simp; omega
      rw [if_neg e2] at hr
      subst hr
      clear e2
      go_enter Try.func22, Try.ntmps22
      go_wp2
      go_ret
      exact ⟨rfl, rfl⟩
  · have e' : (cost != other) = true := by simpa using e
    rw [if_neg e] at hr
    subst hr
    clear e
    go_enter Try.func22, Try.ntmps22
    go_wp2
    go_ret
    exact ⟨rfl, rfl⟩
end Go.Proofs.Ytaeacdnefklakaa.L
