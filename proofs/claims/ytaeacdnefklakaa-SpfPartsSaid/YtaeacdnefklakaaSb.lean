/-
  slices.stableCmpFunc, SortStableFunc over a row of at most 19 ints; graph.Outs and its closure.
  Conditions: as each contract states them.
-/
import Derived.Test.YtaeacdnefklakaaSa
import Derived.Handy
namespace Go.Proofs.Ytaeacdnefklakaa.L
open Go.RowKit Go.Proofs.YtaeacdnefklakaaW.PrintWords Go.Proofs.YtaeacdnefklakaaW.PrintLast Go.Proofs.YtaeacdnefklakaaW.PrintMore Go.Fr
set_option linter.unusedVariables false
set_option linter.unusedSimpArgs false
set_option maxRecDepth 100000

set_option maxHeartbeats 400000 in
theorem outs1_c (w : World) (b : Nat) (l : List S60) (A : Option Addr) (c : Nat) (hb : w.cell? ⟨b, 0, none⟩ = some (.slice A l.length c)) (hC : k60.C w A l.length l) (x y : Int) (hx : 0 ≤ x ∧ x < l.length) (hy : 0 ≤ y ∧ y < l.length) :
    Calls Try.prog 60 #[.int .i64 x, .int .i64 y, .pointer (some ⟨b, 0, none⟩)] w fun e w' => e = .returned (.int .i64 (cmpI (rd_T60 l x).f1 (rd_T60 l y).f1)) ∧ Below w.heap.size w w' := by
  obtain ⟨x, rfl⟩ := Int.eq_ofNat_of_zero_le hx.1
  obtain ⟨y, rfl⟩ := Int.eq_ofNat_of_zero_le hy.1
  have hx2 := hx.2
  have hy2 := hy.2
  obtain ⟨ad, rfl, a0, a1, a2, a3, a4⟩ := at_T60 hC x hx.1 hx.2
  obtain ⟨ad', e, b0, b1, b2, b3, b4⟩ := at_T60 hC y hy.1 hy.2
  injection e with e
  subst e
  simp only [Int.toNat_natCast] at a1 b1
  generalize (rd_T60 l (x : Int)).f1 = kx at *
  generalize (rd_T60 l (y : Int)).f1 = ky at *
  have hlm := Kd.C_max hC
  clear a0 a2 a3 a4 b0 b2 b3 b4 hC hx hy
  go_enter Try.func60, Try.ntmps60
  go_wp2
  refine Rt.region (by kernel_rfl) (by kernel_rfl) ?_
  go_wp2_with (go_at_call 55; refine (cmp_c _ _ _).mono ?_; rintro e w' ⟨rfl, rfl⟩)
  refine ⟨rfl, rfl, ?_⟩
  go_wp2
  go_ret
  exact ⟨rfl, below_drew (Below.refl _ _)⟩

set_option maxHeartbeats 800000 in
theorem stable_c (W : World) (base : Nat) (key : Int → Int) (V : Int → Prop) (b : Nat) (g cap : Nat) (xs : List Int) (hx : xs.length ≤ 19)
    (hcmp : ∀ w1, Fr base [3] W w1 → ∀ x y, V x → V y → Calls Try.prog 60 #[.int .i64 x, .int .i64 y, .pointer (some ⟨b, 0, none⟩)] w1 fun e w' => e = .returned (.int .i64 (cmpI (key x) (key y))) ∧ Below w1.heap.size w1 w')
    (hR : (Kd.int .i64).R 3 W base Any (.slice (some ⟨g, 0, none⟩) xs.length cap) xs) (hV : ∀ x, x ∈ xs → V x) :
    Calls Try.prog 67 #[.slice (some ⟨g, 0, none⟩) xs.length cap, .int .i64 xs.length, .func (.func 60) #[] #[.pointer (some ⟨b, 0, none⟩)]] W fun e w' => e = .returned (.tuple #[]) ∧ (Kd.int .i64).R 3 w' base Any (.slice (some ⟨g, 0, none⟩) xs.length cap) (sortO key xs) ∧ Fr base [3] W w' := by
  have H := Aside0.mk (ins_c W base key V b g cap xs hx hcmp hR hV)
  have h20 : decide ((20 : Int) ≤ xs.length) = false := by simp; omega
  have h20' : decide ((20 : Int) < xs.length) = false := by simp; omega
  clear hcmp hR hV
  go_enter Try.func67, Try.ntmps67
  go_wp2
  refine wp_loop_rounds 1 ?_
  rw [rounds_succ]
  go_wp2_with (go_at_call 72; refine H.out.mono ?_; rintro e w' ⟨rfl, h1, h2⟩; have H1 := Aside0.mk h1; have H2 := Aside0.mk h2; clear h1 h2)
  refine wp_loop_rounds 1 ?_
  rw [rounds_succ]
  go_wp2
  go_end0
  exact ⟨rfl, H1.out, H2.out⟩

set_option maxHeartbeats 800000 in
theorem sortst_c (W : World) (base : Nat) (key : Int → Int) (V : Int → Prop) (b : Nat) (g cap : Nat) (xs : List Int) (hx : xs.length ≤ 19)
    (hcmp : ∀ w1, Fr base [3] W w1 → ∀ x y, V x → V y → Calls Try.prog 60 #[.int .i64 x, .int .i64 y, .pointer (some ⟨b, 0, none⟩)] w1 fun e w' => e = .returned (.int .i64 (cmpI (key x) (key y))) ∧ Below w1.heap.size w1 w')
    (hR : (Kd.int .i64).R 3 W base Any (.slice (some ⟨g, 0, none⟩) xs.length cap) xs) (hV : ∀ x, x ∈ xs → V x) :
    Calls Try.prog 59 #[.slice (some ⟨g, 0, none⟩) xs.length cap, .func (.func 60) #[] #[.pointer (some ⟨b, 0, none⟩)]] W fun e w' => e = .returned (.tuple #[]) ∧ (Kd.int .i64).R 3 w' base Any (.slice (some ⟨g, 0, none⟩) xs.length cap) (sortO key xs) ∧ Fr base [3] W w' := by
  have H := Aside0.mk (stable_c W base key V b g cap xs hx hcmp hR hV)
  clear hcmp hR hV
  go_enter Try.func59, Try.ntmps59
  go_wp2_with (go_at_call 67; refine H.out.mono ?_; rintro e w' ⟨rfl, h1, h2⟩; have H1 := Aside0.mk h1; have H2 := Aside0.mk h2; clear h1 h2)
  go_end0
  exact ⟨rfl, H1.out, H2.out⟩

set_option maxHeartbeats 800000 in
theorem sortst_nil (W : World) (b : Nat) : Calls Try.prog 59 #[.slice none 0 0, .func (.func 60) #[] #[.pointer (some ⟨b, 0, none⟩)]] W fun e w' => e = .returned (.tuple #[]) ∧ w' = W := by
  have I : Calls Try.prog 72 #[.slice none 0 0, .int .i64 0, .int .i64 0, .func (.func 60) #[] #[.pointer (some ⟨b, 0, none⟩)]] W fun e w' => e = .returned (.tuple #[]) ∧ w' = W := by
    go_enter Try.func72, Try.ntmps72
    go_wp2
    refine wp_loop_rounds 1 ?_
    rw [rounds_succ]
    go_wp2
    go_end0
    exact ⟨rfl, rfl⟩
  have I := Aside0.mk I
  have S : Calls Try.prog 67 #[.slice none 0 0, .int .i64 0, .func (.func 60) #[] #[.pointer (some ⟨b, 0, none⟩)]] W fun e w' => e = .returned (.tuple #[]) ∧ w' = W := by
    go_enter Try.func67, Try.ntmps67
    go_wp2
    refine wp_loop_rounds 1 ?_
    rw [rounds_succ]
    go_wp2_with (go_at_call 72; refine I.out.mono ?_; rintro e w' ⟨rfl, rfl⟩)
    refine wp_loop_rounds 1 ?_
    rw [rounds_succ]
    go_wp2
    go_end0
    exact ⟨rfl, rfl⟩
  have S := Aside0.mk S
  go_enter Try.func59, Try.ntmps59
  go_wp2_with (go_at_call 67; refine S.out.mono ?_; rintro e w' ⟨rfl, rfl⟩)
  go_end0
  exact ⟨rfl, rfl⟩
end Go.Proofs.Ytaeacdnefklakaa.L
