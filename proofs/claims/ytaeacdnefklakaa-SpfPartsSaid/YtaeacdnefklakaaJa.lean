/-
  spf.All: its beginning.
  Conditions: as the contract states them.
-/
import Derived.Test.YtaeacdnefklakaaIc
import Derived.Test.YtaeacdnefklakaaQf
import Derived.Test.YtaeacdnefklakaaBb
import Derived.Deep.CutRange
namespace Go.Proofs.Ytaeacdnefklakaa.L
open Go.RowKit Go.Proofs.YtaeacdnefklakaaW.PrintWords Go.Proofs.YtaeacdnefklakaaW.PrintLast Go.Proofs.YtaeacdnefklakaaW.PrintMore Go.Fr
set_option linter.unusedVariables false
set_option linter.unusedSimpArgs false
set_option maxRecDepth 100000

set_option maxHeartbeats 1600000 in
theorem all_bad (W : World) (n frm : Int) (l : List S60) (A : Option Addr) (c : Nat) (hC : k60.C W A l.length l) (hc : l.length ≤ c) (hwf : ∀ x, x ∈ l → wfLink x) (hb : chk n l ≠ 0 ∨ frm < 0 ∨ n ≤ frm) :
    Calls Try.prog 12 #[.int .i64 n, .slice A l.length c, .int .i64 frm] W fun e w' => e = .returned (.tuple #[.slice none 0 0, .slice none 0 0, .int .i64 2]) ∧ Below W.heap.size W w' := by
  have CH := gcheck_c W n l A c hC hc hwf
  obtain ⟨r, hr⟩ : ∃ r, chk n l = r := ⟨_, rfl⟩
  rw [hr] at CH hb
  have CH := Aside0.mk CH
  clear hC hwf hr
  by_cases h1 : r = 0
  · subst h1
    by_cases h2 : frm < 0
    · have h2' : decide (frm < 0) = true := by simpa using h2
      clear hb
      go_enter Try.func12, Try.ntmps12
      go_wp2_with (go_at_call 23; (with_reducible refine CH.out.mono ?_); rintro e w1 ⟨rfl, hb1⟩; have B1 := Aside0.mk hb1; clear hb1)
      go_ret3
      exact ⟨rfl, B1.out⟩
    · have h2' : decide (frm < 0) = false := by simpa using h2
      have h3 : decide (n ≤ frm) = true := by simp; rcases hb with h | h | h <;> first | exact absurd rfl h | omega
      clear hb h2
      go_enter Try.func12, Try.ntmps12
      go_wp2_with (go_at_call 23; (with_reducible refine CH.out.mono ?_); rintro e w1 ⟨rfl, hb1⟩; have B1 := Aside0.mk hb1; clear hb1)
      go_ret3
      exact ⟨rfl, B1.out⟩
  · have h1' : (r != 0) = true := by simpa using h1
    clear hb h1
    go_enter Try.func12, Try.ntmps12
    go_wp2_with (go_at_call 23; (with_reducible refine CH.out.mono ?_); rintro e w1 ⟨rfl, hb1⟩; have B1 := Aside0.mk hb1; clear hb1)
    go_ret3
    exact ⟨rfl, B1.out⟩
end Go.Proofs.Ytaeacdnefklakaa.L
