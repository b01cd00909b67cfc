-- What can be read as data of a flat type is an element of its kind (printed by table.py of this session).
import Derived.Test.YtaeacdnefklakaaEo
import Derived.Test.YtaeacdnefklakaaT
namespace Go.Proofs.Ytaeacdnefklakaa.M
open Go.Se Go.RowKit
set_option linter.unusedVariables false
set_option linter.unusedSimpArgs false
set_option maxRecDepth 100000
instance : FlatT Try.prog 3 (yi .i64) (fun n => -9223372036854775808 ≤ n ∧ n ≤ 9223372036854775807) := ⟨fun {H enc w base spare held fuel cs r} h => by
  obtain ⟨n, rfl, w0⟩ := trod_int Try.underlying3 h
  exact ⟨n, rfl, wf_i64 w0⟩⟩
def wf59 (x : T59) : Prop := (-9223372036854775808 ≤ x.f0 ∧ x.f0 ≤ 9223372036854775807) ∧ (-9223372036854775808 ≤ x.f1 ∧ x.f1 ≤ 9223372036854775807) ∧ (0 ≤ x.f2 ∧ x.f2 ≤ 18446744073709551615) ∧ (-9223372036854775808 ≤ x.f3 ∧ x.f3 ≤ 9223372036854775807) ∧ (0 ≤ x.f4 ∧ x.f4 ≤ 4294967295)
instance : FlatT Try.prog 60 y59 wf59 := ⟨fun {H enc w base spare held fuel cs r} h => by
  obtain ⟨hl, hf⟩ := trod_struct Try.underlying60 h
  rw [show Try.prog.cellsOf 60 = 5 from by kernel_rfl] at hl
  match cs, hl with
  | [c0, c1, c2, c3, c4], _ =>
  have k3 : Try.prog.cellsOf 3 = 1 := by kernel_rfl
  have k40 : Try.prog.cellsOf 40 = 1 := by kernel_rfl
  have k41 : Try.prog.cellsOf 41 = 1 := by kernel_rfl
  obtain ⟨f0, r0, h0⟩ := hf _ (.head _)
  simp only [k3, List.drop_zero, List.drop_succ_cons, List.take_succ_cons, List.take_zero] at h0
  obtain ⟨n0, e0, w0⟩ := trod_int Try.underlying3 h0
  injection e0 with e0 _
  subst e0
  obtain ⟨f1, r1, h1⟩ := hf _ (.tail _ (.head _))
  simp only [k3, List.drop_zero, List.drop_succ_cons, List.take_succ_cons, List.take_zero] at h1
  obtain ⟨n1, e1, w1⟩ := trod_int Try.underlying3 h1
  injection e1 with e1 _
  subst e1
  obtain ⟨f2, r2, h2⟩ := hf _ (.tail _ (.tail _ (.head _)))
  simp only [k40, List.drop_zero, List.drop_succ_cons, List.take_succ_cons, List.take_zero] at h2
  obtain ⟨n2, e2, w2⟩ := trod_int Try.underlying40 h2
  injection e2 with e2 _
  subst e2
  obtain ⟨f3, r3, h3⟩ := hf _ (.tail _ (.tail _ (.tail _ (.head _))))
  simp only [k3, List.drop_zero, List.drop_succ_cons, List.take_succ_cons, List.take_zero] at h3
  obtain ⟨n3, e3, w3⟩ := trod_int Try.underlying3 h3
  injection e3 with e3 _
  subst e3
  obtain ⟨f4, r4, h4⟩ := hf _ (.tail _ (.tail _ (.tail _ (.tail _ (.head _)))))
  simp only [k41, List.drop_zero, List.drop_succ_cons, List.take_succ_cons, List.take_zero] at h4
  obtain ⟨n4, e4, w4⟩ := trod_int Try.underlying41 h4
  injection e4 with e4 _
  subst e4
  exact ⟨⟨n0, n1, n2, n3, n4⟩, rfl, ⟨wf_i64 w0, wf_i64 w1, wf_u64 w2, wf_i64 w3, wf_u32 w4⟩⟩⟩
def wf23 (x : T23) : Prop := (-9223372036854775808 ≤ x.f0 ∧ x.f0 ≤ 9223372036854775807) ∧ (-9223372036854775808 ≤ x.f1 ∧ x.f1 ≤ 9223372036854775807)
instance : FlatT Try.prog 23 y23 wf23 := ⟨fun {H enc w base spare held fuel cs r} h => by
  obtain ⟨hl, hf⟩ := trod_array Try.underlying23 h
  rw [show Try.prog.cellsOf 23 = 2 from by kernel_rfl] at hl
  match cs, hl with
  | [c0, c1], _ =>
  have k3 : Try.prog.cellsOf 3 = 1 := by kernel_rfl
  obtain ⟨f0, r0, h0⟩ := hf 0 (by decide)
  rw [show 0 * Try.prog.cellsOf 3 = 0 from by rw [k3]] at h0
  simp only [k3, List.drop_zero, List.drop_succ_cons, List.take_succ_cons, List.take_zero] at h0
  obtain ⟨n0, e0, w0⟩ := trod_int Try.underlying3 h0
  injection e0 with e0 _
  subst e0
  obtain ⟨f1, r1, h1⟩ := hf 1 (by decide)
  rw [show 1 * Try.prog.cellsOf 3 = 1 from by rw [k3]] at h1
  simp only [k3, List.drop_zero, List.drop_succ_cons, List.take_succ_cons, List.take_zero] at h1
  obtain ⟨n1, e1, w1⟩ := trod_int Try.underlying3 h1
  injection e1 with e1 _
  subst e1
  exact ⟨⟨n0, n1⟩, rfl, ⟨wf_i64 w0, wf_i64 w1⟩⟩⟩
end Go.Proofs.Ytaeacdnefklakaa.M
