/-
  graph.Check: its closure, its map of ends.
  Conditions: as each contract states them.
-/
import Derived.Test.YtaeacdnefklakaaK
import Derived.Test.YtaeacdnefklakaaRt
import Derived.Test.YtaeacdnefklakaaFr
import Derived.Deep.LoopGhost
import Derived.Maps.OwnSet
import Derived.DeepKeys4
namespace Go.Proofs.Ytaeacdnefklakaa.L
open Go.RowKit Go.Proofs.YtaeacdnefklakaaW.PrintWords Go.Proofs.YtaeacdnefklakaaW.PrintLast Go.Proofs.YtaeacdnefklakaaW.PrintMore Go.Fr Go.Maps
set_option linter.unusedVariables false
set_option linter.unusedSimpArgs false
set_option maxRecDepth 100000

/-! ### the map's keys -/
theorem u_ends : Try.prog.underlying 102 = some (.struct #[⟨"from", 3, 0, false, "", "viaduct/graph", 0⟩, ⟨"to", 3, 1, false, "", "viaduct/graph", 8⟩]) := by kernel_rfl
theorem u_hmap : Try.prog.underlying 100 = some (.map 102 3) := by kernel_rfl
theorem u_int : Try.prog.underlying 3 = some (.int .i64) := by kernel_rfl
theorem laid_A : laidOutB Try.prog = true := by kernel_rfl
theorem row_ends : (102 : TypeId) < Try.prog.types.size := of_decide_eq_true (by kernel_rfl)
theorem wide_ends : (match Try.prog.underlying 102 with | some (.array _ _) | some (.struct _) => true | _ => false) = true := by kernel_rfl
theorem K_ends : Keyed Try.prog 102 := Keyed.of_law (deep_law_laid laid_A (m := 2) (by omega) row_ends (by kernel_rfl) wide_ends)
theorem zero_int (w : World) : (zeroValue 3).run Try.prog w = .ok (.int .i64 0) w := by kernel_rfl
theorem keyT_ends : Try.prog.keyType 102 = true := by kernel_rfl
theorem cells_ends : Try.prog.cellsOf 102 = 2 := by kernel_rfl
theorem cells_int : Try.prog.cellsOf 3 = 1 := by kernel_rfl
theorem size_A : ∃ m, Try.prog.types.size + 1 = m + 2 := by
  have h : 0 < Try.prog.types.size := Nat.lt_of_le_of_lt (Nat.zero_le _) row_ends
  generalize Try.prog.types.size = z at h
  exact ⟨z - 1, by omega⟩

def KL (p : Int × Int) : Lit := .string (keyBytes [.int .i64 p.1, .int .i64 p.2])
def wf64 (x : Int) : Prop := (Lit.int .i64 x).wf = true

theorem key_ends (p : Int × Int) (h1 : wf64 p.1) (h2 : wf64 p.2) : keyOf Try.prog 102 (.agg #[.int .i64 p.1, .int .i64 p.2]) = some (KL p) := by
  unfold wf64 at h1 h2
  obtain ⟨m, hm⟩ := size_A
  unfold keyOf
  rw [u_ends]
  simp only [keyT_ends, Bool.true_and]
  rw [if_pos (by simp [Value.formed, u_ends, cells_ends]), hm]
  simp [Program.keyLits, u_ends, u_int, cells_ends, cells_int, Value.cells, h1, h2, KL]

theorem KL_inj (p q : Int × Int) (p1 : wf64 p.1) (p2 : wf64 p.2) (q1 : wf64 q.1) (q2 : wf64 q.2) (h : KL p = KL q) : p = q := by
  have := K_ends.inj (key_ends p p1 p2) (by rw [h]; exact key_ends q q1 q2)
  obtain ⟨a, b⟩ := p
  obtain ⟨c, d⟩ := q
  injection this with this
  injection this with this
  injection this with e1 this
  injection this with e2 this
  injection e1 with _ e1
  injection e2 with _ e2
  simp only at e1 e2
  rw [e1, e2]

/-- The map holds just the ends s. -/
structure IsHad (W : World) (B n : Nat) (s : List (Int × Int)) : Prop where
  ex : ∃ D : DataW Unit, W.ownsMap Try.prog 102 (plainElem Try.prog 3) B n D ∧ IsMap D ∧ ∀ p : Int × Int, wf64 p.1 → wf64 p.2 → has D (KL p) = s.contains p
  wf : ∀ p, p ∈ s → wf64 p.1 ∧ wf64 p.2

/-! ### what a network is like -/
def inN (n x : Int) : Bool := decide (0 ≤ x) && decide (x < n)
def okLink (n : Int) (x : S60) : Bool := inN n x.f0 && inN n x.f1 && !(x.f0 == x.f1) && !(decide (x.f3 < 1)) && !(decide (65535 < x.f3))
def okFrom (n : Int) : List (Int × Int) → List S60 → Bool
  | _, [] => true
  | s, x :: t => !(s.contains (x.f0, x.f1)) && (okLink n x && okFrom n ((x.f0, x.f1) :: s) t)
def chk (n : Int) (l : List S60) : Int := if n < 1 ∨ 16 < n then 2 else if 64 < l.length then 3 else if okFrom n [] l = true then 0 else 2

set_option maxHeartbeats 400000 in
theorem node_c (w : World) (b : Nat) (n x : Int) (hb : w.cell? ⟨b, 0, none⟩ = some (.int .i64 n)) : Calls Try.prog 40 #[.int .i64 x, .pointer (some ⟨b, 0, none⟩)] w fun e w' => e = .returned (.bool (inN n x)) ∧ w' = w := by
  obtain ⟨r, hr⟩ : ∃ r, inN n x = r := ⟨_, rfl⟩
  rw [hr]
  unfold inN at hr
  cases h : decide (0 ≤ x) with
  | true =>
    rw [h, Bool.true_and] at hr
    subst hr
    go_enter Try.func40, Try.ntmps40
    go_wp2
    go_ret
    exact ⟨rfl, rfl⟩
  | false =>
    rw [h, Bool.false_and] at hr
    subst hr
    go_enter Try.func40, Try.ntmps40
    go_wp2
    go_ret
    exact ⟨rfl, rfl⟩

theorem IsHad.alloc2 {W : World} {B n : Nat} {s : List (Int × Int)} (h : IsHad W B n s) {o1 o2 : Obj} : IsHad ((W.alloc o1).alloc o2) B n s := by
  obtain ⟨⟨D, hD, r⟩, hwf⟩ := h
  exact ⟨⟨D, (hD.alloc o1).alloc o2, r⟩, hwf⟩
theorem IsHad.lookup {W : World} {B n : Nat} {s : List (Int × Int)} (h : IsHad W B n s) (p : Int × Int) (p1 : wf64 p.1) (p2 : wf64 p.2) (b : Bool) (hb : s.contains p = b)
    {ops rest : _} {o : Oper} {a : Act} {Q : Exit → Act → World → Prop} (hg : o.guard = none) (m x : Operand) (hop : o.op = .lookup 100 m x true) (hm : a.eval m = .map (some B)) (hx : a.eval x = .agg #[.int .i64 p.1, .int .i64 p.2])
    (hK : ∀ c : Int, wpList Try.prog ops Q rest (a.put o.dst (.tuple #[.int .i64 c, .bool b])) W) : wpList Try.prog ops Q (o :: rest) a W := by
  obtain ⟨⟨D, hD, hM, hh⟩, hwf⟩ := h
  refine wpList_lookup_own_ok_int W hg m x 100 hop 102 3 .i64 K_ends u_hmap u_int (zero_int _) B n D hm hD _ (KL p) hx (key_ends p p1 p2) ?_
  intro c _ _
  rw [hh p p1 p2, hb]
  exact hK c

theorem IsHad.put {W : World} {B n : Nat} {s : List (Int × Int)} (h : IsHad W B n s) (hn : n < 1000) (p : Int × Int) (p1 : wf64 p.1) (p2 : wf64 p.2) (i : Int) (hi : wf64 i)
    {ops rest : _} {o : Oper} {a : Act} {Q : Exit → Act → World → Prop} (hg : o.guard = none) (m x v : Operand) (hop : o.op = .mapUpdate 100 m x v) (hm : a.eval m = .map (some B)) (hx : a.eval x = .agg #[.int .i64 p.1, .int .i64 p.2]) (hv : a.eval v = .int .i64 i)
    (hK : ∀ w1, IsHad w1 B (n + 1) (p :: s) → W.grownBy w1 (some B) → wpList Try.prog ops Q rest (a.put o.dst undef) w1) : wpList Try.prog ops Q (o :: rest) a W := by
  obtain ⟨⟨D, hD, hM, hh⟩, hwf⟩ := h
  refine wpList_mapUpdate_own W hg m x v 100 hop 102 3 K_ends u_hmap _ B n D hm hD (by unfold maxLen; omega) _ _ (KL p) hx hv (key_ends p p1 p2) _ [] (plainElem_int u_int hi) ?_
  intro w1 hown1 hgrow1
  refine hK w1 ⟨⟨_, hown1, ?_, ?_⟩, ?_⟩ hgrow1
  · exact hM.put _ _
  · intro q q1 q2
    by_cases e : q = p
    · subst e
      rw [has_put_same hM (K_ends.key (key_ends q q1 q2))]
      simp
    · rw [has_put_other (fun h => e (KL_inj q p q1 q2 p1 p2 h)), hh q q1 q2, List.contains_cons]
      have : (q == p) = false := by simpa using e
      rw [this, Bool.false_or]
  · intro q hq
    rcases List.mem_cons.1 hq with rfl | hq
    · exact ⟨p1, p2⟩
    · exact hwf q hq
end Go.Proofs.Ytaeacdnefklakaa.L
