/-
  spf.Best, walked.
  Conditions: as each contract states them.
-/
import Derived.Test.YtaeacdnefklakaaBr
import Derived.Test.YtaeacdnefklakaaSp
import Derived.Test.YtaeacdnefklakaaPa
import Derived.Test.YtaeacdnefklakaaX
namespace Go.Proofs.Ytaeacdnefklakaa.M
open Go.RowKit Go.Se
set_option linter.unusedVariables false
set_option maxRecDepth 100000
set_option synthInstance.maxSize 100000
set_option synthInstance.maxHeartbeats 400000

/-- What Best answers. -/
def bestI (xs : List T59) (n frm tgt : Int) : List Int × Int × Int :=
  if L.chk n (xs.map oL) ≠ 0 ∨ frm < 0 ∨ n ≤ frm ∨ tgt < 0 ∨ n ≤ tgt ∨ tgt = frm then ([], 0, 2)
  else if gt ((L.allI (xs.map oL) n.toNat frm.toNat).map (·.f1)) tgt < 0 then ([], 0, 8)
  else (gt ((L.allI (xs.map oL) n.toNat frm.toNat).map (·.f0)) tgt, gt ((L.allI (xs.map oL) n.toNat frm.toNat).map (·.f1)) tgt, 0)
set_option maxHeartbeats 1000000 in
theorem best_c (n frm tgt : Int) (xs : List T59) (A : Option Addr) (c : Nat) (hc : xs.length ≤ c) (hm : xs.length ≤ 9223372036854775807) (hwf : ∀ x, x ∈ xs.map oL → L.wfLink x) :
    Ct Try.prog 10 [.int .i64 n, .slice A xs.length c, .int .i64 frm, .int .i64 tgt] [irow y59 A xs] [] (fun r : Option Addr × Nat => (bestI xs n frm tgt).1.length ≤ r.2)
      (fun r => .tuple #[.slice r.1 (bestI xs n frm tgt).1.length r.2, .int .i64 (bestI xs n frm tgt).2.1, .int .i64 (bestI xs n frm tgt).2.2]) (fun r => [irow (yi .i64) r.1 (bestI xs n frm tgt).1]) := by
  refine Ct.enter Try.func10 Try.ntmps10 (h := fun W0 F => ?_)
  have rs0 : RSlot 8 := ⟨trivial⟩
  have rs1 : RSlot 9 := ⟨trivial⟩
  have rs2 : RSlot 10 := ⟨trivial⟩
  by_cases hg : L.chk n (xs.map oL) = 0 ∧ 0 ≤ frm ∧ frm < n
  · obtain ⟨hg1, hg2, hg3⟩ := hg
    obtain ⟨m, rfl⟩ := Int.eq_ofNat_of_zero_le (show 0 ≤ n by omega)
    obtain ⟨f, rfl⟩ := Int.eq_ofNat_of_zero_le hg2
    have hlen := (L.allI_ways hg1 (show f < m by omega)).len
    repeat' (first | refine Sx.moveR (h := ?_) | refine Sx.assignR (h := ?_) | refine Sx.v (h := ?_) | refine Sx.nil (h := ?_) | refine Sx.store (h := ?_) | refine Sx.storeE (h := ?_) | refine Sx.indexAddr (h := fun _ => ?_) | refine Sx.box (h := fun _ => ?_) | refine Sx.alloc (h := fun _ => ?_) | refine Sx.buildC (h := ?_) | refine Sx.buildSlice (h := fun _ _ => ?_) | refine Sx.append (h := fun _ _ => ?_) | refine Sx.append0 (h := fun _ _ => ?_) | refine Sx.appendC (h := fun _ _ => ?_) | refine Sx.add (h := ?_) | refine Sx.sub (h := ?_) | refine Sx.mul (h := ?_) | refine Sx.quo (h := ?_) | refine Sx.rem (h := ?_) | refine Sx.sliceTo (h := ?_) | refine Sx.slice3 (h := ?_) | refine Sx.sliceHi (h := fun _ _ _ => ?_) | refine Sx.sliceLo (h := fun _ _ _ => ?_) | refine Sx.sliceLH (h := fun _ _ _ => ?_) | refine Sx.convi (h := ?_) | refine Sx.eqNilP (h := ?_) | refine Sx.neqNilP (h := ?_) | refine Sx.pickT (h := ?_) | refine Sx.pickF (h := ?_) | refine Sx.makeInterface (h := ?_) | refine Sx.typeAssert (h := ?_) | refine Sx.gyes (h := ?_) | refine Sx.gno (h := ?_) | refine Sx.gno0 (h := ?_) | refine Sx.split_t (h := ?_) | refine Sx.split_f (h := ?_) | refine Sx.split (h1 := fun _ => ?_) (h2 := fun _ => ?_) | refine Sx.splitb (h1 := fun _ => ?_) (h2 := fun _ => ?_) | refine Cx.seq ?_ | refine Cx.region (h := ?_) | refine Cx.regionD (h := ?_) | refine Cx.cond_t (h := ?_) | refine Cx.cond_f (h := ?_) | refine Cx.cond_dt (h := ?_) | refine Cx.cond_df (h := ?_) | refine Cx.cond_d (h1 := fun _ => ?_) (h2 := fun _ => ?_) | refine Cx.cond_b (h1 := fun _ => ?_) (h2 := fun _ => ?_) | refine Cx.block ?_ | refine Cx.exit ?_ | refine Cx.ret ?_ | refine Cx.skip ?_ | refine Cx.label ?_ | refine Kx.nxk [0, 1, 2, 3, 8, 9, 10, 11, 12, 13, 22, 39] ?_ | refine Kx.then_x ?_ | refine Kx.then_r ?_ | refine Kx.block_n ?_ | refine Kx.block_r ?_ | refine Kx.block_x (h := ?_) | refine Kx.block_y (h := ?_) | refine Kx.post (h := ?_) | refine Kx.end_ ?_)
    refine Sx.call (all_ok m f xs A c hc hm hwf hg1 (by omega)) (h := fun r hr => ?_)
    obtain ⟨cs, hcs⟩ : ∃ cs, (L.allI (xs.map oL) m f).map (·.f1) = cs := ⟨_, rfl⟩
    obtain ⟨rs, hrs⟩ : ∃ rs, (L.allI (xs.map oL) m f).map (·.f0) = rs := ⟨_, rfl⟩
    have hcl : cs.length = m := by rw [← hcs, List.length_map, hlen]
    have hrl : rs.length = m := by rw [← hrs, List.length_map, hlen]
    rw [hlen] at hr
    rw [hcs, hrs]
    repeat' (first | refine Sx.moveR (h := ?_) | refine Sx.assignR (h := ?_) | refine Sx.v (h := ?_) | refine Sx.nil (h := ?_) | refine Sx.store (h := ?_) | refine Sx.storeE (h := ?_) | refine Sx.indexAddr (h := fun _ => ?_) | refine Sx.box (h := fun _ => ?_) | refine Sx.alloc (h := fun _ => ?_) | refine Sx.buildC (h := ?_) | refine Sx.buildSlice (h := fun _ _ => ?_) | refine Sx.append (h := fun _ _ => ?_) | refine Sx.append0 (h := fun _ _ => ?_) | refine Sx.appendC (h := fun _ _ => ?_) | refine Sx.add (h := ?_) | refine Sx.sub (h := ?_) | refine Sx.mul (h := ?_) | refine Sx.quo (h := ?_) | refine Sx.rem (h := ?_) | refine Sx.sliceTo (h := ?_) | refine Sx.slice3 (h := ?_) | refine Sx.sliceHi (h := fun _ _ _ => ?_) | refine Sx.sliceLo (h := fun _ _ _ => ?_) | refine Sx.sliceLH (h := fun _ _ _ => ?_) | refine Sx.convi (h := ?_) | refine Sx.eqNilP (h := ?_) | refine Sx.neqNilP (h := ?_) | refine Sx.pickT (h := ?_) | refine Sx.pickF (h := ?_) | refine Sx.makeInterface (h := ?_) | refine Sx.typeAssert (h := ?_) | refine Sx.gyes (h := ?_) | refine Sx.gno (h := ?_) | refine Sx.gno0 (h := ?_) | refine Sx.split_t (h := ?_) | refine Sx.split_f (h := ?_) | refine Sx.split (h1 := fun _ => ?_) (h2 := fun _ => ?_) | refine Sx.splitb (h1 := fun _ => ?_) (h2 := fun _ => ?_) | refine Cx.seq ?_ | refine Cx.region (h := ?_) | refine Cx.regionD (h := ?_) | refine Cx.cond_t (h := ?_) | refine Cx.cond_f (h := ?_) | refine Cx.cond_dt (h := ?_) | refine Cx.cond_df (h := ?_) | refine Cx.cond_d (h1 := fun _ => ?_) (h2 := fun _ => ?_) | refine Cx.cond_b (h1 := fun _ => ?_) (h2 := fun _ => ?_) | refine Cx.block ?_ | refine Cx.exit ?_ | refine Cx.ret ?_ | refine Cx.skip ?_ | refine Cx.label ?_ | refine Kx.nxk [0, 1, 2, 3, 8, 9, 10, 11, 12, 13, 22, 39] ?_ | refine Kx.then_x ?_ | refine Kx.then_r ?_ | refine Kx.block_n ?_ | refine Kx.block_r ?_ | refine Kx.block_x (h := ?_) | refine Kx.block_y (h := ?_) | refine Kx.post (h := ?_) | refine Kx.end_ ?_)
    · have e : bestI xs m f tgt = ([], 0, 2) := by unfold bestI; rw [if_pos (by omega)]
      rw [e]
      refine Kx.conv (fun W h => Sat.irow_nil (yi .i64) none h) ?_
      exact Kx.ret3 Try.results10 (none, 0) (Nat.le_refl _) rfl
    · have e : bestI xs m f tgt = ([], 0, 2) := by unfold bestI; rw [if_pos (by omega)]
      rw [e]
      refine Kx.conv (fun W h => Sat.irow_nil (yi .i64) none h) ?_
      exact Kx.ret3 Try.results10 (none, 0) (Nat.le_refl _) rfl
    · have e : bestI xs m f tgt = ([], 0, 2) := by unfold bestI; rw [if_pos (by omega)]
      rw [e]
      refine Kx.conv (fun W h => Sat.irow_nil (yi .i64) none h) ?_
      exact Kx.ret3 Try.results10 (none, 0) (Nat.le_refl _) rfl
    · have e : bestI xs m f tgt = ([], 0, 8) := by
        unfold bestI
        rw [if_neg (by omega), Int.toNat_natCast, Int.toNat_natCast, hcs, if_pos (by assumption)]
      rw [e]
      refine Kx.conv (fun W h => Sat.irow_nil (yi .i64) none h) ?_
      exact Kx.ret3 Try.results10 (none, 0) (Nat.le_refl _) rfl
    · have e : bestI xs m f tgt = (gt rs tgt, gt cs tgt, 0) := by
        unfold bestI
        rw [if_neg (by omega), Int.toNat_natCast, Int.toNat_natCast, hcs, if_neg (by assumption), hrs]
      rw [e]
      refine Kx.open_ (α := Unit) (φ := fun _ => (gt r.hs tgt).n = (gt rs tgt).length ∧ (gt r.hs tgt).n ≤ (gt r.hs tgt).c) (l' := fun _ => _ :: _) (fun W h => ⟨(), irows_at (K := yi .i64) r.hs rs tgt (by omega) (by omega) h⟩) ?_
      rintro _ ⟨h1, h2⟩
      refine Kx.ret3 Try.results10 ((gt r.hs tgt).a, (gt r.hs tgt).c) ?_ ?_
      · rw [← h1]; exact h2
      · rw [← h1]
  · repeat' (first | refine Sx.moveR (h := ?_) | refine Sx.assignR (h := ?_) | refine Sx.v (h := ?_) | refine Sx.nil (h := ?_) | refine Sx.store (h := ?_) | refine Sx.storeE (h := ?_) | refine Sx.indexAddr (h := fun _ => ?_) | refine Sx.box (h := fun _ => ?_) | refine Sx.alloc (h := fun _ => ?_) | refine Sx.buildC (h := ?_) | refine Sx.buildSlice (h := fun _ _ => ?_) | refine Sx.append (h := fun _ _ => ?_) | refine Sx.append0 (h := fun _ _ => ?_) | refine Sx.appendC (h := fun _ _ => ?_) | refine Sx.add (h := ?_) | refine Sx.sub (h := ?_) | refine Sx.mul (h := ?_) | refine Sx.quo (h := ?_) | refine Sx.rem (h := ?_) | refine Sx.sliceTo (h := ?_) | refine Sx.slice3 (h := ?_) | refine Sx.sliceHi (h := fun _ _ _ => ?_) | refine Sx.sliceLo (h := fun _ _ _ => ?_) | refine Sx.sliceLH (h := fun _ _ _ => ?_) | refine Sx.convi (h := ?_) | refine Sx.eqNilP (h := ?_) | refine Sx.neqNilP (h := ?_) | refine Sx.pickT (h := ?_) | refine Sx.pickF (h := ?_) | refine Sx.makeInterface (h := ?_) | refine Sx.typeAssert (h := ?_) | refine Sx.gyes (h := ?_) | refine Sx.gno (h := ?_) | refine Sx.gno0 (h := ?_) | refine Sx.split_t (h := ?_) | refine Sx.split_f (h := ?_) | refine Sx.split (h1 := fun _ => ?_) (h2 := fun _ => ?_) | refine Sx.splitb (h1 := fun _ => ?_) (h2 := fun _ => ?_) | refine Cx.seq ?_ | refine Cx.region (h := ?_) | refine Cx.regionD (h := ?_) | refine Cx.cond_t (h := ?_) | refine Cx.cond_f (h := ?_) | refine Cx.cond_dt (h := ?_) | refine Cx.cond_df (h := ?_) | refine Cx.cond_d (h1 := fun _ => ?_) (h2 := fun _ => ?_) | refine Cx.cond_b (h1 := fun _ => ?_) (h2 := fun _ => ?_) | refine Cx.block ?_ | refine Cx.exit ?_ | refine Cx.ret ?_ | refine Cx.skip ?_ | refine Cx.label ?_ | refine Kx.nxk [0, 1, 2, 3, 8, 9, 10, 11, 12, 13, 22, 39] ?_ | refine Kx.then_x ?_ | refine Kx.then_r ?_ | refine Kx.block_n ?_ | refine Kx.block_r ?_ | refine Kx.block_x (h := ?_) | refine Kx.block_y (h := ?_) | refine Kx.post (h := ?_) | refine Kx.end_ ?_)
    refine Sx.call (all_no n frm xs A c hc hm hwf (by omega)) (h := fun _ _ => ?_)
    repeat' (first | refine Sx.moveR (h := ?_) | refine Sx.assignR (h := ?_) | refine Sx.v (h := ?_) | refine Sx.nil (h := ?_) | refine Sx.store (h := ?_) | refine Sx.storeE (h := ?_) | refine Sx.indexAddr (h := fun _ => ?_) | refine Sx.box (h := fun _ => ?_) | refine Sx.alloc (h := fun _ => ?_) | refine Sx.buildC (h := ?_) | refine Sx.buildSlice (h := fun _ _ => ?_) | refine Sx.append (h := fun _ _ => ?_) | refine Sx.append0 (h := fun _ _ => ?_) | refine Sx.appendC (h := fun _ _ => ?_) | refine Sx.add (h := ?_) | refine Sx.sub (h := ?_) | refine Sx.mul (h := ?_) | refine Sx.quo (h := ?_) | refine Sx.rem (h := ?_) | refine Sx.sliceTo (h := ?_) | refine Sx.slice3 (h := ?_) | refine Sx.sliceHi (h := fun _ _ _ => ?_) | refine Sx.sliceLo (h := fun _ _ _ => ?_) | refine Sx.sliceLH (h := fun _ _ _ => ?_) | refine Sx.convi (h := ?_) | refine Sx.eqNilP (h := ?_) | refine Sx.neqNilP (h := ?_) | refine Sx.pickT (h := ?_) | refine Sx.pickF (h := ?_) | refine Sx.makeInterface (h := ?_) | refine Sx.typeAssert (h := ?_) | refine Sx.gyes (h := ?_) | refine Sx.gno (h := ?_) | refine Sx.gno0 (h := ?_) | refine Sx.split_t (h := ?_) | refine Sx.split_f (h := ?_) | refine Sx.split (h1 := fun _ => ?_) (h2 := fun _ => ?_) | refine Sx.splitb (h1 := fun _ => ?_) (h2 := fun _ => ?_) | refine Cx.seq ?_ | refine Cx.region (h := ?_) | refine Cx.regionD (h := ?_) | refine Cx.cond_t (h := ?_) | refine Cx.cond_f (h := ?_) | refine Cx.cond_dt (h := ?_) | refine Cx.cond_df (h := ?_) | refine Cx.cond_d (h1 := fun _ => ?_) (h2 := fun _ => ?_) | refine Cx.cond_b (h1 := fun _ => ?_) (h2 := fun _ => ?_) | refine Cx.block ?_ | refine Cx.exit ?_ | refine Cx.ret ?_ | refine Cx.skip ?_ | refine Cx.label ?_ | refine Kx.nxk [0, 1, 2, 3, 8, 9, 10, 11, 12, 13, 22, 39] ?_ | refine Kx.then_x ?_ | refine Kx.then_r ?_ | refine Kx.block_n ?_ | refine Kx.block_r ?_ | refine Kx.block_x (h := ?_) | refine Kx.block_y (h := ?_) | refine Kx.post (h := ?_) | refine Kx.end_ ?_)
    have e : bestI xs n frm tgt = ([], 0, 2) := by
      unfold bestI
      rw [if_pos (by omega)]
    rw [e]
    refine Kx.conv (fun W h => Sat.irow_nil (yi .i64) none h) ?_
    exact Kx.ret3 Try.results10 (none, 0) (Nat.le_refl _) rfl
end Go.Proofs.Ytaeacdnefklakaa.M
