/-
  spf.All's contract, in the engine's words.
  Conditions: as the contract states them.
-/
import Derived.Test.YtaeacdnefklakaaJb
import Derived.Test.YtaeacdnefklakaaT
namespace Go.Proofs.Ytaeacdnefklakaa.M
open Go.RowKit Go.Se Go.Proofs.YtaeacdnefklakaaW.PrintWords
set_option linter.unusedVariables false
set_option maxRecDepth 100000

/-- A link, in the elder words. -/
def oL (x : T59) : L.S60 := ⟨x.f0, x.f1, x.f2, x.f3, x.f4⟩
structure AllR where
  a1 : Option Addr
  c1 : Nat
  a2 : Option Addr
  c2 : Nat
  hs : List Sl
theorem rowC {W : World} {A : Option Addr} {xs : List T59} (h : RowAt W y59 A xs) (hm : xs.length ≤ 9223372036854775807) : L.k60.C W A (xs.map oL).length (xs.map oL) := by
  refine ⟨rfl, by simpa using hm, fun hn => ?_⟩
  rw [List.length_map] at hn
  obtain ⟨ad, hA, _⟩ := h 0 xs[0] (List.getElem?_eq_getElem hn)
  refine ⟨ad, hA, fun j p hj => ?_⟩
  rw [List.getElem?_map, Option.map_eq_some_iff] at hj
  obtain ⟨x, hx, rfl⟩ := hj
  obtain ⟨ad', hA', hc⟩ := h j x hx
  rw [hA] at hA'
  injection hA' with hA'
  subst hA'
  exact ⟨y59.enc x, rfl, L.k60_mk W (oL x), fun i u hu => hc i u hu⟩
/-- A row of whole numbers, read. -/
theorem rowI {W : World} {A : Option Addr} {n : Nat} {xs : List Int} (h : (Kd.int .i64).C W A n xs) : RowAt W (yi .i64) A xs := fun i x hx => by
  have hlt := (List.getElem?_eq_some_iff.1 hx).1
  obtain ⟨ad, hA, hc⟩ := L.at_nat h i (by rw [← h.1]; exact hlt)
  refine ⟨ad, hA, fun j u hu => ?_⟩
  have hj : j = 0 := by have := (List.getElem?_eq_some_iff.1 hu).1; simp [yi] at this; omega
  subst hj
  have e : u = .int .i64 x := by simpa [yi] using hu.symm
  subst e
  rw [List.getD_eq_getElem?_getD, hx] at hc
  simpa [yi] using hc
theorem own_blk {α : Type} {d : Kd α} {e b : Nat} {w : World} {ok : Nat → Prop} {A : Option Addr} {n c : Nat} {xs : List α} (h : d.R e w b ok (.slice A n c) xs) : ∀ a, A = some a → b ≤ a.block := fun a ha => by
  subst ha
  exact (Fr.R_block h a.block rfl).1
theorem all_ok (n frm : Nat) (xs : List T59) (A : Option Addr) (c : Nat) (hc : xs.length ≤ c) (hm : xs.length ≤ 9223372036854775807) (hwf : ∀ x, x ∈ xs.map oL → L.wfLink x) (hk : L.chk n (xs.map oL) = 0) (hf : frm < n) :
    Ct Try.prog 12 [.int .i64 n, .slice A xs.length c, .int .i64 frm] [irow y59 A xs] [] (fun r : AllR => r.hs.length = (L.allI (xs.map oL) n frm).length) (fun r => .tuple #[.slice r.a1 r.hs.length r.c1, .slice r.a2 ((L.allI (xs.map oL) n frm).map (·.f1)).length r.c2, .int .i64 0])
      (fun r => [irow ysl r.a1 r.hs, irow (yi .i64) r.a2 ((L.allI (xs.map oL) n frm).map (·.f1)), irows (yi .i64) r.hs ((L.allI (xs.map oL) n frm).map (·.f0))]) := Ct.mk fun W0 W F hs => by
  have hs : Sat W0 [irow y59 A xs, F] W := hs
  have hC := rowC (irow_at hs) hm
  have hlen : (xs.map oL).length = xs.length := List.length_map ..
  refine ((L.all_good W n frm (xs.map oL) A c hC (by rw [hlen]; exact hc) hwf hk hf).mono ?_ : _) |> fun h => by rw [hlen] at h; exact h
  rintro e W' ⟨vr, vc, rfl, hR, hI, hb⟩
  generalize L.allI (xs.map oL) n frm = ws at *
  obtain ⟨a1, c1, rfl, h1, hC1⟩ := Kd.R_reads hR
  obtain ⟨a2, c2, rfl, h2, hC2⟩ := Kd.R_reads hI
  have hsat := hs.drop.grow hb
  have key : ∀ i : Nat, ∃ s : Sl, ∀ x, (ws.map (·.f0))[i]? = some x → (∃ a, a1 = some a ∧ W'.cell? (a.add (i * 1)) = some (.slice s.a s.n s.c)) ∧ s.n = x.length ∧ s.n ≤ s.c ∧ RowAt W' (yi .i64) s.a x ∧ ∀ a, s.a = some a → W.heap.size ≤ a.block := fun i => by
    cases hi : (ws.map (·.f0))[i]? with
    | none => exact ⟨⟨none, 0, 0⟩, fun x hx => by cases hx⟩
    | some x =>
      have hlt := (List.getElem?_eq_some_iff.1 hi).1
      rw [List.length_map] at hlt
      obtain ⟨g, cp, cur, hv, _⟩ := Fr.R_plain hR (by rw [List.length_map]; omega)
      rw [hv] at hR
      injection hv with hv _ _
      subst hv
      obtain ⟨cc, hcl, hM, hcc, _⟩ := Kd.R_elem hR ([] : List Int) (i : Int) (by omega) (by rw [List.length_map]; omega)
      obtain ⟨v, rfl, hv⟩ := hM
      rw [Int.toNat_natCast, List.getD_eq_getElem?_getD, hi] at hv
      obtain ⟨a, c3, rfl, h3, hC3⟩ := Kd.R_reads hv
      refine ⟨⟨a, x.length, c3⟩, fun y hy => ?_⟩
      injection hy with hy
      subst hy
      have h0 := hcc 0 _ rfl
      refine ⟨⟨_, rfl, ?_⟩, rfl, h3, rowI hC3, own_blk hv⟩
      rw [addr_add]
      simpa [show (Kd.slice 3 (Kd.int .i64)).sz = 1 from rfl] using h0
  let f : Nat → Sl := fun i => Classical.choose (key i)
  have hfs : ∀ i x, (ws.map (·.f0))[i]? = some x → (∃ a, a1 = some a ∧ W'.cell? (a.add (i * 1)) = some (.slice (f i).a (f i).n (f i).c)) ∧ (f i).n = x.length ∧ (f i).n ≤ (f i).c ∧ RowAt W' (yi .i64) (f i).a x ∧ ∀ a, (f i).a = some a → W.heap.size ≤ a.block := fun i => Classical.choose_spec (key i)
  have hfl : ((List.range ws.length).map f).length = ws.length := by simp
  have hfg : ∀ i (s : Sl), ((List.range ws.length).map f)[i]? = some s → i < ws.length ∧ s = f i := fun i s hi => by
    rw [List.getElem?_map, Option.map_eq_some_iff] at hi
    obtain ⟨j, hj, rfl⟩ := hi
    obtain ⟨h1, h2⟩ := List.getElem?_eq_some_iff.1 hj
    simp at h1 h2
    subst h2
    exact ⟨h1, rfl⟩
  refine ⟨⟨a1, c1, a2, c2, (List.range ws.length).map f⟩, by simp, ?_, ?_⟩
  · simp
  · refine hsat.imp fun im g s => ?_
    obtain ⟨g1, g2, d1, e1, hnew, s⟩ := s
    have e0 : ∀ h : Hp, h = un (fun _ => none) h := fun h => funext fun _ => rfl
    refine ⟨fun _ => none, g, fun _ => .inl rfl, e0 g, ?_, fun _ => none, g, fun _ => .inl rfl, e0 g, ?_, fun _ => none, g, fun _ => .inl rfl, e0 g, ?_, ?_⟩
    · refine irow_new hnew (fun i s hi => ?_) (own_blk hR)
      obtain ⟨hlt, rfl⟩ := hfg i s hi
      obtain ⟨⟨a, ha, hcell⟩, _⟩ := hfs i _ (List.getElem?_eq_getElem (by rw [List.length_map]; exact hlt))
      refine ⟨a, ha, fun j u hu => ?_⟩
      have hj : j = 0 := by have := (List.getElem?_eq_some_iff.1 hu).1; simp [ysl] at this; omega
      subst hj
      have e : u = .slice (f i).a (f i).n (f i).c := by simpa [ysl] using hu.symm
      rw [e]
      simpa [ysl] using hcell
    · exact irow_new hnew (rowI hC2) (own_blk hI)
    · refine ⟨by simp, fun i s x hi hx => ?_⟩
      obtain ⟨hlt, rfl⟩ := hfg i s hi
      obtain ⟨_, q1, q2, q3, q4⟩ := hfs i x hx
      exact ⟨q1, q2, irow_new hnew q3 q4⟩
    · exact sep_apd.sep_more (l := [F]) d1.comm (e1.trans (un_comm d1)) s
theorem all_no (n frm : Int) (xs : List T59) (A : Option Addr) (c : Nat) (hc : xs.length ≤ c) (hm : xs.length ≤ 9223372036854775807) (hwf : ∀ x, x ∈ xs.map oL → L.wfLink x) (hb : L.chk n (xs.map oL) ≠ 0 ∨ frm < 0 ∨ n ≤ frm) :
    Ct Try.prog 12 [.int .i64 n, .slice A xs.length c, .int .i64 frm] [irow y59 A xs] [] (fun _ : Unit => True) (fun _ => .tuple #[.slice none 0 0, .slice none 0 0, .int .i64 2]) (fun _ => []) := Ct.mk fun W0 W F hs => by
  have hs : Sat W0 [irow y59 A xs, F] W := hs
  have hC := rowC (irow_at hs) hm
  have hlen : (xs.map oL).length = xs.length := List.length_map ..
  have h := L.all_bad W n frm (xs.map oL) A c hC (by rw [hlen]; exact hc) hwf hb
  rw [hlen] at h
  refine h.mono ?_
  rintro e W' ⟨rfl, hb⟩
  exact ⟨(), trivial, rfl, hs.drop.below hb⟩
end Go.Proofs.Ytaeacdnefklakaa.M
