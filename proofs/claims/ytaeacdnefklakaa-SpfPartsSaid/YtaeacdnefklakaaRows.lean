/-
  No cell of these rows narrows 'for every input' (looked for: loops, veiled, ifaces, maps, wideKeys, modest, calm, conditions, laid).
  DERIVED. THE GIVEN ROWS OF THIS SEAT. 6 by the template 'for every input the law returns true; each argument reads behind the call as it read before'; 0 by the template 'total and deterministic' (their statements: YtaeacdnefklakaaTotals.lean).
  GIVEN WITH THE SEED: the statements are not yours to turn. If you find one false, say at which input.
  Laid BY PROGRAM, IN A SANDBOX (cutbox-rows.mjs): the forced cells as the released guide's own fill.sh prints them over the translation e130fafce3795eaf… (all of the seat's roots in one cut). By AI agents, Wed Nov 11 2026. No macro, syntax, notation, axiom, sorry.
-/
import Derived.Test.YtaeacdnefklakaaChecked
import GoSem.Claim
import GoSem.ClaimJoined
import GoSem.ClaimMapViews
import Derived.JoinedTies
import Derived.KernelRfl
namespace Go.Proofs.Ytaeacdnefklakaa
/- THE CELL 'sum', in the pinned program and in every row, IS THE sha256 OF THE DUMP (.gsa) THAT YtaeacdnefklakaaProg.lean LOADS. Nothing in Lean hashes anything: it is a label: what it is worth is what the hold of that sum in a sandbox is worth. -/
noncomputable def Try.pinned : Pinned := { name := "ytaeacdnefklakaa", sum := "e130fafce3795eafe376ca51f98c0a96962a1042bbd06e465df430195f4205c5", checked := Try.checked }
namespace Rows
def none {H : Type} : Left H := { results := [], args := [] }

/-- 'viaductlaw11.SpfParts': WHATEVER THE INPUT: true; the input reads as it did. -/
def spfPartsSpec : ChangeSpec := { name := "spfParts", fn := fun _ => fun
  | [d1, d2, d3] => { results := [.lit (.bool true)], args := [d1, d2, d3] }
  | _ => none }
def spfPartsRow : OpenClaim := { program := "ytaeacdnefklakaa", sum := "e130fafce3795eafe376ca51f98c0a96962a1042bbd06e465df430195f4205c5", func := "viaduct/viaductlaw11.SpfParts", spec := "spfParts", unfollowed := true, recurses := true, plainKeys := false, apart := false }
def SpfPartsSaid : Prop := spfPartsRow.holds Try.pinned (OpenSpec.ofChange spfPartsSpec)

/-- ITS FALSE NEIGHBOUR: 'it returns false'. Refute it at one input. -/
def spfPartsWrong : ChangeSpec := { name := "spfParts", fn := fun _ => fun
  | [d1, d2, d3] => { results := [.lit (.bool false)], args := [d1, d2, d3] }
  | _ => none }
def SpfPartsWrongFalsely : Prop := spfPartsRow.holds Try.pinned (OpenSpec.ofChange spfPartsWrong)

/-- 'viaductlaw11.SpfReaches': WHATEVER THE INPUT: true; the input reads as it did. -/
def spfReachesSpec : ChangeSpec := { name := "spfReaches", fn := fun _ => fun
  | [d1, d2, d3] => { results := [.lit (.bool true)], args := [d1, d2, d3] }
  | _ => none }
def spfReachesRow : OpenClaim := { program := "ytaeacdnefklakaa", sum := "e130fafce3795eafe376ca51f98c0a96962a1042bbd06e465df430195f4205c5", func := "viaduct/viaductlaw11.SpfReaches", spec := "spfReaches", unfollowed := true, recurses := true, plainKeys := false, apart := false }
def SpfReachesSaid : Prop := spfReachesRow.holds Try.pinned (OpenSpec.ofChange spfReachesSpec)

/-- ITS FALSE NEIGHBOUR: 'it returns false'. Refute it at one input. -/
def spfReachesWrong : ChangeSpec := { name := "spfReaches", fn := fun _ => fun
  | [d1, d2, d3] => { results := [.lit (.bool false)], args := [d1, d2, d3] }
  | _ => none }
def SpfReachesWrongFalsely : Prop := spfReachesRow.holds Try.pinned (OpenSpec.ofChange spfReachesWrong)

/-- 'viaductlaw17.CspfFinds': WHATEVER THE INPUT: true; the input reads as it did. -/
def cspfFindsSpec : ChangeSpec := { name := "cspfFinds", fn := fun _ => fun
  | [d1, d2] => { results := [.lit (.bool true)], args := [d1, d2] }
  | _ => none }
def cspfFindsRow : OpenClaim := { program := "ytaeacdnefklakaa", sum := "e130fafce3795eafe376ca51f98c0a96962a1042bbd06e465df430195f4205c5", func := "viaduct/viaductlaw17.CspfFinds", spec := "cspfFinds", inPlace := ["math/bits.Add64"], unfollowed := true, recurses := true, plainKeys := false, apart := false }
def CspfFindsSaid : Prop := cspfFindsRow.holds Try.pinned (OpenSpec.ofChange cspfFindsSpec)

/-- ITS FALSE NEIGHBOUR: 'it returns false'. Refute it at one input. -/
def cspfFindsWrong : ChangeSpec := { name := "cspfFinds", fn := fun _ => fun
  | [d1, d2] => { results := [.lit (.bool false)], args := [d1, d2] }
  | _ => none }
def CspfFindsWrongFalsely : Prop := cspfFindsRow.holds Try.pinned (OpenSpec.ofChange cspfFindsWrong)

/-- 'viaductlaw17.CspfMeets': WHATEVER THE INPUT: true; the input reads as it did. -/
def cspfMeetsSpec : ChangeSpec := { name := "cspfMeets", fn := fun _ => fun
  | [d1, d2] => { results := [.lit (.bool true)], args := [d1, d2] }
  | _ => none }
def cspfMeetsRow : OpenClaim := { program := "ytaeacdnefklakaa", sum := "e130fafce3795eafe376ca51f98c0a96962a1042bbd06e465df430195f4205c5", func := "viaduct/viaductlaw17.CspfMeets", spec := "cspfMeets", inPlace := ["math/bits.Add64"], unfollowed := true, recurses := true, plainKeys := false, apart := false }
def CspfMeetsSaid : Prop := cspfMeetsRow.holds Try.pinned (OpenSpec.ofChange cspfMeetsSpec)

/-- ITS FALSE NEIGHBOUR: 'it returns false'. Refute it at one input. -/
def cspfMeetsWrong : ChangeSpec := { name := "cspfMeets", fn := fun _ => fun
  | [d1, d2] => { results := [.lit (.bool false)], args := [d1, d2] }
  | _ => none }
def CspfMeetsWrongFalsely : Prop := cspfMeetsRow.holds Try.pinned (OpenSpec.ofChange cspfMeetsWrong)

/-- 'viaductlaw17.CspfNone': WHATEVER THE INPUT: true; the input reads as it did. -/
def cspfNoneSpec : ChangeSpec := { name := "cspfNone", fn := fun _ => fun
  | [d1, d2, d3] => { results := [.lit (.bool true)], args := [d1, d2, d3] }
  | _ => none }
def cspfNoneRow : OpenClaim := { program := "ytaeacdnefklakaa", sum := "e130fafce3795eafe376ca51f98c0a96962a1042bbd06e465df430195f4205c5", func := "viaduct/viaductlaw17.CspfNone", spec := "cspfNone", inPlace := ["math/bits.Add64"], unfollowed := true, recurses := true, plainKeys := false, apart := false }
def CspfNoneSaid : Prop := cspfNoneRow.holds Try.pinned (OpenSpec.ofChange cspfNoneSpec)

/-- ITS FALSE NEIGHBOUR: 'it returns false'. Refute it at one input. -/
def cspfNoneWrong : ChangeSpec := { name := "cspfNone", fn := fun _ => fun
  | [d1, d2, d3] => { results := [.lit (.bool false)], args := [d1, d2, d3] }
  | _ => none }
def CspfNoneWrongFalsely : Prop := cspfNoneRow.holds Try.pinned (OpenSpec.ofChange cspfNoneWrong)

/-- 'viaductlaw17.CspfHops': WHATEVER THE INPUT: true; the input reads as it did. -/
def cspfHopsSpec : ChangeSpec := { name := "cspfHops", fn := fun _ => fun
  | [d1, d2] => { results := [.lit (.bool true)], args := [d1, d2] }
  | _ => none }
def cspfHopsRow : OpenClaim := { program := "ytaeacdnefklakaa", sum := "e130fafce3795eafe376ca51f98c0a96962a1042bbd06e465df430195f4205c5", func := "viaduct/viaductlaw17.CspfHops", spec := "cspfHops", inPlace := ["math/bits.Add64"], unfollowed := true, recurses := true, plainKeys := false, apart := false }
def CspfHopsSaid : Prop := cspfHopsRow.holds Try.pinned (OpenSpec.ofChange cspfHopsSpec)

/-- ITS FALSE NEIGHBOUR: 'it returns false'. Refute it at one input. -/
def cspfHopsWrong : ChangeSpec := { name := "cspfHops", fn := fun _ => fun
  | [d1, d2] => { results := [.lit (.bool false)], args := [d1, d2] }
  | _ => none }
def CspfHopsWrongFalsely : Prop := cspfHopsRow.holds Try.pinned (OpenSpec.ofChange cspfHopsWrong)

/- THE SECOND FORM. 'bulk': how many values and letters a reading holds, each counted each time it is reached (what is shared counts as often as it is met; a slice's spare places count too). A statement '..UptoSaid' is the law's where the arguments, and the package variables that the reading takes, are together of bulk at most 1048576: NARROWER than '..Said'. Prove '..Said' where nothing that the law and all that it calls make is longer than what came in: it says more and counts as full. Else prove '..UptoSaid'. A law counts once. -/
mutual
def uptoBulk {H : Type} : DataW H → Nat
  | .lit (.string bytes) => bytes.length + 1
  | .lit _ => 1
  | .nil => 1
  | .ptr d => uptoBulk d + 1
  | .slice elems spare => uptoBulkAll elems + uptoBulkAll spare + 1
  | .agg parts => uptoBulkAll parts + 1
  | .iface _ d => uptoBulk d + 1
  | .map entries => uptoBulkEntries entries + 1
  | .held _ => 1
def uptoBulkAll {H : Type} : List (DataW H) → Nat
  | [] => 0
  | d :: r => uptoBulk d + uptoBulkAll r
def uptoBulkEntries {H : Type} : List (Lit × DataW H) → Nat
  | [] => 0
  | x :: r => uptoBulkEntry x + uptoBulkEntries r
def uptoBulkEntry {H : Type} : Lit × DataW H → Nat
  | (.string bytes, d) => bytes.length + uptoBulk d + 1
  | (_, d) => uptoBulk d + 1
 end
def uptoSmall : (H : Type) → List (DataW H) → Bool := fun _ ds => decide (uptoBulkAll ds ≤ 1048576)
def OpenSpec.upto (s : _root_.Go.ChangeSpec) : _root_.Go.OpenSpec := { _root_.Go.OpenSpec.ofChange s with cond := some uptoSmall }

/-- 'viaductlaw11.SpfParts', WHERE WHAT IT READS IS OF BULK AT MOST 1048576: true; the input reads as it did. -/
def spfPartsUptoRow : OpenClaim := { program := "ytaeacdnefklakaa", sum := "e130fafce3795eafe376ca51f98c0a96962a1042bbd06e465df430195f4205c5", func := "viaduct/viaductlaw11.SpfParts", spec := "spfParts", unfollowed := true, recurses := true, plainKeys := false, apart := false, narrowed := true }
def SpfPartsUptoSaid : Prop := spfPartsUptoRow.holds Try.pinned (OpenSpec.upto spfPartsSpec)

/-- 'viaductlaw11.SpfReaches', WHERE WHAT IT READS IS OF BULK AT MOST 1048576: true; the input reads as it did. -/
def spfReachesUptoRow : OpenClaim := { program := "ytaeacdnefklakaa", sum := "e130fafce3795eafe376ca51f98c0a96962a1042bbd06e465df430195f4205c5", func := "viaduct/viaductlaw11.SpfReaches", spec := "spfReaches", unfollowed := true, recurses := true, plainKeys := false, apart := false, narrowed := true }
def SpfReachesUptoSaid : Prop := spfReachesUptoRow.holds Try.pinned (OpenSpec.upto spfReachesSpec)

/-- 'viaductlaw17.CspfFinds', WHERE WHAT IT READS IS OF BULK AT MOST 1048576: true; the input reads as it did. -/
def cspfFindsUptoRow : OpenClaim := { program := "ytaeacdnefklakaa", sum := "e130fafce3795eafe376ca51f98c0a96962a1042bbd06e465df430195f4205c5", func := "viaduct/viaductlaw17.CspfFinds", spec := "cspfFinds", inPlace := ["math/bits.Add64"], unfollowed := true, recurses := true, plainKeys := false, apart := false, narrowed := true }
def CspfFindsUptoSaid : Prop := cspfFindsUptoRow.holds Try.pinned (OpenSpec.upto cspfFindsSpec)

/-- 'viaductlaw17.CspfMeets', WHERE WHAT IT READS IS OF BULK AT MOST 1048576: true; the input reads as it did. -/
def cspfMeetsUptoRow : OpenClaim := { program := "ytaeacdnefklakaa", sum := "e130fafce3795eafe376ca51f98c0a96962a1042bbd06e465df430195f4205c5", func := "viaduct/viaductlaw17.CspfMeets", spec := "cspfMeets", inPlace := ["math/bits.Add64"], unfollowed := true, recurses := true, plainKeys := false, apart := false, narrowed := true }
def CspfMeetsUptoSaid : Prop := cspfMeetsUptoRow.holds Try.pinned (OpenSpec.upto cspfMeetsSpec)

/-- 'viaductlaw17.CspfNone', WHERE WHAT IT READS IS OF BULK AT MOST 1048576: true; the input reads as it did. -/
def cspfNoneUptoRow : OpenClaim := { program := "ytaeacdnefklakaa", sum := "e130fafce3795eafe376ca51f98c0a96962a1042bbd06e465df430195f4205c5", func := "viaduct/viaductlaw17.CspfNone", spec := "cspfNone", inPlace := ["math/bits.Add64"], unfollowed := true, recurses := true, plainKeys := false, apart := false, narrowed := true }
def CspfNoneUptoSaid : Prop := cspfNoneUptoRow.holds Try.pinned (OpenSpec.upto cspfNoneSpec)

/-- 'viaductlaw17.CspfHops', WHERE WHAT IT READS IS OF BULK AT MOST 1048576: true; the input reads as it did. -/
def cspfHopsUptoRow : OpenClaim := { program := "ytaeacdnefklakaa", sum := "e130fafce3795eafe376ca51f98c0a96962a1042bbd06e465df430195f4205c5", func := "viaduct/viaductlaw17.CspfHops", spec := "cspfHops", inPlace := ["math/bits.Add64"], unfollowed := true, recurses := true, plainKeys := false, apart := false, narrowed := true }
def CspfHopsUptoSaid : Prop := cspfHopsUptoRow.holds Try.pinned (OpenSpec.upto cspfHopsSpec)

end Rows
end Go.Proofs.Ytaeacdnefklakaa
