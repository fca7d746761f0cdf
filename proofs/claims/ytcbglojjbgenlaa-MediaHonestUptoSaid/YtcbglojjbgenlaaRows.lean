/-
  No cell of these rows narrows 'for every input' (looked for: loops, veiled, ifaces, maps, wideKeys, modest, calm, conditions, laid).
  DERIVED. THE GIVEN ROWS OF THIS SEAT. 3 by the template 'for every input the law returns true; each argument reads behind the call as it read before'; 0 by the template 'total and deterministic' (their statements: YtcbglojjbgenlaaTotals.lean).
  GIVEN WITH THE SEED: the statements are not yours to turn. If you find one false, say at which input.
  Laid BY PROGRAM, IN A SANDBOX (cutbox-rows.mjs): the forced cells as the released guide's own fill.sh prints them over the translation 15edd228702537f0… (all of the seat's roots in one cut). By AI agents, Wed Nov 11 2026. No macro, syntax, notation, axiom, sorry.
-/
import Derived.Test.YtcbglojjbgenlaaChecked
import GoSem.Claim
import GoSem.ClaimJoined
import GoSem.ClaimMapViews
import Derived.JoinedTies
import Derived.KernelRfl
namespace Go.Proofs.Ytcbglojjbgenlaa
/- THE CELL 'sum', in the pinned program and in every row, IS THE sha256 OF THE DUMP (.gsa) THAT YtcbglojjbgenlaaProg.lean LOADS. Nothing in Lean hashes anything: it is a label: what it is worth is what the hold of that sum in a sandbox is worth. -/
noncomputable def Try.pinned : Pinned := { name := "ytcbglojjbgenlaa", sum := "15edd228702537f01eac7c94ca751f3d9af30aa13cc6d8a8dd594f6131d03ed2", checked := Try.checked }
namespace Rows
def none {H : Type} : Left H := { results := [], args := [] }

/-- 'cairnlaw08.MediaNames': WHATEVER THE INPUT: true; the input reads as it did. -/
def mediaNamesSpec : ChangeSpec := { name := "mediaNames", fn := fun _ => fun
  | [] => { results := [.lit (.bool true)], args := [] }
  | _ => none }
def mediaNamesRow : OpenClaim := { program := "ytcbglojjbgenlaa", sum := "15edd228702537f01eac7c94ca751f3d9af30aa13cc6d8a8dd594f6131d03ed2", func := "cairn/cairnlaw08.MediaNames", spec := "mediaNames", inPlace := ["internal/bytealg.Compare"], unfollowed := true, recurses := true, plainKeys := false, apart := false }
def MediaNamesSaid : Prop := mediaNamesRow.holds Try.pinned (OpenSpec.ofChange mediaNamesSpec)

/-- ITS FALSE NEIGHBOUR: 'it returns false'. Refute it at one input. -/
def mediaNamesWrong : ChangeSpec := { name := "mediaNames", fn := fun _ => fun
  | [] => { results := [.lit (.bool false)], args := [] }
  | _ => none }
def MediaNamesWrongFalsely : Prop := mediaNamesRow.holds Try.pinned (OpenSpec.ofChange mediaNamesWrong)

/-- 'cairnlaw08.MediaHonest': WHATEVER THE INPUT: true; the input reads as it did. -/
def mediaHonestSpec : ChangeSpec := { name := "mediaHonest", fn := fun _ => fun
  | [d1, d2, d3, d4] => { results := [.lit (.bool true)], args := [d1, d2, d3, d4] }
  | _ => none }
def mediaHonestRow : OpenClaim := { program := "ytcbglojjbgenlaa", sum := "15edd228702537f01eac7c94ca751f3d9af30aa13cc6d8a8dd594f6131d03ed2", func := "cairn/cairnlaw08.MediaHonest", spec := "mediaHonest", inPlace := ["internal/bytealg.Compare"], unfollowed := true, recurses := true, plainKeys := false, apart := false }
def MediaHonestSaid : Prop := mediaHonestRow.holds Try.pinned (OpenSpec.ofChange mediaHonestSpec)

/-- ITS FALSE NEIGHBOUR: 'it returns false'. Refute it at one input. -/
def mediaHonestWrong : ChangeSpec := { name := "mediaHonest", fn := fun _ => fun
  | [d1, d2, d3, d4] => { results := [.lit (.bool false)], args := [d1, d2, d3, d4] }
  | _ => none }
def MediaHonestWrongFalsely : Prop := mediaHonestRow.holds Try.pinned (OpenSpec.ofChange mediaHonestWrong)

/-- 'cairnlaw08.MediaStrokes': WHATEVER THE INPUT: true; the input reads as it did. -/
def mediaStrokesSpec : ChangeSpec := { name := "mediaStrokes", fn := fun _ => fun
  | [d1, d2] => { results := [.lit (.bool true)], args := [d1, d2] }
  | _ => none }
def mediaStrokesRow : OpenClaim := { program := "ytcbglojjbgenlaa", sum := "15edd228702537f01eac7c94ca751f3d9af30aa13cc6d8a8dd594f6131d03ed2", func := "cairn/cairnlaw08.MediaStrokes", spec := "mediaStrokes", inPlace := ["internal/bytealg.Compare"], unfollowed := true, recurses := true, plainKeys := false, apart := false }
def MediaStrokesSaid : Prop := mediaStrokesRow.holds Try.pinned (OpenSpec.ofChange mediaStrokesSpec)

/-- ITS FALSE NEIGHBOUR: 'it returns false'. Refute it at one input. -/
def mediaStrokesWrong : ChangeSpec := { name := "mediaStrokes", fn := fun _ => fun
  | [d1, d2] => { results := [.lit (.bool false)], args := [d1, d2] }
  | _ => none }
def MediaStrokesWrongFalsely : Prop := mediaStrokesRow.holds Try.pinned (OpenSpec.ofChange mediaStrokesWrong)

/- THE SECOND FORM. 'bulk': how many values and letters a reading holds, each counted each time it is reached (what is shared counts as often as it is met; a slice's spare places count too). A statement '..UptoSaid' is the law's where the arguments, and the package variables that the reading takes, are together of bulk at most 1048576: NARROWER than '..Said'. Prove '..Said' where nothing that the law and all that it calls make is longer than what came in: it says more and counts as full. Else prove '..UptoSaid'. A law counts once. -/
mutual
def uptoBulk {H : Type} : DataW H → Nat
  | .lit (.string bytes) => bytes.length + 1
  | .lit _ => 1
  | .nil => 1
  | .ptr d => uptoBulk d + 1
  | .slice elems spare => uptoBulkAll elems + uptoBulkAll spare + 1
  | .agg parts => uptoBulkAll parts + 1
  | .iface _ d => uptoBulk d + 1
  | .map entries => uptoBulkEntries entries + 1
  | .held _ => 1
def uptoBulkAll {H : Type} : List (DataW H) → Nat
  | [] => 0
  | d :: r => uptoBulk d + uptoBulkAll r
def uptoBulkEntries {H : Type} : List (Lit × DataW H) → Nat
  | [] => 0
  | x :: r => uptoBulkEntry x + uptoBulkEntries r
def uptoBulkEntry {H : Type} : Lit × DataW H → Nat
  | (.string bytes, d) => bytes.length + uptoBulk d + 1
  | (_, d) => uptoBulk d + 1
 end
def uptoSmall : (H : Type) → List (DataW H) → Bool := fun _ ds => decide (uptoBulkAll ds ≤ 1048576)
def OpenSpec.upto (s : _root_.Go.ChangeSpec) : _root_.Go.OpenSpec := { _root_.Go.OpenSpec.ofChange s with cond := some uptoSmall }

/-- 'cairnlaw08.MediaNames', WHERE WHAT IT READS IS OF BULK AT MOST 1048576: true; the input reads as it did. -/
def mediaNamesUptoRow : OpenClaim := { program := "ytcbglojjbgenlaa", sum := "15edd228702537f01eac7c94ca751f3d9af30aa13cc6d8a8dd594f6131d03ed2", func := "cairn/cairnlaw08.MediaNames", spec := "mediaNames", inPlace := ["internal/bytealg.Compare"], unfollowed := true, recurses := true, plainKeys := false, apart := false, narrowed := true }
def MediaNamesUptoSaid : Prop := mediaNamesUptoRow.holds Try.pinned (OpenSpec.upto mediaNamesSpec)

/-- 'cairnlaw08.MediaHonest', WHERE WHAT IT READS IS OF BULK AT MOST 1048576: true; the input reads as it did. -/
def mediaHonestUptoRow : OpenClaim := { program := "ytcbglojjbgenlaa", sum := "15edd228702537f01eac7c94ca751f3d9af30aa13cc6d8a8dd594f6131d03ed2", func := "cairn/cairnlaw08.MediaHonest", spec := "mediaHonest", inPlace := ["internal/bytealg.Compare"], unfollowed := true, recurses := true, plainKeys := false, apart := false, narrowed := true }
def MediaHonestUptoSaid : Prop := mediaHonestUptoRow.holds Try.pinned (OpenSpec.upto mediaHonestSpec)

/-- 'cairnlaw08.MediaStrokes', WHERE WHAT IT READS IS OF BULK AT MOST 1048576: true; the input reads as it did. -/
def mediaStrokesUptoRow : OpenClaim := { program := "ytcbglojjbgenlaa", sum := "15edd228702537f01eac7c94ca751f3d9af30aa13cc6d8a8dd594f6131d03ed2", func := "cairn/cairnlaw08.MediaStrokes", spec := "mediaStrokes", inPlace := ["internal/bytealg.Compare"], unfollowed := true, recurses := true, plainKeys := false, apart := false, narrowed := true }
def MediaStrokesUptoSaid : Prop := mediaStrokesUptoRow.holds Try.pinned (OpenSpec.upto mediaStrokesSpec)

end Rows
end Go.Proofs.Ytcbglojjbgenlaa
