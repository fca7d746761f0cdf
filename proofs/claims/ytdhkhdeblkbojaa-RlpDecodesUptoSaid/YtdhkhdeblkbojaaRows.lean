/-
  NARROWER THAN 'FOR EVERY INPUT', by the rows' own cells (each row's printed sentence says how): RlpRound: loops · RlpCut: loops · RlpEncodes: loops.
  DERIVED. THE GIVEN ROWS OF THIS SEAT. 11 by the template 'for every input the law returns true; each argument reads behind the call as it read before'; 0 by the template 'total and deterministic' (their statements: YtdhkhdeblkbojaaTotals.lean).
  GIVEN WITH THE SEED: the statements are not yours to turn. If you find one false, say at which input.
  Laid BY PROGRAM, IN A SANDBOX (cutbox-rows.mjs): the forced cells as the released guide's own fill.sh prints them over the translation 8f6bf7d644b3eeef… (all of the seat's roots in one cut). By AI agents, Wed Nov 11 2026. No macro, syntax, notation, axiom, sorry.
-/
import Derived.Test.YtdhkhdeblkbojaaChecked
import GoSem.Claim
import GoSem.ClaimJoined
import GoSem.ClaimMapViews
import Derived.JoinedTies
import Derived.KernelRfl
namespace Go.Proofs.Ytdhkhdeblkbojaa
/- THE CELL 'sum', in the pinned program and in every row, IS THE sha256 OF THE DUMP (.gsa) THAT YtdhkhdeblkbojaaProg.lean LOADS. Nothing in Lean hashes anything: it is a label: what it is worth is what the hold of that sum in a sandbox is worth. -/
noncomputable def Try.pinned : Pinned := { name := "ytdhkhdeblkbojaa", sum := "8f6bf7d644b3eeef4fb5c794d0fcd32ea3a81282927733d0255c5c022489e228", checked := Try.checked }
namespace Rows
def none {H : Type} : Left H := { results := [], args := [] }

/-- 'cairnlaw06.PathPacks': WHATEVER THE INPUT: true; the input reads as it did. -/
def pathPacksSpec : ChangeSpec := { name := "pathPacks", fn := fun _ => fun
  | [d1, d2] => { results := [.lit (.bool true)], args := [d1, d2] }
  | _ => none }
def pathPacksRow : OpenClaim := { program := "ytdhkhdeblkbojaa", sum := "8f6bf7d644b3eeef4fb5c794d0fcd32ea3a81282927733d0255c5c022489e228", func := "cairn/cairnlaw06.PathPacks", spec := "pathPacks", apart := false }
def PathPacksSaid : Prop := pathPacksRow.holds Try.pinned (OpenSpec.ofChange pathPacksSpec)

/-- ITS FALSE NEIGHBOUR: 'it returns false'. Refute it at one input. -/
def pathPacksWrong : ChangeSpec := { name := "pathPacks", fn := fun _ => fun
  | [d1, d2] => { results := [.lit (.bool false)], args := [d1, d2] }
  | _ => none }
def PathPacksWrongFalsely : Prop := pathPacksRow.holds Try.pinned (OpenSpec.ofChange pathPacksWrong)

/-- 'cairnlaw06.PathUnpacks': WHATEVER THE INPUT: true; the input reads as it did. -/
def pathUnpacksSpec : ChangeSpec := { name := "pathUnpacks", fn := fun _ => fun
  | [d] => { results := [.lit (.bool true)], args := [d] }
  | _ => none }
def pathUnpacksRow : OpenClaim := { program := "ytdhkhdeblkbojaa", sum := "8f6bf7d644b3eeef4fb5c794d0fcd32ea3a81282927733d0255c5c022489e228", func := "cairn/cairnlaw06.PathUnpacks", spec := "pathUnpacks", apart := false }
def PathUnpacksSaid : Prop := pathUnpacksRow.holds Try.pinned (OpenSpec.ofChange pathUnpacksSpec)

/-- ITS FALSE NEIGHBOUR: 'it returns false'. Refute it at one input. -/
def pathUnpacksWrong : ChangeSpec := { name := "pathUnpacks", fn := fun _ => fun
  | [d] => { results := [.lit (.bool false)], args := [d] }
  | _ => none }
def PathUnpacksWrongFalsely : Prop := pathUnpacksRow.holds Try.pinned (OpenSpec.ofChange pathUnpacksWrong)

/-- 'cairnlaw06.PathBack': WHATEVER THE INPUT: true; the input reads as it did. -/
def pathBackSpec : ChangeSpec := { name := "pathBack", fn := fun _ => fun
  | [d1, d2] => { results := [.lit (.bool true)], args := [d1, d2] }
  | _ => none }
def pathBackRow : OpenClaim := { program := "ytdhkhdeblkbojaa", sum := "8f6bf7d644b3eeef4fb5c794d0fcd32ea3a81282927733d0255c5c022489e228", func := "cairn/cairnlaw06.PathBack", spec := "pathBack", apart := false }
def PathBackSaid : Prop := pathBackRow.holds Try.pinned (OpenSpec.ofChange pathBackSpec)

/-- ITS FALSE NEIGHBOUR: 'it returns false'. Refute it at one input. -/
def pathBackWrong : ChangeSpec := { name := "pathBack", fn := fun _ => fun
  | [d1, d2] => { results := [.lit (.bool false)], args := [d1, d2] }
  | _ => none }
def PathBackWrongFalsely : Prop := pathBackRow.holds Try.pinned (OpenSpec.ofChange pathBackWrong)

/-- 'cairnlaw05.RlpRound': WHATEVER THE INPUT: true; the input reads as it did. -/
def rlpRoundSpec : ChangeSpec := { name := "rlpRound", fn := fun _ => fun
  | [d1, d2] => { results := [.lit (.bool true)], args := [d1, d2] }
  | _ => none }
def rlpRoundRow : OpenClaim := { program := "ytdhkhdeblkbojaa", sum := "8f6bf7d644b3eeef4fb5c794d0fcd32ea3a81282927733d0255c5c022489e228", func := "cairn/cairnlaw05.RlpRound", spec := "rlpRound", unfollowed := true, recurses := true, loops := true, apart := false }
def RlpRoundSaid : Prop := rlpRoundRow.holds Try.pinned (OpenSpec.ofChange rlpRoundSpec)

/-- ITS FALSE NEIGHBOUR: 'it returns false'. Refute it at one input. -/
def rlpRoundWrong : ChangeSpec := { name := "rlpRound", fn := fun _ => fun
  | [d1, d2] => { results := [.lit (.bool false)], args := [d1, d2] }
  | _ => none }
def RlpRoundWrongFalsely : Prop := rlpRoundRow.holds Try.pinned (OpenSpec.ofChange rlpRoundWrong)

/-- 'cairnlaw05.RlpLimits': WHATEVER THE INPUT: true; the input reads as it did. -/
def rlpLimitsSpec : ChangeSpec := { name := "rlpLimits", fn := fun _ => fun
  | [] => { results := [.lit (.bool true)], args := [] }
  | _ => none }
def rlpLimitsRow : OpenClaim := { program := "ytdhkhdeblkbojaa", sum := "8f6bf7d644b3eeef4fb5c794d0fcd32ea3a81282927733d0255c5c022489e228", func := "cairn/cairnlaw05.RlpLimits", spec := "rlpLimits", unfollowed := true, recurses := true, apart := false }
def RlpLimitsSaid : Prop := rlpLimitsRow.holds Try.pinned (OpenSpec.ofChange rlpLimitsSpec)

/-- ITS FALSE NEIGHBOUR: 'it returns false'. Refute it at one input. -/
def rlpLimitsWrong : ChangeSpec := { name := "rlpLimits", fn := fun _ => fun
  | [] => { results := [.lit (.bool false)], args := [] }
  | _ => none }
def RlpLimitsWrongFalsely : Prop := rlpLimitsRow.holds Try.pinned (OpenSpec.ofChange rlpLimitsWrong)

/-- 'cairnlaw05.RlpDecodes': WHATEVER THE INPUT: true; the input reads as it did. -/
def rlpDecodesSpec : ChangeSpec := { name := "rlpDecodes", fn := fun _ => fun
  | [d] => { results := [.lit (.bool true)], args := [d] }
  | _ => none }
def rlpDecodesRow : OpenClaim := { program := "ytdhkhdeblkbojaa", sum := "8f6bf7d644b3eeef4fb5c794d0fcd32ea3a81282927733d0255c5c022489e228", func := "cairn/cairnlaw05.RlpDecodes", spec := "rlpDecodes", unfollowed := true, recurses := true, apart := false }
def RlpDecodesSaid : Prop := rlpDecodesRow.holds Try.pinned (OpenSpec.ofChange rlpDecodesSpec)

/-- ITS FALSE NEIGHBOUR: 'it returns false'. Refute it at one input. -/
def rlpDecodesWrong : ChangeSpec := { name := "rlpDecodes", fn := fun _ => fun
  | [d] => { results := [.lit (.bool false)], args := [d] }
  | _ => none }
def RlpDecodesWrongFalsely : Prop := rlpDecodesRow.holds Try.pinned (OpenSpec.ofChange rlpDecodesWrong)

/-- 'cairnlaw05.RlpCut': WHATEVER THE INPUT: true; the input reads as it did. -/
def rlpCutSpec : ChangeSpec := { name := "rlpCut", fn := fun _ => fun
  | [d1, d2, d3] => { results := [.lit (.bool true)], args := [d1, d2, d3] }
  | _ => none }
def rlpCutRow : OpenClaim := { program := "ytdhkhdeblkbojaa", sum := "8f6bf7d644b3eeef4fb5c794d0fcd32ea3a81282927733d0255c5c022489e228", func := "cairn/cairnlaw05.RlpCut", spec := "rlpCut", unfollowed := true, recurses := true, loops := true, apart := false }
def RlpCutSaid : Prop := rlpCutRow.holds Try.pinned (OpenSpec.ofChange rlpCutSpec)

/-- ITS FALSE NEIGHBOUR: 'it returns false'. Refute it at one input. -/
def rlpCutWrong : ChangeSpec := { name := "rlpCut", fn := fun _ => fun
  | [d1, d2, d3] => { results := [.lit (.bool false)], args := [d1, d2, d3] }
  | _ => none }
def RlpCutWrongFalsely : Prop := rlpCutRow.holds Try.pinned (OpenSpec.ofChange rlpCutWrong)

/-- 'cairnlaw05.RlpEncodes': WHATEVER THE INPUT: true; the input reads as it did. -/
def rlpEncodesSpec : ChangeSpec := { name := "rlpEncodes", fn := fun _ => fun
  | [d1, d2] => { results := [.lit (.bool true)], args := [d1, d2] }
  | _ => none }
def rlpEncodesRow : OpenClaim := { program := "ytdhkhdeblkbojaa", sum := "8f6bf7d644b3eeef4fb5c794d0fcd32ea3a81282927733d0255c5c022489e228", func := "cairn/cairnlaw05.RlpEncodes", spec := "rlpEncodes", unfollowed := true, recurses := true, loops := true, apart := false }
def RlpEncodesSaid : Prop := rlpEncodesRow.holds Try.pinned (OpenSpec.ofChange rlpEncodesSpec)

/-- ITS FALSE NEIGHBOUR: 'it returns false'. Refute it at one input. -/
def rlpEncodesWrong : ChangeSpec := { name := "rlpEncodes", fn := fun _ => fun
  | [d1, d2] => { results := [.lit (.bool false)], args := [d1, d2] }
  | _ => none }
def RlpEncodesWrongFalsely : Prop := rlpEncodesRow.holds Try.pinned (OpenSpec.ofChange rlpEncodesWrong)

/-- 'cairnlaw15.ProofPacks': WHATEVER THE INPUT: true; the input reads as it did. -/
def proofPacksSpec : ChangeSpec := { name := "proofPacks", fn := fun _ => fun
  | [d1, d2] => { results := [.lit (.bool true)], args := [d1, d2] }
  | _ => none }
def proofPacksRow : OpenClaim := { program := "ytdhkhdeblkbojaa", sum := "8f6bf7d644b3eeef4fb5c794d0fcd32ea3a81282927733d0255c5c022489e228", func := "cairn/cairnlaw15.ProofPacks", spec := "proofPacks", unfollowed := true, recurses := true, apart := false }
def ProofPacksSaid : Prop := proofPacksRow.holds Try.pinned (OpenSpec.ofChange proofPacksSpec)

/-- ITS FALSE NEIGHBOUR: 'it returns false'. Refute it at one input. -/
def proofPacksWrong : ChangeSpec := { name := "proofPacks", fn := fun _ => fun
  | [d1, d2] => { results := [.lit (.bool false)], args := [d1, d2] }
  | _ => none }
def ProofPacksWrongFalsely : Prop := proofPacksRow.holds Try.pinned (OpenSpec.ofChange proofPacksWrong)

/-- 'cairnlaw15.ProofUnpacks': WHATEVER THE INPUT: true; the input reads as it did. -/
def proofUnpacksSpec : ChangeSpec := { name := "proofUnpacks", fn := fun _ => fun
  | [d] => { results := [.lit (.bool true)], args := [d] }
  | _ => none }
def proofUnpacksRow : OpenClaim := { program := "ytdhkhdeblkbojaa", sum := "8f6bf7d644b3eeef4fb5c794d0fcd32ea3a81282927733d0255c5c022489e228", func := "cairn/cairnlaw15.ProofUnpacks", spec := "proofUnpacks", unfollowed := true, recurses := true, apart := false }
def ProofUnpacksSaid : Prop := proofUnpacksRow.holds Try.pinned (OpenSpec.ofChange proofUnpacksSpec)

/-- ITS FALSE NEIGHBOUR: 'it returns false'. Refute it at one input. -/
def proofUnpacksWrong : ChangeSpec := { name := "proofUnpacks", fn := fun _ => fun
  | [d] => { results := [.lit (.bool false)], args := [d] }
  | _ => none }
def ProofUnpacksWrongFalsely : Prop := proofUnpacksRow.holds Try.pinned (OpenSpec.ofChange proofUnpacksWrong)

/-- 'cairnlaw15.ProofRound': WHATEVER THE INPUT: true; the input reads as it did. -/
def proofRoundSpec : ChangeSpec := { name := "proofRound", fn := fun _ => fun
  | [d1, d2] => { results := [.lit (.bool true)], args := [d1, d2] }
  | _ => none }
def proofRoundRow : OpenClaim := { program := "ytdhkhdeblkbojaa", sum := "8f6bf7d644b3eeef4fb5c794d0fcd32ea3a81282927733d0255c5c022489e228", func := "cairn/cairnlaw15.ProofRound", spec := "proofRound", unfollowed := true, recurses := true, apart := false }
def ProofRoundSaid : Prop := proofRoundRow.holds Try.pinned (OpenSpec.ofChange proofRoundSpec)

/-- ITS FALSE NEIGHBOUR: 'it returns false'. Refute it at one input. -/
def proofRoundWrong : ChangeSpec := { name := "proofRound", fn := fun _ => fun
  | [d1, d2] => { results := [.lit (.bool false)], args := [d1, d2] }
  | _ => none }
def ProofRoundWrongFalsely : Prop := proofRoundRow.holds Try.pinned (OpenSpec.ofChange proofRoundWrong)

/- THE SECOND FORM. 'bulk': how many values and letters a reading holds, each counted each time it is reached (what is shared counts as often as it is met; a slice's spare places count too). A statement '..UptoSaid' is the law's where the arguments, and the package variables that the reading takes, are together of bulk at most 1048576: NARROWER than '..Said'. Prove '..Said' where nothing that the law and all that it calls make is longer than what came in: it says more and counts as full. Else prove '..UptoSaid'. A law counts once. -/
mutual
def uptoBulk {H : Type} : DataW H → Nat
  | .lit (.string bytes) => bytes.length + 1
  | .lit _ => 1
  | .nil => 1
  | .ptr d => uptoBulk d + 1
  | .slice elems spare => uptoBulkAll elems + uptoBulkAll spare + 1
  | .agg parts => uptoBulkAll parts + 1
  | .iface _ d => uptoBulk d + 1
  | .map entries => uptoBulkEntries entries + 1
  | .held _ => 1
def uptoBulkAll {H : Type} : List (DataW H) → Nat
  | [] => 0
  | d :: r => uptoBulk d + uptoBulkAll r
def uptoBulkEntries {H : Type} : List (Lit × DataW H) → Nat
  | [] => 0
  | x :: r => uptoBulkEntry x + uptoBulkEntries r
def uptoBulkEntry {H : Type} : Lit × DataW H → Nat
  | (.string bytes, d) => bytes.length + uptoBulk d + 1
  | (_, d) => uptoBulk d + 1
 end
def uptoSmall : (H : Type) → List (DataW H) → Bool := fun _ ds => decide (uptoBulkAll ds ≤ 1048576)
def OpenSpec.upto (s : _root_.Go.ChangeSpec) : _root_.Go.OpenSpec := { _root_.Go.OpenSpec.ofChange s with cond := some uptoSmall }

/-- 'cairnlaw06.PathPacks', WHERE WHAT IT READS IS OF BULK AT MOST 1048576: true; the input reads as it did. -/
def pathPacksUptoRow : OpenClaim := { program := "ytdhkhdeblkbojaa", sum := "8f6bf7d644b3eeef4fb5c794d0fcd32ea3a81282927733d0255c5c022489e228", func := "cairn/cairnlaw06.PathPacks", spec := "pathPacks", apart := false, narrowed := true }
def PathPacksUptoSaid : Prop := pathPacksUptoRow.holds Try.pinned (OpenSpec.upto pathPacksSpec)

/-- 'cairnlaw06.PathUnpacks', WHERE WHAT IT READS IS OF BULK AT MOST 1048576: true; the input reads as it did. -/
def pathUnpacksUptoRow : OpenClaim := { program := "ytdhkhdeblkbojaa", sum := "8f6bf7d644b3eeef4fb5c794d0fcd32ea3a81282927733d0255c5c022489e228", func := "cairn/cairnlaw06.PathUnpacks", spec := "pathUnpacks", apart := false, narrowed := true }
def PathUnpacksUptoSaid : Prop := pathUnpacksUptoRow.holds Try.pinned (OpenSpec.upto pathUnpacksSpec)

/-- 'cairnlaw06.PathBack', WHERE WHAT IT READS IS OF BULK AT MOST 1048576: true; the input reads as it did. -/
def pathBackUptoRow : OpenClaim := { program := "ytdhkhdeblkbojaa", sum := "8f6bf7d644b3eeef4fb5c794d0fcd32ea3a81282927733d0255c5c022489e228", func := "cairn/cairnlaw06.PathBack", spec := "pathBack", apart := false, narrowed := true }
def PathBackUptoSaid : Prop := pathBackUptoRow.holds Try.pinned (OpenSpec.upto pathBackSpec)

/-- 'cairnlaw05.RlpRound', WHERE WHAT IT READS IS OF BULK AT MOST 1048576: true; the input reads as it did. -/
def rlpRoundUptoRow : OpenClaim := { program := "ytdhkhdeblkbojaa", sum := "8f6bf7d644b3eeef4fb5c794d0fcd32ea3a81282927733d0255c5c022489e228", func := "cairn/cairnlaw05.RlpRound", spec := "rlpRound", unfollowed := true, recurses := true, loops := true, apart := false, narrowed := true }
def RlpRoundUptoSaid : Prop := rlpRoundUptoRow.holds Try.pinned (OpenSpec.upto rlpRoundSpec)

/-- 'cairnlaw05.RlpLimits', WHERE WHAT IT READS IS OF BULK AT MOST 1048576: true; the input reads as it did. -/
def rlpLimitsUptoRow : OpenClaim := { program := "ytdhkhdeblkbojaa", sum := "8f6bf7d644b3eeef4fb5c794d0fcd32ea3a81282927733d0255c5c022489e228", func := "cairn/cairnlaw05.RlpLimits", spec := "rlpLimits", unfollowed := true, recurses := true, apart := false, narrowed := true }
def RlpLimitsUptoSaid : Prop := rlpLimitsUptoRow.holds Try.pinned (OpenSpec.upto rlpLimitsSpec)

/-- 'cairnlaw05.RlpDecodes', WHERE WHAT IT READS IS OF BULK AT MOST 1048576: true; the input reads as it did. -/
def rlpDecodesUptoRow : OpenClaim := { program := "ytdhkhdeblkbojaa", sum := "8f6bf7d644b3eeef4fb5c794d0fcd32ea3a81282927733d0255c5c022489e228", func := "cairn/cairnlaw05.RlpDecodes", spec := "rlpDecodes", unfollowed := true, recurses := true, apart := false, narrowed := true }
def RlpDecodesUptoSaid : Prop := rlpDecodesUptoRow.holds Try.pinned (OpenSpec.upto rlpDecodesSpec)

/-- 'cairnlaw05.RlpCut', WHERE WHAT IT READS IS OF BULK AT MOST 1048576: true; the input reads as it did. -/
def rlpCutUptoRow : OpenClaim := { program := "ytdhkhdeblkbojaa", sum := "8f6bf7d644b3eeef4fb5c794d0fcd32ea3a81282927733d0255c5c022489e228", func := "cairn/cairnlaw05.RlpCut", spec := "rlpCut", unfollowed := true, recurses := true, loops := true, apart := false, narrowed := true }
def RlpCutUptoSaid : Prop := rlpCutUptoRow.holds Try.pinned (OpenSpec.upto rlpCutSpec)

/-- 'cairnlaw05.RlpEncodes', WHERE WHAT IT READS IS OF BULK AT MOST 1048576: true; the input reads as it did. -/
def rlpEncodesUptoRow : OpenClaim := { program := "ytdhkhdeblkbojaa", sum := "8f6bf7d644b3eeef4fb5c794d0fcd32ea3a81282927733d0255c5c022489e228", func := "cairn/cairnlaw05.RlpEncodes", spec := "rlpEncodes", unfollowed := true, recurses := true, loops := true, apart := false, narrowed := true }
def RlpEncodesUptoSaid : Prop := rlpEncodesUptoRow.holds Try.pinned (OpenSpec.upto rlpEncodesSpec)

/-- 'cairnlaw15.ProofPacks', WHERE WHAT IT READS IS OF BULK AT MOST 1048576: true; the input reads as it did. -/
def proofPacksUptoRow : OpenClaim := { program := "ytdhkhdeblkbojaa", sum := "8f6bf7d644b3eeef4fb5c794d0fcd32ea3a81282927733d0255c5c022489e228", func := "cairn/cairnlaw15.ProofPacks", spec := "proofPacks", unfollowed := true, recurses := true, apart := false, narrowed := true }
def ProofPacksUptoSaid : Prop := proofPacksUptoRow.holds Try.pinned (OpenSpec.upto proofPacksSpec)

/-- 'cairnlaw15.ProofUnpacks', WHERE WHAT IT READS IS OF BULK AT MOST 1048576: true; the input reads as it did. -/
def proofUnpacksUptoRow : OpenClaim := { program := "ytdhkhdeblkbojaa", sum := "8f6bf7d644b3eeef4fb5c794d0fcd32ea3a81282927733d0255c5c022489e228", func := "cairn/cairnlaw15.ProofUnpacks", spec := "proofUnpacks", unfollowed := true, recurses := true, apart := false, narrowed := true }
def ProofUnpacksUptoSaid : Prop := proofUnpacksUptoRow.holds Try.pinned (OpenSpec.upto proofUnpacksSpec)

/-- 'cairnlaw15.ProofRound', WHERE WHAT IT READS IS OF BULK AT MOST 1048576: true; the input reads as it did. -/
def proofRoundUptoRow : OpenClaim := { program := "ytdhkhdeblkbojaa", sum := "8f6bf7d644b3eeef4fb5c794d0fcd32ea3a81282927733d0255c5c022489e228", func := "cairn/cairnlaw15.ProofRound", spec := "proofRound", unfollowed := true, recurses := true, apart := false, narrowed := true }
def ProofRoundUptoSaid : Prop := proofRoundUptoRow.holds Try.pinned (OpenSpec.upto proofRoundSpec)

end Rows
end Go.Proofs.Ytdhkhdeblkbojaa
