/-
  No cell of these rows narrows 'for every input' (looked for: loops, veiled, ifaces, maps, wideKeys, modest, calm, conditions, laid).
  DERIVED. THE GIVEN ROWS OF THIS SEAT. 3 by the template 'for every input the law returns true; each argument reads behind the call as it read before'; 0 by the template 'total and deterministic' (their statements: YtnnnlbbgmdoehaaTotals.lean).
  GIVEN WITH THE SEED: the statements are not yours to turn. If you find one false, say at which input.
  Laid BY PROGRAM, IN A SANDBOX (cutbox-rows.mjs): the forced cells as the released guide's own fill.sh prints them over the translation 34e6a5a24974953c… (all of the seat's roots in one cut). By AI agents, Wed Nov 11 2026. No macro, syntax, notation, axiom, sorry.
-/
import Derived.Test.YtnnnlbbgmdoehaaChecked
import GoSem.Claim
import GoSem.ClaimJoined
import GoSem.ClaimMapViews
import Derived.JoinedTies
import Derived.KernelRfl
namespace Go.Proofs.Ytnnnlbbgmdoehaa
/- THE CELL 'sum', in the pinned program and in every row, IS THE sha256 OF THE DUMP (.gsa) THAT YtnnnlbbgmdoehaaProg.lean LOADS. Nothing in Lean hashes anything: it is a label: what it is worth is what the hold of that sum in a sandbox is worth. -/
noncomputable def Try.pinned : Pinned := { name := "ytnnnlbbgmdoehaa", sum := "34e6a5a24974953cfd03051bb1af2c8bb297dad601fff1bdbf60f227dba7df2d", checked := Try.checked }
namespace Rows
def none {H : Type} : Left H := { results := [], args := [] }

/-- 'hostlerlaw09.DiffDiffs': WHATEVER THE INPUT: true; the input reads as it did. -/
def diffDiffsSpec : ChangeSpec := { name := "diffDiffs", fn := fun _ => fun
  | [d1, d2] => { results := [.lit (.bool true)], args := [d1, d2] }
  | _ => none }
def diffDiffsRow : OpenClaim := { program := "ytnnnlbbgmdoehaa", sum := "34e6a5a24974953cfd03051bb1af2c8bb297dad601fff1bdbf60f227dba7df2d", func := "hostler/hostlerlaw09.DiffDiffs", spec := "diffDiffs", inPlace := ["internal/bytealg.IndexByteString", "internal/bytealg.IndexString", "internal/abi.NoEscape", "internal/bytealg.MakeNoZero"], unfollowed := true, recurses := true, named := ["internal/bytealg.MaxLen"], apart := false }
def DiffDiffsSaid : Prop := diffDiffsRow.holds Try.pinned (OpenSpec.ofChange diffDiffsSpec)

/-- ITS FALSE NEIGHBOUR: 'it returns false'. Refute it at one input. -/
def diffDiffsWrong : ChangeSpec := { name := "diffDiffs", fn := fun _ => fun
  | [d1, d2] => { results := [.lit (.bool false)], args := [d1, d2] }
  | _ => none }
def DiffDiffsWrongFalsely : Prop := diffDiffsRow.holds Try.pinned (OpenSpec.ofChange diffDiffsWrong)

/-- 'hostlerlaw09.DiffParts': WHATEVER THE INPUT: true; the input reads as it did. -/
def diffPartsSpec : ChangeSpec := { name := "diffParts", fn := fun _ => fun
  | [d1, d2] => { results := [.lit (.bool true)], args := [d1, d2] }
  | _ => none }
def diffPartsRow : OpenClaim := { program := "ytnnnlbbgmdoehaa", sum := "34e6a5a24974953cfd03051bb1af2c8bb297dad601fff1bdbf60f227dba7df2d", func := "hostler/hostlerlaw09.DiffParts", spec := "diffParts", inPlace := ["internal/bytealg.IndexByteString", "internal/bytealg.IndexString", "internal/abi.NoEscape", "internal/bytealg.MakeNoZero"], unfollowed := true, recurses := true, named := ["internal/bytealg.MaxLen"], apart := false }
def DiffPartsSaid : Prop := diffPartsRow.holds Try.pinned (OpenSpec.ofChange diffPartsSpec)

/-- ITS FALSE NEIGHBOUR: 'it returns false'. Refute it at one input. -/
def diffPartsWrong : ChangeSpec := { name := "diffParts", fn := fun _ => fun
  | [d1, d2] => { results := [.lit (.bool false)], args := [d1, d2] }
  | _ => none }
def DiffPartsWrongFalsely : Prop := diffPartsRow.holds Try.pinned (OpenSpec.ofChange diffPartsWrong)

/-- 'hostlerlaw09.DiffTurned': WHATEVER THE INPUT: true; the input reads as it did. -/
def diffTurnedSpec : ChangeSpec := { name := "diffTurned", fn := fun _ => fun
  | [d1, d2] => { results := [.lit (.bool true)], args := [d1, d2] }
  | _ => none }
def diffTurnedRow : OpenClaim := { program := "ytnnnlbbgmdoehaa", sum := "34e6a5a24974953cfd03051bb1af2c8bb297dad601fff1bdbf60f227dba7df2d", func := "hostler/hostlerlaw09.DiffTurned", spec := "diffTurned", inPlace := ["internal/bytealg.IndexByteString", "internal/bytealg.IndexString", "internal/abi.NoEscape", "internal/bytealg.MakeNoZero"], unfollowed := true, recurses := true, named := ["internal/bytealg.MaxLen"], apart := false }
def DiffTurnedSaid : Prop := diffTurnedRow.holds Try.pinned (OpenSpec.ofChange diffTurnedSpec)

/-- ITS FALSE NEIGHBOUR: 'it returns false'. Refute it at one input. -/
def diffTurnedWrong : ChangeSpec := { name := "diffTurned", fn := fun _ => fun
  | [d1, d2] => { results := [.lit (.bool false)], args := [d1, d2] }
  | _ => none }
def DiffTurnedWrongFalsely : Prop := diffTurnedRow.holds Try.pinned (OpenSpec.ofChange diffTurnedWrong)

/- THE SECOND FORM. 'bulk': how many values and letters a reading holds, each counted each time it is reached (what is shared counts as often as it is met; a slice's spare places count too). A statement '..UptoSaid' is the law's where the arguments, and the package variables that the reading takes, are together of bulk at most 1048576: NARROWER than '..Said'. Prove '..Said' where nothing that the law and all that it calls make is longer than what came in: it says more and counts as full. Else prove '..UptoSaid'. A law counts once. -/
mutual
def uptoBulk {H : Type} : DataW H → Nat
  | .lit (.string bytes) => bytes.length + 1
  | .lit _ => 1
  | .nil => 1
  | .ptr d => uptoBulk d + 1
  | .slice elems spare => uptoBulkAll elems + uptoBulkAll spare + 1
  | .agg parts => uptoBulkAll parts + 1
  | .iface _ d => uptoBulk d + 1
  | .map entries => uptoBulkEntries entries + 1
  | .held _ => 1
def uptoBulkAll {H : Type} : List (DataW H) → Nat
  | [] => 0
  | d :: r => uptoBulk d + uptoBulkAll r
def uptoBulkEntries {H : Type} : List (Lit × DataW H) → Nat
  | [] => 0
  | x :: r => uptoBulkEntry x + uptoBulkEntries r
def uptoBulkEntry {H : Type} : Lit × DataW H → Nat
  | (.string bytes, d) => bytes.length + uptoBulk d + 1
  | (_, d) => uptoBulk d + 1
 end
def uptoSmall : (H : Type) → List (DataW H) → Bool := fun _ ds => decide (uptoBulkAll ds ≤ 1048576)
def OpenSpec.upto (s : _root_.Go.ChangeSpec) : _root_.Go.OpenSpec := { _root_.Go.OpenSpec.ofChange s with cond := some uptoSmall }

/-- 'hostlerlaw09.DiffDiffs', WHERE WHAT IT READS IS OF BULK AT MOST 1048576: true; the input reads as it did. -/
def diffDiffsUptoRow : OpenClaim := { program := "ytnnnlbbgmdoehaa", sum := "34e6a5a24974953cfd03051bb1af2c8bb297dad601fff1bdbf60f227dba7df2d", func := "hostler/hostlerlaw09.DiffDiffs", spec := "diffDiffs", inPlace := ["internal/bytealg.IndexByteString", "internal/bytealg.IndexString", "internal/abi.NoEscape", "internal/bytealg.MakeNoZero"], unfollowed := true, recurses := true, named := ["internal/bytealg.MaxLen"], apart := false, narrowed := true }
def DiffDiffsUptoSaid : Prop := diffDiffsUptoRow.holds Try.pinned (OpenSpec.upto diffDiffsSpec)

/-- 'hostlerlaw09.DiffParts', WHERE WHAT IT READS IS OF BULK AT MOST 1048576: true; the input reads as it did. -/
def diffPartsUptoRow : OpenClaim := { program := "ytnnnlbbgmdoehaa", sum := "34e6a5a24974953cfd03051bb1af2c8bb297dad601fff1bdbf60f227dba7df2d", func := "hostler/hostlerlaw09.DiffParts", spec := "diffParts", inPlace := ["internal/bytealg.IndexByteString", "internal/bytealg.IndexString", "internal/abi.NoEscape", "internal/bytealg.MakeNoZero"], unfollowed := true, recurses := true, named := ["internal/bytealg.MaxLen"], apart := false, narrowed := true }
def DiffPartsUptoSaid : Prop := diffPartsUptoRow.holds Try.pinned (OpenSpec.upto diffPartsSpec)

/-- 'hostlerlaw09.DiffTurned', WHERE WHAT IT READS IS OF BULK AT MOST 1048576: true; the input reads as it did. -/
def diffTurnedUptoRow : OpenClaim := { program := "ytnnnlbbgmdoehaa", sum := "34e6a5a24974953cfd03051bb1af2c8bb297dad601fff1bdbf60f227dba7df2d", func := "hostler/hostlerlaw09.DiffTurned", spec := "diffTurned", inPlace := ["internal/bytealg.IndexByteString", "internal/bytealg.IndexString", "internal/abi.NoEscape", "internal/bytealg.MakeNoZero"], unfollowed := true, recurses := true, named := ["internal/bytealg.MaxLen"], apart := false, narrowed := true }
def DiffTurnedUptoSaid : Prop := diffTurnedUptoRow.holds Try.pinned (OpenSpec.upto diffTurnedSpec)

end Rows
end Go.Proofs.Ytnnnlbbgmdoehaa
