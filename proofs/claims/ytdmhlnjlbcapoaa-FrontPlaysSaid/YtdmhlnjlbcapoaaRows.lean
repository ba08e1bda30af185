/-
  No cell of these rows narrows 'for every input' (looked for: loops, veiled, ifaces, maps, wideKeys, modest, calm, conditions, laid).
  DERIVED. THE GIVEN ROWS OF THIS SEAT. 6 by the template 'for every input the law returns true; each argument reads behind the call as it read before'; 0 by the template 'total and deterministic' (their statements: YtdmhlnjlbcapoaaTotals.lean).
  GIVEN WITH THE SEED: the statements are not yours to turn. If you find one false, say at which input.
  Laid BY PROGRAM, IN A SANDBOX (cutbox-rows.mjs): the forced cells as the released guide's own fill.sh prints them over the translation 083e660c490e4edd… (all of the seat's roots in one cut). By AI agents, Wed Nov 11 2026. No macro, syntax, notation, axiom, sorry.
-/
import Derived.Test.YtdmhlnjlbcapoaaChecked
import GoSem.Claim
import GoSem.ClaimJoined
import GoSem.ClaimMapViews
import Derived.JoinedTies
import Derived.KernelRfl
namespace Go.Proofs.Ytdmhlnjlbcapoaa
/- THE CELL 'sum', in the pinned program and in every row, IS THE sha256 OF THE DUMP (.gsa) THAT YtdmhlnjlbcapoaaProg.lean LOADS. Nothing in Lean hashes anything: it is a label: what it is worth is what the hold of that sum in a sandbox is worth. -/
noncomputable def Try.pinned : Pinned := { name := "ytdmhlnjlbcapoaa", sum := "083e660c490e4edd7e7bef52a9908f5efbe9d34b24becb7ae9d470ae89f57d3c", checked := Try.checked }
namespace Rows
def none {H : Type} : Left H := { results := [], args := [] }

/-- 'hostlerlaw15.FrontRounds': WHATEVER THE INPUT: true; the input reads as it did. -/
def frontRoundsSpec : ChangeSpec := { name := "frontRounds", fn := fun _ => fun
  | [d1, d2] => { results := [.lit (.bool true)], args := [d1, d2] }
  | _ => none }
def frontRoundsRow : OpenClaim := { program := "ytdmhlnjlbcapoaa", sum := "083e660c490e4edd7e7bef52a9908f5efbe9d34b24becb7ae9d470ae89f57d3c", func := "hostler/hostlerlaw15.FrontRounds", spec := "frontRounds", apart := false }
def FrontRoundsSaid : Prop := frontRoundsRow.holds Try.pinned (OpenSpec.ofChange frontRoundsSpec)

/-- ITS FALSE NEIGHBOUR: 'it returns false'. Refute it at one input. -/
def frontRoundsWrong : ChangeSpec := { name := "frontRounds", fn := fun _ => fun
  | [d1, d2] => { results := [.lit (.bool false)], args := [d1, d2] }
  | _ => none }
def FrontRoundsWrongFalsely : Prop := frontRoundsRow.holds Try.pinned (OpenSpec.ofChange frontRoundsWrong)

/-- 'hostlerlaw15.FrontOn': WHATEVER THE INPUT: true; the input reads as it did. -/
def frontOnSpec : ChangeSpec := { name := "frontOn", fn := fun _ => fun
  | [d1, d2] => { results := [.lit (.bool true)], args := [d1, d2] }
  | _ => none }
def frontOnRow : OpenClaim := { program := "ytdmhlnjlbcapoaa", sum := "083e660c490e4edd7e7bef52a9908f5efbe9d34b24becb7ae9d470ae89f57d3c", func := "hostler/hostlerlaw15.FrontOn", spec := "frontOn", apart := false }
def FrontOnSaid : Prop := frontOnRow.holds Try.pinned (OpenSpec.ofChange frontOnSpec)

/-- ITS FALSE NEIGHBOUR: 'it returns false'. Refute it at one input. -/
def frontOnWrong : ChangeSpec := { name := "frontOn", fn := fun _ => fun
  | [d1, d2] => { results := [.lit (.bool false)], args := [d1, d2] }
  | _ => none }
def FrontOnWrongFalsely : Prop := frontOnRow.holds Try.pinned (OpenSpec.ofChange frontOnWrong)

/-- 'hostlerlaw15.FrontPlays': WHATEVER THE INPUT: true; the input reads as it did. -/
def frontPlaysSpec : ChangeSpec := { name := "frontPlays", fn := fun _ => fun
  | [d] => { results := [.lit (.bool true)], args := [d] }
  | _ => none }
def frontPlaysRow : OpenClaim := { program := "ytdmhlnjlbcapoaa", sum := "083e660c490e4edd7e7bef52a9908f5efbe9d34b24becb7ae9d470ae89f57d3c", func := "hostler/hostlerlaw15.FrontPlays", spec := "frontPlays", apart := false }
def FrontPlaysSaid : Prop := frontPlaysRow.holds Try.pinned (OpenSpec.ofChange frontPlaysSpec)

/-- ITS FALSE NEIGHBOUR: 'it returns false'. Refute it at one input. -/
def frontPlaysWrong : ChangeSpec := { name := "frontPlays", fn := fun _ => fun
  | [d] => { results := [.lit (.bool false)], args := [d] }
  | _ => none }
def FrontPlaysWrongFalsely : Prop := frontPlaysRow.holds Try.pinned (OpenSpec.ofChange frontPlaysWrong)

/-- 'hostlerlaw15.FrontPasses': WHATEVER THE INPUT: true; the input reads as it did. -/
def frontPassesSpec : ChangeSpec := { name := "frontPasses", fn := fun _ => fun
  | [d] => { results := [.lit (.bool true)], args := [d] }
  | _ => none }
def frontPassesRow : OpenClaim := { program := "ytdmhlnjlbcapoaa", sum := "083e660c490e4edd7e7bef52a9908f5efbe9d34b24becb7ae9d470ae89f57d3c", func := "hostler/hostlerlaw15.FrontPasses", spec := "frontPasses", apart := false }
def FrontPassesSaid : Prop := frontPassesRow.holds Try.pinned (OpenSpec.ofChange frontPassesSpec)

/-- ITS FALSE NEIGHBOUR: 'it returns false'. Refute it at one input. -/
def frontPassesWrong : ChangeSpec := { name := "frontPasses", fn := fun _ => fun
  | [d] => { results := [.lit (.bool false)], args := [d] }
  | _ => none }
def FrontPassesWrongFalsely : Prop := frontPassesRow.holds Try.pinned (OpenSpec.ofChange frontPassesWrong)

/-- 'hostlerlaw15.FrontHeld': WHATEVER THE INPUT: true; the input reads as it did. -/
def frontHeldSpec : ChangeSpec := { name := "frontHeld", fn := fun _ => fun
  | [d] => { results := [.lit (.bool true)], args := [d] }
  | _ => none }
def frontHeldRow : OpenClaim := { program := "ytdmhlnjlbcapoaa", sum := "083e660c490e4edd7e7bef52a9908f5efbe9d34b24becb7ae9d470ae89f57d3c", func := "hostler/hostlerlaw15.FrontHeld", spec := "frontHeld", apart := false }
def FrontHeldSaid : Prop := frontHeldRow.holds Try.pinned (OpenSpec.ofChange frontHeldSpec)

/-- ITS FALSE NEIGHBOUR: 'it returns false'. Refute it at one input. -/
def frontHeldWrong : ChangeSpec := { name := "frontHeld", fn := fun _ => fun
  | [d] => { results := [.lit (.bool false)], args := [d] }
  | _ => none }
def FrontHeldWrongFalsely : Prop := frontHeldRow.holds Try.pinned (OpenSpec.ofChange frontHeldWrong)

/-- 'hostlerlaw15.FrontNil': WHATEVER THE INPUT: true; the input reads as it did. -/
def frontNilSpec : ChangeSpec := { name := "frontNil", fn := fun _ => fun
  | [d1, d2] => { results := [.lit (.bool true)], args := [d1, d2] }
  | _ => none }
def frontNilRow : OpenClaim := { program := "ytdmhlnjlbcapoaa", sum := "083e660c490e4edd7e7bef52a9908f5efbe9d34b24becb7ae9d470ae89f57d3c", func := "hostler/hostlerlaw15.FrontNil", spec := "frontNil", apart := false }
def FrontNilSaid : Prop := frontNilRow.holds Try.pinned (OpenSpec.ofChange frontNilSpec)

/-- ITS FALSE NEIGHBOUR: 'it returns false'. Refute it at one input. -/
def frontNilWrong : ChangeSpec := { name := "frontNil", fn := fun _ => fun
  | [d1, d2] => { results := [.lit (.bool false)], args := [d1, d2] }
  | _ => none }
def FrontNilWrongFalsely : Prop := frontNilRow.holds Try.pinned (OpenSpec.ofChange frontNilWrong)

/- THE SECOND FORM. 'bulk': how many values and letters a reading holds, each counted each time it is reached (what is shared counts as often as it is met; a slice's spare places count too). A statement '..UptoSaid' is the law's where the arguments, and the package variables that the reading takes, are together of bulk at most 1048576: NARROWER than '..Said'. Prove '..Said' where nothing that the law and all that it calls make is longer than what came in: it says more and counts as full. Else prove '..UptoSaid'. A law counts once. -/
mutual
def uptoBulk {H : Type} : DataW H → Nat
  | .lit (.string bytes) => bytes.length + 1
  | .lit _ => 1
  | .nil => 1
  | .ptr d => uptoBulk d + 1
  | .slice elems spare => uptoBulkAll elems + uptoBulkAll spare + 1
  | .agg parts => uptoBulkAll parts + 1
  | .iface _ d => uptoBulk d + 1
  | .map entries => uptoBulkEntries entries + 1
  | .held _ => 1
def uptoBulkAll {H : Type} : List (DataW H) → Nat
  | [] => 0
  | d :: r => uptoBulk d + uptoBulkAll r
def uptoBulkEntries {H : Type} : List (Lit × DataW H) → Nat
  | [] => 0
  | x :: r => uptoBulkEntry x + uptoBulkEntries r
def uptoBulkEntry {H : Type} : Lit × DataW H → Nat
  | (.string bytes, d) => bytes.length + uptoBulk d + 1
  | (_, d) => uptoBulk d + 1
 end
def uptoSmall : (H : Type) → List (DataW H) → Bool := fun _ ds => decide (uptoBulkAll ds ≤ 1048576)
def OpenSpec.upto (s : _root_.Go.ChangeSpec) : _root_.Go.OpenSpec := { _root_.Go.OpenSpec.ofChange s with cond := some uptoSmall }

/-- 'hostlerlaw15.FrontRounds', WHERE WHAT IT READS IS OF BULK AT MOST 1048576: true; the input reads as it did. -/
def frontRoundsUptoRow : OpenClaim := { program := "ytdmhlnjlbcapoaa", sum := "083e660c490e4edd7e7bef52a9908f5efbe9d34b24becb7ae9d470ae89f57d3c", func := "hostler/hostlerlaw15.FrontRounds", spec := "frontRounds", apart := false, narrowed := true }
def FrontRoundsUptoSaid : Prop := frontRoundsUptoRow.holds Try.pinned (OpenSpec.upto frontRoundsSpec)

/-- 'hostlerlaw15.FrontOn', WHERE WHAT IT READS IS OF BULK AT MOST 1048576: true; the input reads as it did. -/
def frontOnUptoRow : OpenClaim := { program := "ytdmhlnjlbcapoaa", sum := "083e660c490e4edd7e7bef52a9908f5efbe9d34b24becb7ae9d470ae89f57d3c", func := "hostler/hostlerlaw15.FrontOn", spec := "frontOn", apart := false, narrowed := true }
def FrontOnUptoSaid : Prop := frontOnUptoRow.holds Try.pinned (OpenSpec.upto frontOnSpec)

/-- 'hostlerlaw15.FrontPlays', WHERE WHAT IT READS IS OF BULK AT MOST 1048576: true; the input reads as it did. -/
def frontPlaysUptoRow : OpenClaim := { program := "ytdmhlnjlbcapoaa", sum := "083e660c490e4edd7e7bef52a9908f5efbe9d34b24becb7ae9d470ae89f57d3c", func := "hostler/hostlerlaw15.FrontPlays", spec := "frontPlays", apart := false, narrowed := true }
def FrontPlaysUptoSaid : Prop := frontPlaysUptoRow.holds Try.pinned (OpenSpec.upto frontPlaysSpec)

/-- 'hostlerlaw15.FrontPasses', WHERE WHAT IT READS IS OF BULK AT MOST 1048576: true; the input reads as it did. -/
def frontPassesUptoRow : OpenClaim := { program := "ytdmhlnjlbcapoaa", sum := "083e660c490e4edd7e7bef52a9908f5efbe9d34b24becb7ae9d470ae89f57d3c", func := "hostler/hostlerlaw15.FrontPasses", spec := "frontPasses", apart := false, narrowed := true }
def FrontPassesUptoSaid : Prop := frontPassesUptoRow.holds Try.pinned (OpenSpec.upto frontPassesSpec)

/-- 'hostlerlaw15.FrontHeld', WHERE WHAT IT READS IS OF BULK AT MOST 1048576: true; the input reads as it did. -/
def frontHeldUptoRow : OpenClaim := { program := "ytdmhlnjlbcapoaa", sum := "083e660c490e4edd7e7bef52a9908f5efbe9d34b24becb7ae9d470ae89f57d3c", func := "hostler/hostlerlaw15.FrontHeld", spec := "frontHeld", apart := false, narrowed := true }
def FrontHeldUptoSaid : Prop := frontHeldUptoRow.holds Try.pinned (OpenSpec.upto frontHeldSpec)

/-- 'hostlerlaw15.FrontNil', WHERE WHAT IT READS IS OF BULK AT MOST 1048576: true; the input reads as it did. -/
def frontNilUptoRow : OpenClaim := { program := "ytdmhlnjlbcapoaa", sum := "083e660c490e4edd7e7bef52a9908f5efbe9d34b24becb7ae9d470ae89f57d3c", func := "hostler/hostlerlaw15.FrontNil", spec := "frontNil", apart := false, narrowed := true }
def FrontNilUptoSaid : Prop := frontNilUptoRow.holds Try.pinned (OpenSpec.upto frontNilSpec)

end Rows
end Go.Proofs.Ytdmhlnjlbcapoaa
