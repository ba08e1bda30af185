/-
  No cell of these rows narrows 'for every input' (looked for: loops, veiled, ifaces, maps, wideKeys, modest, calm, conditions, laid).
  DERIVED. THE GIVEN ROWS OF THIS SEAT. 5 by the template 'for every input the law returns true; each argument reads behind the call as it read before'; 0 by the template 'total and deterministic' (their statements: YtghjhcobmbobcaaTotals.lean).
  GIVEN WITH THE SEED: the statements are not yours to turn. If you find one false, say at which input.
  Laid BY PROGRAM, IN A SANDBOX (cutbox-rows.mjs): the forced cells as the released guide's own fill.sh prints them over the translation cee68a6c5c924541… (all of the seat's roots in one cut). By AI agents, Wed Nov 11 2026. No macro, syntax, notation, axiom, sorry.
-/
import Derived.Test.YtghjhcobmbobcaaChecked
import GoSem.Claim
import GoSem.ClaimJoined
import GoSem.ClaimMapViews
import Derived.JoinedTies
import Derived.KernelRfl
namespace Go.Proofs.Ytghjhcobmbobcaa
/- THE CELL 'sum', in the pinned program and in every row, IS THE sha256 OF THE DUMP (.gsa) THAT YtghjhcobmbobcaaProg.lean LOADS. Nothing in Lean hashes anything: it is a label: what it is worth is what the hold of that sum in a sandbox is worth. -/
noncomputable def Try.pinned : Pinned := { name := "ytghjhcobmbobcaa", sum := "cee68a6c5c924541cdfaee2d62df168b5b24fbb8863ddfe06f3f195ab3807f15", checked := Try.checked }
namespace Rows
def none {H : Type} : Left H := { results := [], args := [] }

/-- 'hostlerlaw22.WatchAudit': WHATEVER THE INPUT: true; the input reads as it did. -/
def watchAuditSpec : ChangeSpec := { name := "watchAudit", fn := fun _ => fun
  | [d1, d2] => { results := [.lit (.bool true)], args := [d1, d2] }
  | _ => none }
def watchAuditRow : OpenClaim := { program := "ytghjhcobmbobcaa", sum := "cee68a6c5c924541cdfaee2d62df168b5b24fbb8863ddfe06f3f195ab3807f15", func := "hostler/hostlerlaw22.WatchAudit", spec := "watchAudit", inPlace := ["internal/bytealg.IndexByteString", "internal/bytealg.IndexString"], unfollowed := true, recurses := true, named := ["internal/bytealg.MaxLen"], apart := false }
def WatchAuditSaid : Prop := watchAuditRow.holds Try.pinned (OpenSpec.ofChange watchAuditSpec)

/-- ITS FALSE NEIGHBOUR: 'it returns false'. Refute it at one input. -/
def watchAuditWrong : ChangeSpec := { name := "watchAudit", fn := fun _ => fun
  | [d1, d2] => { results := [.lit (.bool false)], args := [d1, d2] }
  | _ => none }
def WatchAuditWrongFalsely : Prop := watchAuditRow.holds Try.pinned (OpenSpec.ofChange watchAuditWrong)

/-- 'hostlerlaw22.WatchTexts': WHATEVER THE INPUT: true; the input reads as it did. -/
def watchTextsSpec : ChangeSpec := { name := "watchTexts", fn := fun _ => fun
  | [d1, d2] => { results := [.lit (.bool true)], args := [d1, d2] }
  | _ => none }
def watchTextsRow : OpenClaim := { program := "ytghjhcobmbobcaa", sum := "cee68a6c5c924541cdfaee2d62df168b5b24fbb8863ddfe06f3f195ab3807f15", func := "hostler/hostlerlaw22.WatchTexts", spec := "watchTexts", inPlace := ["internal/bytealg.IndexByteString", "internal/bytealg.IndexString"], unfollowed := true, recurses := true, named := ["internal/bytealg.MaxLen"], apart := false }
def WatchTextsSaid : Prop := watchTextsRow.holds Try.pinned (OpenSpec.ofChange watchTextsSpec)

/-- ITS FALSE NEIGHBOUR: 'it returns false'. Refute it at one input. -/
def watchTextsWrong : ChangeSpec := { name := "watchTexts", fn := fun _ => fun
  | [d1, d2] => { results := [.lit (.bool false)], args := [d1, d2] }
  | _ => none }
def WatchTextsWrongFalsely : Prop := watchTextsRow.holds Try.pinned (OpenSpec.ofChange watchTextsWrong)

/-- 'hostlerlaw22.WatchSees': WHATEVER THE INPUT: true; the input reads as it did. -/
def watchSeesSpec : ChangeSpec := { name := "watchSees", fn := fun _ => fun
  | [d] => { results := [.lit (.bool true)], args := [d] }
  | _ => none }
def watchSeesRow : OpenClaim := { program := "ytghjhcobmbobcaa", sum := "cee68a6c5c924541cdfaee2d62df168b5b24fbb8863ddfe06f3f195ab3807f15", func := "hostler/hostlerlaw22.WatchSees", spec := "watchSees", inPlace := ["internal/bytealg.IndexByteString", "internal/bytealg.IndexString"], unfollowed := true, recurses := true, named := ["internal/bytealg.MaxLen"], apart := false }
def WatchSeesSaid : Prop := watchSeesRow.holds Try.pinned (OpenSpec.ofChange watchSeesSpec)

/-- ITS FALSE NEIGHBOUR: 'it returns false'. Refute it at one input. -/
def watchSeesWrong : ChangeSpec := { name := "watchSees", fn := fun _ => fun
  | [d] => { results := [.lit (.bool false)], args := [d] }
  | _ => none }
def WatchSeesWrongFalsely : Prop := watchSeesRow.holds Try.pinned (OpenSpec.ofChange watchSeesWrong)

/-- 'hostlerlaw22.WatchRefuses': WHATEVER THE INPUT: true; the input reads as it did. -/
def watchRefusesSpec : ChangeSpec := { name := "watchRefuses", fn := fun _ => fun
  | [d] => { results := [.lit (.bool true)], args := [d] }
  | _ => none }
def watchRefusesRow : OpenClaim := { program := "ytghjhcobmbobcaa", sum := "cee68a6c5c924541cdfaee2d62df168b5b24fbb8863ddfe06f3f195ab3807f15", func := "hostler/hostlerlaw22.WatchRefuses", spec := "watchRefuses", inPlace := ["internal/bytealg.IndexByteString", "internal/bytealg.IndexString"], unfollowed := true, recurses := true, named := ["internal/bytealg.MaxLen"], apart := false }
def WatchRefusesSaid : Prop := watchRefusesRow.holds Try.pinned (OpenSpec.ofChange watchRefusesSpec)

/-- ITS FALSE NEIGHBOUR: 'it returns false'. Refute it at one input. -/
def watchRefusesWrong : ChangeSpec := { name := "watchRefuses", fn := fun _ => fun
  | [d] => { results := [.lit (.bool false)], args := [d] }
  | _ => none }
def WatchRefusesWrongFalsely : Prop := watchRefusesRow.holds Try.pinned (OpenSpec.ofChange watchRefusesWrong)

/-- 'hostlerlaw22.WatchNil': WHATEVER THE INPUT: true; the input reads as it did. -/
def watchNilSpec : ChangeSpec := { name := "watchNil", fn := fun _ => fun
  | [d] => { results := [.lit (.bool true)], args := [d] }
  | _ => none }
def watchNilRow : OpenClaim := { program := "ytghjhcobmbobcaa", sum := "cee68a6c5c924541cdfaee2d62df168b5b24fbb8863ddfe06f3f195ab3807f15", func := "hostler/hostlerlaw22.WatchNil", spec := "watchNil", inPlace := ["internal/bytealg.IndexByteString", "internal/bytealg.IndexString"], unfollowed := true, recurses := true, named := ["internal/bytealg.MaxLen"], apart := false }
def WatchNilSaid : Prop := watchNilRow.holds Try.pinned (OpenSpec.ofChange watchNilSpec)

/-- ITS FALSE NEIGHBOUR: 'it returns false'. Refute it at one input. -/
def watchNilWrong : ChangeSpec := { name := "watchNil", fn := fun _ => fun
  | [d] => { results := [.lit (.bool false)], args := [d] }
  | _ => none }
def WatchNilWrongFalsely : Prop := watchNilRow.holds Try.pinned (OpenSpec.ofChange watchNilWrong)

/- THE SECOND FORM. 'bulk': how many values and letters a reading holds, each counted each time it is reached (what is shared counts as often as it is met; a slice's spare places count too). A statement '..UptoSaid' is the law's where the arguments, and the package variables that the reading takes, are together of bulk at most 1048576: NARROWER than '..Said'. Prove '..Said' where nothing that the law and all that it calls make is longer than what came in: it says more and counts as full. Else prove '..UptoSaid'. A law counts once. -/
mutual
def uptoBulk {H : Type} : DataW H → Nat
  | .lit (.string bytes) => bytes.length + 1
  | .lit _ => 1
  | .nil => 1
  | .ptr d => uptoBulk d + 1
  | .slice elems spare => uptoBulkAll elems + uptoBulkAll spare + 1
  | .agg parts => uptoBulkAll parts + 1
  | .iface _ d => uptoBulk d + 1
  | .map entries => uptoBulkEntries entries + 1
  | .held _ => 1
def uptoBulkAll {H : Type} : List (DataW H) → Nat
  | [] => 0
  | d :: r => uptoBulk d + uptoBulkAll r
def uptoBulkEntries {H : Type} : List (Lit × DataW H) → Nat
  | [] => 0
  | x :: r => uptoBulkEntry x + uptoBulkEntries r
def uptoBulkEntry {H : Type} : Lit × DataW H → Nat
  | (.string bytes, d) => bytes.length + uptoBulk d + 1
  | (_, d) => uptoBulk d + 1
 end
def uptoSmall : (H : Type) → List (DataW H) → Bool := fun _ ds => decide (uptoBulkAll ds ≤ 1048576)
def OpenSpec.upto (s : _root_.Go.ChangeSpec) : _root_.Go.OpenSpec := { _root_.Go.OpenSpec.ofChange s with cond := some uptoSmall }

/-- 'hostlerlaw22.WatchAudit', WHERE WHAT IT READS IS OF BULK AT MOST 1048576: true; the input reads as it did. -/
def watchAuditUptoRow : OpenClaim := { program := "ytghjhcobmbobcaa", sum := "cee68a6c5c924541cdfaee2d62df168b5b24fbb8863ddfe06f3f195ab3807f15", func := "hostler/hostlerlaw22.WatchAudit", spec := "watchAudit", inPlace := ["internal/bytealg.IndexByteString", "internal/bytealg.IndexString"], unfollowed := true, recurses := true, named := ["internal/bytealg.MaxLen"], apart := false, narrowed := true }
def WatchAuditUptoSaid : Prop := watchAuditUptoRow.holds Try.pinned (OpenSpec.upto watchAuditSpec)

/-- 'hostlerlaw22.WatchTexts', WHERE WHAT IT READS IS OF BULK AT MOST 1048576: true; the input reads as it did. -/
def watchTextsUptoRow : OpenClaim := { program := "ytghjhcobmbobcaa", sum := "cee68a6c5c924541cdfaee2d62df168b5b24fbb8863ddfe06f3f195ab3807f15", func := "hostler/hostlerlaw22.WatchTexts", spec := "watchTexts", inPlace := ["internal/bytealg.IndexByteString", "internal/bytealg.IndexString"], unfollowed := true, recurses := true, named := ["internal/bytealg.MaxLen"], apart := false, narrowed := true }
def WatchTextsUptoSaid : Prop := watchTextsUptoRow.holds Try.pinned (OpenSpec.upto watchTextsSpec)

/-- 'hostlerlaw22.WatchSees', WHERE WHAT IT READS IS OF BULK AT MOST 1048576: true; the input reads as it did. -/
def watchSeesUptoRow : OpenClaim := { program := "ytghjhcobmbobcaa", sum := "cee68a6c5c924541cdfaee2d62df168b5b24fbb8863ddfe06f3f195ab3807f15", func := "hostler/hostlerlaw22.WatchSees", spec := "watchSees", inPlace := ["internal/bytealg.IndexByteString", "internal/bytealg.IndexString"], unfollowed := true, recurses := true, named := ["internal/bytealg.MaxLen"], apart := false, narrowed := true }
def WatchSeesUptoSaid : Prop := watchSeesUptoRow.holds Try.pinned (OpenSpec.upto watchSeesSpec)

/-- 'hostlerlaw22.WatchRefuses', WHERE WHAT IT READS IS OF BULK AT MOST 1048576: true; the input reads as it did. -/
def watchRefusesUptoRow : OpenClaim := { program := "ytghjhcobmbobcaa", sum := "cee68a6c5c924541cdfaee2d62df168b5b24fbb8863ddfe06f3f195ab3807f15", func := "hostler/hostlerlaw22.WatchRefuses", spec := "watchRefuses", inPlace := ["internal/bytealg.IndexByteString", "internal/bytealg.IndexString"], unfollowed := true, recurses := true, named := ["internal/bytealg.MaxLen"], apart := false, narrowed := true }
def WatchRefusesUptoSaid : Prop := watchRefusesUptoRow.holds Try.pinned (OpenSpec.upto watchRefusesSpec)

/-- 'hostlerlaw22.WatchNil', WHERE WHAT IT READS IS OF BULK AT MOST 1048576: true; the input reads as it did. -/
def watchNilUptoRow : OpenClaim := { program := "ytghjhcobmbobcaa", sum := "cee68a6c5c924541cdfaee2d62df168b5b24fbb8863ddfe06f3f195ab3807f15", func := "hostler/hostlerlaw22.WatchNil", spec := "watchNil", inPlace := ["internal/bytealg.IndexByteString", "internal/bytealg.IndexString"], unfollowed := true, recurses := true, named := ["internal/bytealg.MaxLen"], apart := false, narrowed := true }
def WatchNilUptoSaid : Prop := watchNilUptoRow.holds Try.pinned (OpenSpec.upto watchNilSpec)

end Rows
end Go.Proofs.Ytghjhcobmbobcaa
