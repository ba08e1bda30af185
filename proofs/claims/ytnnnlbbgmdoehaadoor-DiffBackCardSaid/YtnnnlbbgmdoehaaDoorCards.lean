/-
  DERIVED. GIVEN WITH THE SEED: THE CARDS: each row of YtnnnlbbgmdoehaaDoorRows.lean that lists a variable, with what it lists TIED to the program's text (the seventh form; the later family's looks); each row that meets fmt, with fmt's text TOLD by the authors' own Lean function (tested against real Go, not proved from fmt's source: count such statements apart). THE CARD IS WHAT COUNTS. Prove the row's statement (the work); the ties are given (YtnnnlbbgmdoehaaDoorTie.lean); close each card by the builder's one call (the guide's Derived/Test/ToyasCard.lean, 'card_holds'). Laid BY PROGRAM, IN A SANDBOX (cutbox-door.mjs). By AI agents, Wed Nov 11 2026. No macro, syntax, notation, axiom, sorry.
-/
import Derived.Test.YtnnnlbbgmdoehaaDoorRows
import GoSem.ClaimSeven
namespace Go.Proofs.YtnnnlbbgmdoehaaDoor
namespace Rows

/-- THE TIED CARD OF 'hostlerlaw09.DiffReads'. -/
def diffReadsCard : Claim7 := { stood := { row := diffReadsRow, standIns := [], harness := (true, "ed14160d5b6b84a79379d43a4d03c818ae30a5b59d189722f22bb4c244ad07fe"), looks := false }, kinds := [], alts := [], laidByText := true, laidKinds := [.data, .pinned], laidTests := true, laidLooks := .later }
def DiffReadsCardSaid : Prop := Claim7.holds Tryd.pinned (.plain (OpenSpec.ofChange diffReadsSpec)) diffReadsCard

/-- THE TIED CARD OF 'hostlerlaw09.DiffBack'. -/
def diffBackCard : Claim7 := { stood := { row := diffBackRow, standIns := [], harness := (true, "ed14160d5b6b84a79379d43a4d03c818ae30a5b59d189722f22bb4c244ad07fe"), looks := false }, kinds := [], alts := [], laidByText := true, laidKinds := [.data, .pinned], laidTests := true, laidLooks := .later }
def DiffBackCardSaid : Prop := Claim7.holds Tryd.pinned (.plain (OpenSpec.ofChange diffBackSpec)) diffBackCard

/-- THE SECOND FORM's CARD OF 'hostlerlaw09.DiffReads'. -/
def diffReadsUptoCard : Claim7 := { stood := { row := diffReadsUptoRow, standIns := [], harness := (true, "ed14160d5b6b84a79379d43a4d03c818ae30a5b59d189722f22bb4c244ad07fe"), looks := false }, kinds := [], alts := [], laidByText := true, laidKinds := [.data, .pinned], laidTests := true, laidLooks := .later }
def DiffReadsUptoCardSaid : Prop := Claim7.holds Tryd.pinned (.plain (OpenSpec.upto diffReadsSpec)) diffReadsUptoCard

/-- THE SECOND FORM's CARD OF 'hostlerlaw09.DiffBack'. -/
def diffBackUptoCard : Claim7 := { stood := { row := diffBackUptoRow, standIns := [], harness := (true, "ed14160d5b6b84a79379d43a4d03c818ae30a5b59d189722f22bb4c244ad07fe"), looks := false }, kinds := [], alts := [], laidByText := true, laidKinds := [.data, .pinned], laidTests := true, laidLooks := .later }
def DiffBackUptoCardSaid : Prop := Claim7.holds Tryd.pinned (.plain (OpenSpec.upto diffBackSpec)) diffBackUptoCard
end Rows
end Go.Proofs.YtnnnlbbgmdoehaaDoor
