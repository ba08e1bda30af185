/-
  DERIVED. GIVEN WITH THE SEED: THE CARDS: each row of YthalpaggcdpcbaaDoorRows.lean that lists a variable, with what it lists TIED to the program's text (the seventh form; the later family's looks); each row that meets fmt, with fmt's text TOLD by the authors' own Lean function (tested against real Go, not proved from fmt's source: count such statements apart). THE CARD IS WHAT COUNTS. Prove the row's statement (the work); the ties are given (YthalpaggcdpcbaaDoorTie.lean); close each card by the builder's one call (the guide's Derived/Test/ToyasCard.lean, 'card_holds'). Laid BY PROGRAM, IN A SANDBOX (cutbox-door.mjs). By AI agents, Wed Nov 11 2026. No macro, syntax, notation, axiom, sorry.
-/
import Derived.Test.YthalpaggcdpcbaaDoorRows
import GoSem.ClaimSeven
namespace Go.Proofs.YthalpaggcdpcbaaDoor
namespace Rows

/-- THE TIED CARD OF 'hostlerlaw21.TraceLines'. -/
def traceLinesCard : Claim7 := { stood := { row := traceLinesRow, standIns := [], harness := (true, "4474758d243631ee32febbcfdaa316194278982e16dfec602d620f3a6a2c1b58"), looks := true }, kinds := [], alts := [], laidByText := true, laidKinds := [.data, .data, .data], laidTests := true, laidLooks := .later }
def TraceLinesCardSaid : Prop := Claim7.holds Tryd.pinned (.plain (OpenSpec.ofChange traceLinesSpec)) traceLinesCard

/-- THE TIED CARD OF 'hostlerlaw21.TraceJoins'. -/
def traceJoinsCard : Claim7 := { stood := { row := traceJoinsRow, standIns := [], harness := (true, "4474758d243631ee32febbcfdaa316194278982e16dfec602d620f3a6a2c1b58"), looks := true }, kinds := [], alts := [], laidByText := true, laidKinds := [.data, .data, .data], laidTests := true, laidLooks := .later }
def TraceJoinsCardSaid : Prop := Claim7.holds Tryd.pinned (.plain (OpenSpec.ofChange traceJoinsSpec)) traceJoinsCard

/-- THE TIED CARD OF 'hostlerlaw21.TraceEscapes'. -/
def traceEscapesCard : Claim7 := { stood := { row := traceEscapesRow, standIns := [], harness := (true, "4474758d243631ee32febbcfdaa316194278982e16dfec602d620f3a6a2c1b58"), looks := true }, kinds := [], alts := [], laidByText := true, laidKinds := [.data, .data, .data], laidTests := true, laidLooks := .later }
def TraceEscapesCardSaid : Prop := Claim7.holds Tryd.pinned (.plain (OpenSpec.ofChange traceEscapesSpec)) traceEscapesCard

/-- THE TIED CARD OF 'hostlerlaw21.TraceOf'. -/
def traceOfCard : Claim7 := { stood := { row := traceOfRow, standIns := [], harness := (true, "4474758d243631ee32febbcfdaa316194278982e16dfec602d620f3a6a2c1b58"), looks := true }, kinds := [], alts := [], laidByText := true, laidKinds := [.data, .data, .data], laidTests := true, laidLooks := .later }
def TraceOfCardSaid : Prop := Claim7.holds Tryd.pinned (.plain (OpenSpec.ofChange traceOfSpec)) traceOfCard

/-- THE TIED CARD OF 'hostlerlaw21.TraceParses'. -/
def traceParsesCard : Claim7 := { stood := { row := traceParsesRow, standIns := [], harness := (true, "4474758d243631ee32febbcfdaa316194278982e16dfec602d620f3a6a2c1b58"), looks := true }, kinds := [], alts := [], laidByText := true, laidKinds := [.data, .data, .data, .sentinel, .sentinel], laidTests := true, laidLooks := .later }
def TraceParsesCardSaid : Prop := Claim7.holds Tryd.pinned (.plain (OpenSpec.ofChange traceParsesSpec)) traceParsesCard

/-- THE TIED CARD OF 'hostlerlaw21.TraceBack'. -/
def traceBackCard : Claim7 := { stood := { row := traceBackRow, standIns := [], harness := (true, "4474758d243631ee32febbcfdaa316194278982e16dfec602d620f3a6a2c1b58"), looks := true }, kinds := [], alts := [], laidByText := true, laidKinds := [.data, .data, .data, .sentinel, .sentinel], laidTests := true, laidLooks := .later }
def TraceBackCardSaid : Prop := Claim7.holds Tryd.pinned (.plain (OpenSpec.ofChange traceBackSpec)) traceBackCard

/-- THE SECOND FORM's CARD OF 'hostlerlaw21.TraceLines'. -/
def traceLinesUptoCard : Claim7 := { stood := { row := traceLinesUptoRow, standIns := [], harness := (true, "4474758d243631ee32febbcfdaa316194278982e16dfec602d620f3a6a2c1b58"), looks := true }, kinds := [], alts := [], laidByText := true, laidKinds := [.data, .data, .data], laidTests := true, laidLooks := .later }
def TraceLinesUptoCardSaid : Prop := Claim7.holds Tryd.pinned (.plain (OpenSpec.upto traceLinesSpec)) traceLinesUptoCard

/-- THE SECOND FORM's CARD OF 'hostlerlaw21.TraceJoins'. -/
def traceJoinsUptoCard : Claim7 := { stood := { row := traceJoinsUptoRow, standIns := [], harness := (true, "4474758d243631ee32febbcfdaa316194278982e16dfec602d620f3a6a2c1b58"), looks := true }, kinds := [], alts := [], laidByText := true, laidKinds := [.data, .data, .data], laidTests := true, laidLooks := .later }
def TraceJoinsUptoCardSaid : Prop := Claim7.holds Tryd.pinned (.plain (OpenSpec.upto traceJoinsSpec)) traceJoinsUptoCard

/-- THE SECOND FORM's CARD OF 'hostlerlaw21.TraceEscapes'. -/
def traceEscapesUptoCard : Claim7 := { stood := { row := traceEscapesUptoRow, standIns := [], harness := (true, "4474758d243631ee32febbcfdaa316194278982e16dfec602d620f3a6a2c1b58"), looks := true }, kinds := [], alts := [], laidByText := true, laidKinds := [.data, .data, .data], laidTests := true, laidLooks := .later }
def TraceEscapesUptoCardSaid : Prop := Claim7.holds Tryd.pinned (.plain (OpenSpec.upto traceEscapesSpec)) traceEscapesUptoCard

/-- THE SECOND FORM's CARD OF 'hostlerlaw21.TraceOf'. -/
def traceOfUptoCard : Claim7 := { stood := { row := traceOfUptoRow, standIns := [], harness := (true, "4474758d243631ee32febbcfdaa316194278982e16dfec602d620f3a6a2c1b58"), looks := true }, kinds := [], alts := [], laidByText := true, laidKinds := [.data, .data, .data], laidTests := true, laidLooks := .later }
def TraceOfUptoCardSaid : Prop := Claim7.holds Tryd.pinned (.plain (OpenSpec.upto traceOfSpec)) traceOfUptoCard

/-- THE SECOND FORM's CARD OF 'hostlerlaw21.TraceParses'. -/
def traceParsesUptoCard : Claim7 := { stood := { row := traceParsesUptoRow, standIns := [], harness := (true, "4474758d243631ee32febbcfdaa316194278982e16dfec602d620f3a6a2c1b58"), looks := true }, kinds := [], alts := [], laidByText := true, laidKinds := [.data, .data, .data, .sentinel, .sentinel], laidTests := true, laidLooks := .later }
def TraceParsesUptoCardSaid : Prop := Claim7.holds Tryd.pinned (.plain (OpenSpec.upto traceParsesSpec)) traceParsesUptoCard

/-- THE SECOND FORM's CARD OF 'hostlerlaw21.TraceBack'. -/
def traceBackUptoCard : Claim7 := { stood := { row := traceBackUptoRow, standIns := [], harness := (true, "4474758d243631ee32febbcfdaa316194278982e16dfec602d620f3a6a2c1b58"), looks := true }, kinds := [], alts := [], laidByText := true, laidKinds := [.data, .data, .data, .sentinel, .sentinel], laidTests := true, laidLooks := .later }
def TraceBackUptoCardSaid : Prop := Claim7.holds Tryd.pinned (.plain (OpenSpec.upto traceBackSpec)) traceBackUptoCard
end Rows
end Go.Proofs.YthalpaggcdpcbaaDoor
