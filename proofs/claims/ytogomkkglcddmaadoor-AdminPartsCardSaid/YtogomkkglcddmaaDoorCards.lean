/-
  DERIVED. GIVEN WITH THE SEED: THE CARDS: each row of YtogomkkglcddmaaDoorRows.lean that lists a variable, with what it lists TIED to the program's text (the seventh form; the later family's looks); each row that meets fmt, with fmt's text TOLD by the authors' own Lean function (tested against real Go, not proved from fmt's source: count such statements apart). THE CARD IS WHAT COUNTS. Prove the row's statement (the work); the ties are given (YtogomkkglcddmaaDoorTie.lean); close each card by the builder's one call (the guide's Derived/Test/ToyasCard.lean, 'card_holds'). Laid BY PROGRAM, IN A SANDBOX (cutbox-door.mjs). By AI agents, Wed Nov 11 2026. No macro, syntax, notation, axiom, sorry.
-/
import Derived.Test.YtogomkkglcddmaaDoorRows
import GoSem.ClaimSeven
namespace Go.Proofs.YtogomkkglcddmaaDoor
namespace Rows

/-- THE TIED CARD OF 'hostlerlaw19.AdminParses'. -/
def adminParsesCard : Claim7 := { stood := { row := adminParsesRow, standIns := [], harness := (true, "8849451f31cb5be9cdf44a692a8169790485b6007784f5f08ea95794ed05ad0d"), looks := true }, kinds := [], alts := [], laidByText := true, laidKinds := [.data, .data, .data, .data, .pinned], laidTests := true, laidLooks := .later }
def AdminParsesCardSaid : Prop := Claim7.holds Tryd.pinned (.plain (OpenSpec.ofChange adminParsesSpec)) adminParsesCard

/-- THE TIED CARD OF 'hostlerlaw19.AdminPrints'. -/
def adminPrintsCard : Claim7 := { stood := { row := adminPrintsRow, standIns := [], harness := (true, "8849451f31cb5be9cdf44a692a8169790485b6007784f5f08ea95794ed05ad0d"), looks := true }, kinds := [], alts := [], laidByText := true, laidKinds := [.data, .data, .data, .data, .pinned], laidTests := true, laidLooks := .later }
def AdminPrintsCardSaid : Prop := Claim7.holds Tryd.pinned (.plain (OpenSpec.ofChange adminPrintsSpec)) adminPrintsCard

/-- THE TIED CARD OF 'hostlerlaw19.AdminOne'. -/
def adminOneCard : Claim7 := { stood := { row := adminOneRow, standIns := [], harness := (true, "8849451f31cb5be9cdf44a692a8169790485b6007784f5f08ea95794ed05ad0d"), looks := true }, kinds := [], alts := [], laidByText := true, laidKinds := [.data, .data, .data, .data, .pinned], laidTests := true, laidLooks := .later }
def AdminOneCardSaid : Prop := Claim7.holds Tryd.pinned (.plain (OpenSpec.ofChange adminOneSpec)) adminOneCard

/-- THE TIED CARD OF 'hostlerlaw19.AdminWords'. -/
def adminWordsCard : Claim7 := { stood := { row := adminWordsRow, standIns := [], harness := (true, "8849451f31cb5be9cdf44a692a8169790485b6007784f5f08ea95794ed05ad0d"), looks := true }, kinds := [], alts := [], laidByText := true, laidKinds := [.data, .data, .data, .data, .pinned], laidTests := true, laidLooks := .later }
def AdminWordsCardSaid : Prop := Claim7.holds Tryd.pinned (.plain (OpenSpec.ofChange adminWordsSpec)) adminWordsCard

/-- THE TIED CARD OF 'hostlerlaw08.ConfigReads'. -/
def configReadsCard : Claim7 := { stood := { row := configReadsRow, standIns := [], harness := (true, "8849451f31cb5be9cdf44a692a8169790485b6007784f5f08ea95794ed05ad0d"), looks := true }, kinds := [], alts := [], laidByText := true, laidKinds := [.data, .data, .data, .data, .sentinel, .sentinel, .pinned], laidTests := true, laidLooks := .later }
def ConfigReadsCardSaid : Prop := Claim7.holds Tryd.pinned (.plain (OpenSpec.ofChange configReadsSpec)) configReadsCard

/-- THE TIED CARD OF 'hostlerlaw08.ConfigBack'. -/
def configBackCard : Claim7 := { stood := { row := configBackRow, standIns := [], harness := (true, "8849451f31cb5be9cdf44a692a8169790485b6007784f5f08ea95794ed05ad0d"), looks := true }, kinds := [], alts := [], laidByText := true, laidKinds := [.data, .data, .data, .data, .sentinel, .sentinel, .pinned], laidTests := true, laidLooks := .later }
def ConfigBackCardSaid : Prop := Claim7.holds Tryd.pinned (.plain (OpenSpec.ofChange configBackSpec)) configBackCard

/-- THE TIED CARD OF 'hostlerlaw08.ConfigEdges'. -/
def configEdgesCard : Claim7 := { stood := { row := configEdgesRow, standIns := [], harness := (true, "8849451f31cb5be9cdf44a692a8169790485b6007784f5f08ea95794ed05ad0d"), looks := true }, kinds := [], alts := [], laidByText := true, laidKinds := [.data, .data, .data, .data, .sentinel, .sentinel, .pinned], laidTests := true, laidLooks := .later }
def ConfigEdgesCardSaid : Prop := Claim7.holds Tryd.pinned (.plain (OpenSpec.ofChange configEdgesSpec)) configEdgesCard

/-- THE TIED CARD OF 'hostlerlaw08.ConfigChecks'. -/
def configChecksCard : Claim7 := { stood := { row := configChecksRow, standIns := [], harness := (true, "8849451f31cb5be9cdf44a692a8169790485b6007784f5f08ea95794ed05ad0d"), looks := true }, kinds := [], alts := [], laidByText := true, laidKinds := [.data, .data, .data, .data, .sentinel, .sentinel, .pinned], laidTests := true, laidLooks := .later }
def ConfigChecksCardSaid : Prop := Claim7.holds Tryd.pinned (.plain (OpenSpec.ofChange configChecksSpec)) configChecksCard

/-- THE TIED CARD OF 'hostlerlaw08.ConfigFields'. -/
def configFieldsCard : Claim7 := { stood := { row := configFieldsRow, standIns := [], harness := (true, "8849451f31cb5be9cdf44a692a8169790485b6007784f5f08ea95794ed05ad0d"), looks := true }, kinds := [], alts := [], laidByText := true, laidKinds := [.data, .data, .data, .data, .sentinel, .sentinel, .pinned], laidTests := true, laidLooks := .later }
def ConfigFieldsCardSaid : Prop := Claim7.holds Tryd.pinned (.plain (OpenSpec.ofChange configFieldsSpec)) configFieldsCard

/-- THE TIED CARD OF 'hostlerlaw19.AdminRows'. -/
def adminRowsCard : Claim7 := { stood := { row := adminRowsRow, standIns := [], harness := (true, "8849451f31cb5be9cdf44a692a8169790485b6007784f5f08ea95794ed05ad0d"), looks := true }, kinds := [], alts := [], laidByText := true, laidKinds := [.data, .data, .data, .data, .sentinel, .sentinel, .pinned], laidTests := true, laidLooks := .later }
def AdminRowsCardSaid : Prop := Claim7.holds Tryd.pinned (.plain (OpenSpec.ofChange adminRowsSpec)) adminRowsCard

/-- THE TIED CARD OF 'hostlerlaw19.AdminParts'. -/
def adminPartsCard : Claim7 := { stood := { row := adminPartsRow, standIns := [], harness := (true, "8849451f31cb5be9cdf44a692a8169790485b6007784f5f08ea95794ed05ad0d"), looks := true }, kinds := [], alts := [], laidByText := true, laidKinds := [.data, .data, .data, .data, .sentinel, .sentinel, .pinned], laidTests := true, laidLooks := .later }
def AdminPartsCardSaid : Prop := Claim7.holds Tryd.pinned (.plain (OpenSpec.ofChange adminPartsSpec)) adminPartsCard

/-- THE SECOND FORM's CARD OF 'hostlerlaw19.AdminParses'. -/
def adminParsesUptoCard : Claim7 := { stood := { row := adminParsesUptoRow, standIns := [], harness := (true, "8849451f31cb5be9cdf44a692a8169790485b6007784f5f08ea95794ed05ad0d"), looks := true }, kinds := [], alts := [], laidByText := true, laidKinds := [.data, .data, .data, .data, .pinned], laidTests := true, laidLooks := .later }
def AdminParsesUptoCardSaid : Prop := Claim7.holds Tryd.pinned (.plain (OpenSpec.upto adminParsesSpec)) adminParsesUptoCard

/-- THE SECOND FORM's CARD OF 'hostlerlaw19.AdminPrints'. -/
def adminPrintsUptoCard : Claim7 := { stood := { row := adminPrintsUptoRow, standIns := [], harness := (true, "8849451f31cb5be9cdf44a692a8169790485b6007784f5f08ea95794ed05ad0d"), looks := true }, kinds := [], alts := [], laidByText := true, laidKinds := [.data, .data, .data, .data, .pinned], laidTests := true, laidLooks := .later }
def AdminPrintsUptoCardSaid : Prop := Claim7.holds Tryd.pinned (.plain (OpenSpec.upto adminPrintsSpec)) adminPrintsUptoCard

/-- THE SECOND FORM's CARD OF 'hostlerlaw19.AdminOne'. -/
def adminOneUptoCard : Claim7 := { stood := { row := adminOneUptoRow, standIns := [], harness := (true, "8849451f31cb5be9cdf44a692a8169790485b6007784f5f08ea95794ed05ad0d"), looks := true }, kinds := [], alts := [], laidByText := true, laidKinds := [.data, .data, .data, .data, .pinned], laidTests := true, laidLooks := .later }
def AdminOneUptoCardSaid : Prop := Claim7.holds Tryd.pinned (.plain (OpenSpec.upto adminOneSpec)) adminOneUptoCard

/-- THE SECOND FORM's CARD OF 'hostlerlaw19.AdminWords'. -/
def adminWordsUptoCard : Claim7 := { stood := { row := adminWordsUptoRow, standIns := [], harness := (true, "8849451f31cb5be9cdf44a692a8169790485b6007784f5f08ea95794ed05ad0d"), looks := true }, kinds := [], alts := [], laidByText := true, laidKinds := [.data, .data, .data, .data, .pinned], laidTests := true, laidLooks := .later }
def AdminWordsUptoCardSaid : Prop := Claim7.holds Tryd.pinned (.plain (OpenSpec.upto adminWordsSpec)) adminWordsUptoCard

/-- THE SECOND FORM's CARD OF 'hostlerlaw08.ConfigReads'. -/
def configReadsUptoCard : Claim7 := { stood := { row := configReadsUptoRow, standIns := [], harness := (true, "8849451f31cb5be9cdf44a692a8169790485b6007784f5f08ea95794ed05ad0d"), looks := true }, kinds := [], alts := [], laidByText := true, laidKinds := [.data, .data, .data, .data, .sentinel, .sentinel, .pinned], laidTests := true, laidLooks := .later }
def ConfigReadsUptoCardSaid : Prop := Claim7.holds Tryd.pinned (.plain (OpenSpec.upto configReadsSpec)) configReadsUptoCard

/-- THE SECOND FORM's CARD OF 'hostlerlaw08.ConfigBack'. -/
def configBackUptoCard : Claim7 := { stood := { row := configBackUptoRow, standIns := [], harness := (true, "8849451f31cb5be9cdf44a692a8169790485b6007784f5f08ea95794ed05ad0d"), looks := true }, kinds := [], alts := [], laidByText := true, laidKinds := [.data, .data, .data, .data, .sentinel, .sentinel, .pinned], laidTests := true, laidLooks := .later }
def ConfigBackUptoCardSaid : Prop := Claim7.holds Tryd.pinned (.plain (OpenSpec.upto configBackSpec)) configBackUptoCard

/-- THE SECOND FORM's CARD OF 'hostlerlaw08.ConfigEdges'. -/
def configEdgesUptoCard : Claim7 := { stood := { row := configEdgesUptoRow, standIns := [], harness := (true, "8849451f31cb5be9cdf44a692a8169790485b6007784f5f08ea95794ed05ad0d"), looks := true }, kinds := [], alts := [], laidByText := true, laidKinds := [.data, .data, .data, .data, .sentinel, .sentinel, .pinned], laidTests := true, laidLooks := .later }
def ConfigEdgesUptoCardSaid : Prop := Claim7.holds Tryd.pinned (.plain (OpenSpec.upto configEdgesSpec)) configEdgesUptoCard

/-- THE SECOND FORM's CARD OF 'hostlerlaw08.ConfigChecks'. -/
def configChecksUptoCard : Claim7 := { stood := { row := configChecksUptoRow, standIns := [], harness := (true, "8849451f31cb5be9cdf44a692a8169790485b6007784f5f08ea95794ed05ad0d"), looks := true }, kinds := [], alts := [], laidByText := true, laidKinds := [.data, .data, .data, .data, .sentinel, .sentinel, .pinned], laidTests := true, laidLooks := .later }
def ConfigChecksUptoCardSaid : Prop := Claim7.holds Tryd.pinned (.plain (OpenSpec.upto configChecksSpec)) configChecksUptoCard

/-- THE SECOND FORM's CARD OF 'hostlerlaw08.ConfigFields'. -/
def configFieldsUptoCard : Claim7 := { stood := { row := configFieldsUptoRow, standIns := [], harness := (true, "8849451f31cb5be9cdf44a692a8169790485b6007784f5f08ea95794ed05ad0d"), looks := true }, kinds := [], alts := [], laidByText := true, laidKinds := [.data, .data, .data, .data, .sentinel, .sentinel, .pinned], laidTests := true, laidLooks := .later }
def ConfigFieldsUptoCardSaid : Prop := Claim7.holds Tryd.pinned (.plain (OpenSpec.upto configFieldsSpec)) configFieldsUptoCard

/-- THE SECOND FORM's CARD OF 'hostlerlaw19.AdminRows'. -/
def adminRowsUptoCard : Claim7 := { stood := { row := adminRowsUptoRow, standIns := [], harness := (true, "8849451f31cb5be9cdf44a692a8169790485b6007784f5f08ea95794ed05ad0d"), looks := true }, kinds := [], alts := [], laidByText := true, laidKinds := [.data, .data, .data, .data, .sentinel, .sentinel, .pinned], laidTests := true, laidLooks := .later }
def AdminRowsUptoCardSaid : Prop := Claim7.holds Tryd.pinned (.plain (OpenSpec.upto adminRowsSpec)) adminRowsUptoCard

/-- THE SECOND FORM's CARD OF 'hostlerlaw19.AdminParts'. -/
def adminPartsUptoCard : Claim7 := { stood := { row := adminPartsUptoRow, standIns := [], harness := (true, "8849451f31cb5be9cdf44a692a8169790485b6007784f5f08ea95794ed05ad0d"), looks := true }, kinds := [], alts := [], laidByText := true, laidKinds := [.data, .data, .data, .data, .sentinel, .sentinel, .pinned], laidTests := true, laidLooks := .later }
def AdminPartsUptoCardSaid : Prop := Claim7.holds Tryd.pinned (.plain (OpenSpec.upto adminPartsSpec)) adminPartsUptoCard
end Rows
end Go.Proofs.YtogomkkglcddmaaDoor
