/-
  DERIVED. GIVEN WITH THE SEED: THE CARDS: each row of YtligkfhplinjlaaGreatDoorRows.lean that lists a variable, with what it lists TIED to the program's text (the seventh form; the later family's looks); each row that meets fmt, with fmt's text TOLD by the authors' own Lean function (tested against real Go, not proved from fmt's source: count such statements apart). THE CARD IS WHAT COUNTS. Prove the row's statement (the work); the ties are given (YtligkfhplinjlaaGreatDoorTie.lean); close each card by the builder's one call (the guide's Derived/Test/ToyasCard.lean, 'card_holds'). Laid BY PROGRAM, IN A SANDBOX (cutbox-door.mjs). By AI agents, Wed Nov 11 2026. No macro, syntax, notation, axiom, sorry.
-/
import Derived.Test.YtligkfhplinjlaaGreatDoorRows
import GoSem.ClaimSeven
namespace Go.Proofs.YtligkfhplinjlaaGreatDoor
namespace Rows

/-- THE TIED CARD OF 'becketlaw09.CatalogApart'. -/
def catalogApartCard : Claim7 := { stood := { row := catalogApartRow, standIns := [], harness := (true, "d507536e100f7a9ad0d0ea5ddf2a743a41edaecce19ce365e47c9807b6541f07"), looks := true }, kinds := [], alts := [], laidByText := true, laidKinds := [.data, .pinned], laidTests := true, laidLooks := .later }
def CatalogApartCardSaid : Prop := Claim7.holds Tryz.pinned (.plain (OpenSpec.ofChange catalogApartSpec)) catalogApartCard

/-- THE TIED CARD OF 'becketlaw09.CatalogPlans'. -/
def catalogPlansCard : Claim7 := { stood := { row := catalogPlansRow, standIns := [], harness := (true, "d507536e100f7a9ad0d0ea5ddf2a743a41edaecce19ce365e47c9807b6541f07"), looks := true }, kinds := [], alts := [], laidByText := true, laidKinds := [.data, .pinned], laidTests := true, laidLooks := .later }
def CatalogPlansCardSaid : Prop := Claim7.holds Tryz.pinned (.plain (OpenSpec.ofChange catalogPlansSpec)) catalogPlansCard

/-- THE TIED CARD OF 'becketlaw09.CatalogRefuses'. -/
def catalogRefusesCard : Claim7 := { stood := { row := catalogRefusesRow, standIns := [], harness := (true, "d507536e100f7a9ad0d0ea5ddf2a743a41edaecce19ce365e47c9807b6541f07"), looks := true }, kinds := [], alts := [], laidByText := true, laidKinds := [.data, .pinned], laidTests := true, laidLooks := .later }
def CatalogRefusesCardSaid : Prop := Claim7.holds Tryz.pinned (.plain (OpenSpec.ofChange catalogRefusesSpec)) catalogRefusesCard

/-- THE TIED CARD OF 'becketlaw09.CatalogAborts'. -/
def catalogAbortsCard : Claim7 := { stood := { row := catalogAbortsRow, standIns := [], harness := (true, "d507536e100f7a9ad0d0ea5ddf2a743a41edaecce19ce365e47c9807b6541f07"), looks := true }, kinds := [], alts := [], laidByText := true, laidKinds := [.data, .pinned], laidTests := true, laidLooks := .later }
def CatalogAbortsCardSaid : Prop := Claim7.holds Tryz.pinned (.plain (OpenSpec.ofChange catalogAbortsSpec)) catalogAbortsCard

/-- THE TIED CARD OF 'becketlaw09.CatalogHolds'. -/
def catalogHoldsCard : Claim7 := { stood := { row := catalogHoldsRow, standIns := [], harness := (true, "d507536e100f7a9ad0d0ea5ddf2a743a41edaecce19ce365e47c9807b6541f07"), looks := true }, kinds := [], alts := [], laidByText := true, laidKinds := [.data, .pinned], laidTests := true, laidLooks := .later }
def CatalogHoldsCardSaid : Prop := Claim7.holds Tryz.pinned (.plain (OpenSpec.ofChange catalogHoldsSpec)) catalogHoldsCard

/-- THE TIED CARD OF 'becketlaw09.CatalogPlays'. -/
def catalogPlaysCard : Claim7 := { stood := { row := catalogPlaysRow, standIns := [], harness := (true, "d507536e100f7a9ad0d0ea5ddf2a743a41edaecce19ce365e47c9807b6541f07"), looks := true }, kinds := [], alts := [], laidByText := true, laidKinds := [.data, .pinned], laidTests := true, laidLooks := .later }
def CatalogPlaysCardSaid : Prop := Claim7.holds Tryz.pinned (.plain (OpenSpec.ofChange catalogPlaysSpec)) catalogPlaysCard

/-- THE TIED CARD OF 'becketlaw09.CatalogStays'. -/
def catalogStaysCard : Claim7 := { stood := { row := catalogStaysRow, standIns := [], harness := (true, "d507536e100f7a9ad0d0ea5ddf2a743a41edaecce19ce365e47c9807b6541f07"), looks := true }, kinds := [], alts := [], laidByText := true, laidKinds := [.data, .pinned], laidTests := true, laidLooks := .later }
def CatalogStaysCardSaid : Prop := Claim7.holds Tryz.pinned (.plain (OpenSpec.ofChange catalogStaysSpec)) catalogStaysCard

/-- THE TIED CARD OF 'becketlaw09.CatalogFrom'. -/
def catalogFromCard : Claim7 := { stood := { row := catalogFromRow, standIns := [], harness := (true, "d507536e100f7a9ad0d0ea5ddf2a743a41edaecce19ce365e47c9807b6541f07"), looks := true }, kinds := [], alts := [], laidByText := true, laidKinds := [.data, .pinned], laidTests := true, laidLooks := .later }
def CatalogFromCardSaid : Prop := Claim7.holds Tryz.pinned (.plain (OpenSpec.ofChange catalogFromSpec)) catalogFromCard

/-- THE SECOND FORM's CARD OF 'becketlaw09.CatalogApart'. -/
def catalogApartUptoCard : Claim7 := { stood := { row := catalogApartUptoRow, standIns := [], harness := (true, "d507536e100f7a9ad0d0ea5ddf2a743a41edaecce19ce365e47c9807b6541f07"), looks := true }, kinds := [], alts := [], laidByText := true, laidKinds := [.data, .pinned], laidTests := true, laidLooks := .later }
def CatalogApartUptoCardSaid : Prop := Claim7.holds Tryz.pinned (.plain (OpenSpec.upto catalogApartSpec)) catalogApartUptoCard

/-- THE SECOND FORM's CARD OF 'becketlaw09.CatalogPlans'. -/
def catalogPlansUptoCard : Claim7 := { stood := { row := catalogPlansUptoRow, standIns := [], harness := (true, "d507536e100f7a9ad0d0ea5ddf2a743a41edaecce19ce365e47c9807b6541f07"), looks := true }, kinds := [], alts := [], laidByText := true, laidKinds := [.data, .pinned], laidTests := true, laidLooks := .later }
def CatalogPlansUptoCardSaid : Prop := Claim7.holds Tryz.pinned (.plain (OpenSpec.upto catalogPlansSpec)) catalogPlansUptoCard

/-- THE SECOND FORM's CARD OF 'becketlaw09.CatalogRefuses'. -/
def catalogRefusesUptoCard : Claim7 := { stood := { row := catalogRefusesUptoRow, standIns := [], harness := (true, "d507536e100f7a9ad0d0ea5ddf2a743a41edaecce19ce365e47c9807b6541f07"), looks := true }, kinds := [], alts := [], laidByText := true, laidKinds := [.data, .pinned], laidTests := true, laidLooks := .later }
def CatalogRefusesUptoCardSaid : Prop := Claim7.holds Tryz.pinned (.plain (OpenSpec.upto catalogRefusesSpec)) catalogRefusesUptoCard

/-- THE SECOND FORM's CARD OF 'becketlaw09.CatalogAborts'. -/
def catalogAbortsUptoCard : Claim7 := { stood := { row := catalogAbortsUptoRow, standIns := [], harness := (true, "d507536e100f7a9ad0d0ea5ddf2a743a41edaecce19ce365e47c9807b6541f07"), looks := true }, kinds := [], alts := [], laidByText := true, laidKinds := [.data, .pinned], laidTests := true, laidLooks := .later }
def CatalogAbortsUptoCardSaid : Prop := Claim7.holds Tryz.pinned (.plain (OpenSpec.upto catalogAbortsSpec)) catalogAbortsUptoCard

/-- THE SECOND FORM's CARD OF 'becketlaw09.CatalogHolds'. -/
def catalogHoldsUptoCard : Claim7 := { stood := { row := catalogHoldsUptoRow, standIns := [], harness := (true, "d507536e100f7a9ad0d0ea5ddf2a743a41edaecce19ce365e47c9807b6541f07"), looks := true }, kinds := [], alts := [], laidByText := true, laidKinds := [.data, .pinned], laidTests := true, laidLooks := .later }
def CatalogHoldsUptoCardSaid : Prop := Claim7.holds Tryz.pinned (.plain (OpenSpec.upto catalogHoldsSpec)) catalogHoldsUptoCard

/-- THE SECOND FORM's CARD OF 'becketlaw09.CatalogPlays'. -/
def catalogPlaysUptoCard : Claim7 := { stood := { row := catalogPlaysUptoRow, standIns := [], harness := (true, "d507536e100f7a9ad0d0ea5ddf2a743a41edaecce19ce365e47c9807b6541f07"), looks := true }, kinds := [], alts := [], laidByText := true, laidKinds := [.data, .pinned], laidTests := true, laidLooks := .later }
def CatalogPlaysUptoCardSaid : Prop := Claim7.holds Tryz.pinned (.plain (OpenSpec.upto catalogPlaysSpec)) catalogPlaysUptoCard

/-- THE SECOND FORM's CARD OF 'becketlaw09.CatalogStays'. -/
def catalogStaysUptoCard : Claim7 := { stood := { row := catalogStaysUptoRow, standIns := [], harness := (true, "d507536e100f7a9ad0d0ea5ddf2a743a41edaecce19ce365e47c9807b6541f07"), looks := true }, kinds := [], alts := [], laidByText := true, laidKinds := [.data, .pinned], laidTests := true, laidLooks := .later }
def CatalogStaysUptoCardSaid : Prop := Claim7.holds Tryz.pinned (.plain (OpenSpec.upto catalogStaysSpec)) catalogStaysUptoCard

/-- THE SECOND FORM's CARD OF 'becketlaw09.CatalogFrom'. -/
def catalogFromUptoCard : Claim7 := { stood := { row := catalogFromUptoRow, standIns := [], harness := (true, "d507536e100f7a9ad0d0ea5ddf2a743a41edaecce19ce365e47c9807b6541f07"), looks := true }, kinds := [], alts := [], laidByText := true, laidKinds := [.data, .pinned], laidTests := true, laidLooks := .later }
def CatalogFromUptoCardSaid : Prop := Claim7.holds Tryz.pinned (.plain (OpenSpec.upto catalogFromSpec)) catalogFromUptoCard
end Rows
end Go.Proofs.YtligkfhplinjlaaGreatDoor
