/-
  DERIVED. GIVEN WITH THE SEED: THE CARDS: each row of YtmekcbbieacioaaGreatDoorRows.lean that lists a variable, with what it lists TIED to the program's text (the seventh form; the later family's looks); each row that meets fmt, with fmt's text TOLD by the authors' own Lean function (tested against real Go, not proved from fmt's source: count such statements apart). THE CARD IS WHAT COUNTS. Prove the row's statement (the work); the ties are given (YtmekcbbieacioaaGreatDoorTie.lean); close each card by the builder's one call (the guide's Derived/Test/ToyasCard.lean, 'card_holds'). Laid BY PROGRAM, IN A SANDBOX (cutbox-door.mjs). By AI agents, Wed Nov 11 2026. No macro, syntax, notation, axiom, sorry.
-/
import Derived.Test.YtmekcbbieacioaaGreatDoorRows
import GoSem.ClaimSeven
namespace Go.Proofs.YtmekcbbieacioaaGreatDoor
namespace Rows

/-- THE TIED CARD OF 'becketlaw04.TreeBuilds'. -/
def treeBuildsCard : Claim7 := { stood := { row := treeBuildsRow, standIns := [], harness := (true, "6d685460a1a99a10f170b9238f772672e51df666e35127c1e9aabb0b9f60a72e"), looks := true }, kinds := [], alts := [], laidByText := true, laidKinds := [.data, .handle, .pinned], laidTests := true, laidLooks := .later }
def TreeBuildsCardSaid : Prop := Claim7.holds Tryz.pinned (.plain (OpenSpec.ofChange treeBuildsSpec)) treeBuildsCard

/-- THE TIED CARD OF 'becketlaw04.TreeChecks'. -/
def treeChecksCard : Claim7 := { stood := { row := treeChecksRow, standIns := [], harness := (true, "6d685460a1a99a10f170b9238f772672e51df666e35127c1e9aabb0b9f60a72e"), looks := true }, kinds := [], alts := [], laidByText := true, laidKinds := [.data, .handle, .pinned], laidTests := true, laidLooks := .later }
def TreeChecksCardSaid : Prop := Claim7.holds Tryz.pinned (.plain (OpenSpec.ofChange treeChecksSpec)) treeChecksCard

/-- THE TIED CARD OF 'becketlaw04.TreeBelow'. -/
def treeBelowCard : Claim7 := { stood := { row := treeBelowRow, standIns := [], harness := (true, "6d685460a1a99a10f170b9238f772672e51df666e35127c1e9aabb0b9f60a72e"), looks := true }, kinds := [], alts := [], laidByText := true, laidKinds := [.data, .handle, .pinned], laidTests := true, laidLooks := .later }
def TreeBelowCardSaid : Prop := Claim7.holds Tryz.pinned (.plain (OpenSpec.ofChange treeBelowSpec)) treeBelowCard

/-- THE TIED CARD OF 'becketlaw04.TreeRestores'. -/
def treeRestoresCard : Claim7 := { stood := { row := treeRestoresRow, standIns := [], harness := (true, "6d685460a1a99a10f170b9238f772672e51df666e35127c1e9aabb0b9f60a72e"), looks := true }, kinds := [], alts := [], laidByText := true, laidKinds := [.data, .handle, .pinned], laidTests := true, laidLooks := .later }
def TreeRestoresCardSaid : Prop := Claim7.holds Tryz.pinned (.plain (OpenSpec.ofChange treeRestoresSpec)) treeRestoresCard

/-- THE TIED CARD OF 'becketlaw04.TreeBack'. -/
def treeBackCard : Claim7 := { stood := { row := treeBackRow, standIns := [], harness := (true, "6d685460a1a99a10f170b9238f772672e51df666e35127c1e9aabb0b9f60a72e"), looks := true }, kinds := [], alts := [], laidByText := true, laidKinds := [.data, .handle, .pinned], laidTests := true, laidLooks := .later }
def TreeBackCardSaid : Prop := Claim7.holds Tryz.pinned (.plain (OpenSpec.ofChange treeBackSpec)) treeBackCard

/-- THE TIED CARD OF 'becketlaw04.TreeLost'. -/
def treeLostCard : Claim7 := { stood := { row := treeLostRow, standIns := [], harness := (true, "6d685460a1a99a10f170b9238f772672e51df666e35127c1e9aabb0b9f60a72e"), looks := true }, kinds := [], alts := [], laidByText := true, laidKinds := [.data, .handle, .pinned], laidTests := true, laidLooks := .later }
def TreeLostCardSaid : Prop := Claim7.holds Tryz.pinned (.plain (OpenSpec.ofChange treeLostSpec)) treeLostCard

/-- THE TIED CARD OF 'becketlaw04.TreeStays'. -/
def treeStaysCard : Claim7 := { stood := { row := treeStaysRow, standIns := [], harness := (true, "6d685460a1a99a10f170b9238f772672e51df666e35127c1e9aabb0b9f60a72e"), looks := true }, kinds := [], alts := [], laidByText := true, laidKinds := [.data, .handle, .pinned], laidTests := true, laidLooks := .later }
def TreeStaysCardSaid : Prop := Claim7.holds Tryz.pinned (.plain (OpenSpec.ofChange treeStaysSpec)) treeStaysCard

/-- THE SECOND FORM's CARD OF 'becketlaw04.TreeBuilds'. -/
def treeBuildsUptoCard : Claim7 := { stood := { row := treeBuildsUptoRow, standIns := [], harness := (true, "6d685460a1a99a10f170b9238f772672e51df666e35127c1e9aabb0b9f60a72e"), looks := true }, kinds := [], alts := [], laidByText := true, laidKinds := [.data, .handle, .pinned], laidTests := true, laidLooks := .later }
def TreeBuildsUptoCardSaid : Prop := Claim7.holds Tryz.pinned (.plain (OpenSpec.upto treeBuildsSpec)) treeBuildsUptoCard

/-- THE SECOND FORM's CARD OF 'becketlaw04.TreeChecks'. -/
def treeChecksUptoCard : Claim7 := { stood := { row := treeChecksUptoRow, standIns := [], harness := (true, "6d685460a1a99a10f170b9238f772672e51df666e35127c1e9aabb0b9f60a72e"), looks := true }, kinds := [], alts := [], laidByText := true, laidKinds := [.data, .handle, .pinned], laidTests := true, laidLooks := .later }
def TreeChecksUptoCardSaid : Prop := Claim7.holds Tryz.pinned (.plain (OpenSpec.upto treeChecksSpec)) treeChecksUptoCard

/-- THE SECOND FORM's CARD OF 'becketlaw04.TreeBelow'. -/
def treeBelowUptoCard : Claim7 := { stood := { row := treeBelowUptoRow, standIns := [], harness := (true, "6d685460a1a99a10f170b9238f772672e51df666e35127c1e9aabb0b9f60a72e"), looks := true }, kinds := [], alts := [], laidByText := true, laidKinds := [.data, .handle, .pinned], laidTests := true, laidLooks := .later }
def TreeBelowUptoCardSaid : Prop := Claim7.holds Tryz.pinned (.plain (OpenSpec.upto treeBelowSpec)) treeBelowUptoCard

/-- THE SECOND FORM's CARD OF 'becketlaw04.TreeRestores'. -/
def treeRestoresUptoCard : Claim7 := { stood := { row := treeRestoresUptoRow, standIns := [], harness := (true, "6d685460a1a99a10f170b9238f772672e51df666e35127c1e9aabb0b9f60a72e"), looks := true }, kinds := [], alts := [], laidByText := true, laidKinds := [.data, .handle, .pinned], laidTests := true, laidLooks := .later }
def TreeRestoresUptoCardSaid : Prop := Claim7.holds Tryz.pinned (.plain (OpenSpec.upto treeRestoresSpec)) treeRestoresUptoCard

/-- THE SECOND FORM's CARD OF 'becketlaw04.TreeBack'. -/
def treeBackUptoCard : Claim7 := { stood := { row := treeBackUptoRow, standIns := [], harness := (true, "6d685460a1a99a10f170b9238f772672e51df666e35127c1e9aabb0b9f60a72e"), looks := true }, kinds := [], alts := [], laidByText := true, laidKinds := [.data, .handle, .pinned], laidTests := true, laidLooks := .later }
def TreeBackUptoCardSaid : Prop := Claim7.holds Tryz.pinned (.plain (OpenSpec.upto treeBackSpec)) treeBackUptoCard

/-- THE SECOND FORM's CARD OF 'becketlaw04.TreeLost'. -/
def treeLostUptoCard : Claim7 := { stood := { row := treeLostUptoRow, standIns := [], harness := (true, "6d685460a1a99a10f170b9238f772672e51df666e35127c1e9aabb0b9f60a72e"), looks := true }, kinds := [], alts := [], laidByText := true, laidKinds := [.data, .handle, .pinned], laidTests := true, laidLooks := .later }
def TreeLostUptoCardSaid : Prop := Claim7.holds Tryz.pinned (.plain (OpenSpec.upto treeLostSpec)) treeLostUptoCard

/-- THE SECOND FORM's CARD OF 'becketlaw04.TreeStays'. -/
def treeStaysUptoCard : Claim7 := { stood := { row := treeStaysUptoRow, standIns := [], harness := (true, "6d685460a1a99a10f170b9238f772672e51df666e35127c1e9aabb0b9f60a72e"), looks := true }, kinds := [], alts := [], laidByText := true, laidKinds := [.data, .handle, .pinned], laidTests := true, laidLooks := .later }
def TreeStaysUptoCardSaid : Prop := Claim7.holds Tryz.pinned (.plain (OpenSpec.upto treeStaysSpec)) treeStaysUptoCard
end Rows
end Go.Proofs.YtmekcbbieacioaaGreatDoor
