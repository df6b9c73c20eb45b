/-
  DERIVED. GIVEN WITH THE SEED: THE CARDS: each row of YtmekcbbieacioaaDoorRows.lean that lists a variable, with what it lists TIED to the program's text (the seventh form; the later family's looks); each row that meets fmt, with fmt's text TOLD by the authors' own Lean function (tested against real Go, not proved from fmt's source: count such statements apart). THE CARD IS WHAT COUNTS. Prove the row's statement (the work); the ties are given (YtmekcbbieacioaaDoorTie.lean); close each card by the builder's one call (the guide's Derived/Test/ToyasCard.lean, 'card_holds'). Laid BY PROGRAM, IN A SANDBOX (cutbox-door.mjs). By AI agents, Wed Nov 11 2026. No macro, syntax, notation, axiom, sorry.
-/
import Derived.Test.YtmekcbbieacioaaDoorRows
import GoSem.ClaimSeven
namespace Go.Proofs.YtmekcbbieacioaaDoor
namespace Rows

/-- THE TIED CARD OF 'becketlaw04.TreeMore'. -/
def treeMoreCard : Claim7 := { stood := { row := treeMoreRow, standIns := [], harness := (true, "514f478eff6936296fec5ecdc60ffa54dcb2064e47322a29c0475d8e0a5b0af5"), looks := true }, kinds := [], alts := [], laidByText := true, laidKinds := [.data, .handle, .pinned], laidTests := true, laidLooks := .later }
def TreeMoreCardSaid : Prop := Claim7.holds Tryd.pinned (.plain (OpenSpec.ofChange treeMoreSpec)) treeMoreCard

/-- THE SECOND FORM's CARD OF 'becketlaw04.TreeMore'. -/
def treeMoreUptoCard : Claim7 := { stood := { row := treeMoreUptoRow, standIns := [], harness := (true, "514f478eff6936296fec5ecdc60ffa54dcb2064e47322a29c0475d8e0a5b0af5"), looks := true }, kinds := [], alts := [], laidByText := true, laidKinds := [.data, .handle, .pinned], laidTests := true, laidLooks := .later }
def TreeMoreUptoCardSaid : Prop := Claim7.holds Tryd.pinned (.plain (OpenSpec.upto treeMoreSpec)) treeMoreUptoCard
end Rows
end Go.Proofs.YtmekcbbieacioaaDoor
