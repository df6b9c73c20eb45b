/-
  DERIVED. GIVEN WITH THE SEED: THE CARDS: each row of YtgjoloaajocafaaDoorRows.lean that lists a variable, with what it lists TIED to the program's text (the seventh form; the later family's looks); each row that meets fmt, with fmt's text TOLD by the authors' own Lean function (tested against real Go, not proved from fmt's source: count such statements apart). THE CARD IS WHAT COUNTS. Prove the row's statement (the work); the ties are given (YtgjoloaajocafaaDoorTie.lean); close each card by the builder's one call (the guide's Derived/Test/ToyasCard.lean, 'card_holds'). Laid BY PROGRAM, IN A SANDBOX (cutbox-door.mjs). By AI agents, Wed Nov 11 2026. No macro, syntax, notation, axiom, sorry.
-/
import Derived.Test.YtgjoloaajocafaaDoorRows
import GoSem.ClaimSeven
namespace Go.Proofs.YtgjoloaajocafaaDoor
namespace Rows

/-- THE TIED CARD OF 'becketlaw10.ImageGets'. -/
def imageGetsCard : Claim7 := { stood := { row := imageGetsRow, standIns := [], harness := (true, "26c87c66777202d747efab6fff927dec05289d12d9737c9518ab83f694a82731"), looks := true }, kinds := [], alts := [], laidByText := true, laidKinds := [.data, .pinned], laidTests := true, laidLooks := .later }
def ImageGetsCardSaid : Prop := Claim7.holds Tryd.pinned (.plain (OpenSpec.ofChange imageGetsSpec)) imageGetsCard

/-- THE TIED CARD OF 'becketlaw10.ImagePuts'. -/
def imagePutsCard : Claim7 := { stood := { row := imagePutsRow, standIns := [], harness := (true, "26c87c66777202d747efab6fff927dec05289d12d9737c9518ab83f694a82731"), looks := true }, kinds := [], alts := [], laidByText := true, laidKinds := [.data, .pinned], laidTests := true, laidLooks := .later }
def ImagePutsCardSaid : Prop := Claim7.holds Tryd.pinned (.plain (OpenSpec.ofChange imagePutsSpec)) imagePutsCard

/-- THE TIED CARD OF 'becketlaw10.ImageDiffers'. -/
def imageDiffersCard : Claim7 := { stood := { row := imageDiffersRow, standIns := [], harness := (true, "26c87c66777202d747efab6fff927dec05289d12d9737c9518ab83f694a82731"), looks := true }, kinds := [], alts := [], laidByText := true, laidKinds := [.data, .pinned], laidTests := true, laidLooks := .later }
def ImageDiffersCardSaid : Prop := Claim7.holds Tryd.pinned (.plain (OpenSpec.ofChange imageDiffersSpec)) imageDiffersCard

/-- THE SECOND FORM's CARD OF 'becketlaw10.ImageGets'. -/
def imageGetsUptoCard : Claim7 := { stood := { row := imageGetsUptoRow, standIns := [], harness := (true, "26c87c66777202d747efab6fff927dec05289d12d9737c9518ab83f694a82731"), looks := true }, kinds := [], alts := [], laidByText := true, laidKinds := [.data, .pinned], laidTests := true, laidLooks := .later }
def ImageGetsUptoCardSaid : Prop := Claim7.holds Tryd.pinned (.plain (OpenSpec.upto imageGetsSpec)) imageGetsUptoCard

/-- THE SECOND FORM's CARD OF 'becketlaw10.ImagePuts'. -/
def imagePutsUptoCard : Claim7 := { stood := { row := imagePutsUptoRow, standIns := [], harness := (true, "26c87c66777202d747efab6fff927dec05289d12d9737c9518ab83f694a82731"), looks := true }, kinds := [], alts := [], laidByText := true, laidKinds := [.data, .pinned], laidTests := true, laidLooks := .later }
def ImagePutsUptoCardSaid : Prop := Claim7.holds Tryd.pinned (.plain (OpenSpec.upto imagePutsSpec)) imagePutsUptoCard

/-- THE SECOND FORM's CARD OF 'becketlaw10.ImageDiffers'. -/
def imageDiffersUptoCard : Claim7 := { stood := { row := imageDiffersUptoRow, standIns := [], harness := (true, "26c87c66777202d747efab6fff927dec05289d12d9737c9518ab83f694a82731"), looks := true }, kinds := [], alts := [], laidByText := true, laidKinds := [.data, .pinned], laidTests := true, laidLooks := .later }
def ImageDiffersUptoCardSaid : Prop := Claim7.holds Tryd.pinned (.plain (OpenSpec.upto imageDiffersSpec)) imageDiffersUptoCard
end Rows
end Go.Proofs.YtgjoloaajocafaaDoor
