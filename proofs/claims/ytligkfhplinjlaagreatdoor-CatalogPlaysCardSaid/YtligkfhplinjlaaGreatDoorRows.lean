/-
  NARROWER THAN 'FOR EVERY INPUT', by the rows' own cells (each row's printed sentence says how): CatalogApart: laid · CatalogPlans: laid · CatalogRefuses: laid · CatalogAborts: laid · CatalogHolds: laid · CatalogPlays: laid · CatalogStays: laid · CatalogFrom: laid.
  DERIVED. THE GIVEN ROWS OF THIS SEAT. 8 by the template 'for every input the law returns true; each argument reads behind the call as it read before'; 0 by the template 'total and deterministic' (their statements: YtligkfhplinjlaaGreatDoorTotals.lean).
  GIVEN WITH THE SEED: the statements are not yours to turn. If you find one false, say at which input.
  Laid BY PROGRAM, IN A SANDBOX (cutbox-rows.mjs): the forced cells as the released guide's own fill.sh prints them over the translation 3e685d1d95039310… (all of the seat's roots in one cut). By AI agents, Wed Nov 11 2026. No macro, syntax, notation, axiom, sorry.
-/
import Derived.Test.YtligkfhplinjlaaGreatDoorChecked
import GoSem.PinnedTables
import GoSem.Claim
import GoSem.ClaimJoined
import GoSem.ClaimMapViews
import Derived.JoinedTies
import Derived.KernelRfl
namespace Go.Proofs.YtligkfhplinjlaaGreatDoor
/- THE CELL 'sum', in the pinned program and in every row, IS THE sha256 OF THE DUMP (.gsa) THAT YtligkfhplinjlaaGreatDoorProg.lean LOADS. Nothing in Lean hashes anything: it is a label: what it is worth is what the hold of that sum in a sandbox is worth. -/
noncomputable def Tryz.pinned : Pinned := { name := "ytligkfhplinjlaagreatdoor", sum := "3e685d1d95039310ff96920265927d395929a56e558899927fe74a5ca8422e5a", checked := Tryz.checked }
namespace Rows
def none {H : Type} : Left H := { results := [], args := [] }

/- WHAT THE LISTED PACKAGE-LEVEL VARIABLES READ AS WHEN THE CALL BEGINS. Each datum BY PROGRAM (the guide's laid-datum.mjs) off the statement by which the dump's own 'gosem.cut.vars' lays the variable. In a bare row this is a premise. The card (YtligkfhplinjlaaGreatDoorCards.lean) ties it to the program's text. -/
def laid_unicode_utf8_acceptRanges {H : Type} : DataW H := .agg [.agg [.lit (.int .u8 128), .lit (.int .u8 191)], .agg [.lit (.int .u8 160), .lit (.int .u8 191)], .agg [.lit (.int .u8 128), .lit (.int .u8 159)], .agg [.lit (.int .u8 144), .lit (.int .u8 191)], .agg [.lit (.int .u8 128), .lit (.int .u8 143)], .agg [.lit (.int .u8 0), .lit (.int .u8 0)], .agg [.lit (.int .u8 0), .lit (.int .u8 0)], .agg [.lit (.int .u8 0), .lit (.int .u8 0)], .agg [.lit (.int .u8 0), .lit (.int .u8 0)], .agg [.lit (.int .u8 0), .lit (.int .u8 0)], .agg [.lit (.int .u8 0), .lit (.int .u8 0)], .agg [.lit (.int .u8 0), .lit (.int .u8 0)], .agg [.lit (.int .u8 0), .lit (.int .u8 0)], .agg [.lit (.int .u8 0), .lit (.int .u8 0)], .agg [.lit (.int .u8 0), .lit (.int .u8 0)], .agg [.lit (.int .u8 0), .lit (.int .u8 0)]]
/-- One of Go's own tables, pinned by name: the form's constant. -/
def laid_unicode_utf8_first : DataW Unit := Go.Pinned.utf8First

/-- 'becketlaw09.CatalogApart': WHATEVER THE INPUT: true; the input reads as it did. -/
def catalogApartSpec : ChangeSpec := { name := "catalogApart", fn := fun _ => fun
  | [d1, d2] => { results := [.lit (.bool true)], args := [d1, d2] }
  | _ => none }
def catalogApartRow : OpenClaim := { program := "ytligkfhplinjlaagreatdoor", sum := "3e685d1d95039310ff96920265927d395929a56e558899927fe74a5ca8422e5a", func := "becket/becketlaw09.CatalogApart", spec := "catalogApart", inPlace := ["internal/bytealg.CountString", "internal/bytealg.IndexByteString", "internal/bytealg.IndexString", "internal/abi.NoEscape", "internal/bytealg.MakeNoZero"], unfollowed := true, recurses := true, named := ["unicode/utf8.first", "unicode/utf8.acceptRanges", "internal/bytealg.MaxLen"], apart := false, laid := [("unicode/utf8.acceptRanges", laid_unicode_utf8_acceptRanges), ("unicode/utf8.first", laid_unicode_utf8_first)] }
def CatalogApartSaid : Prop := catalogApartRow.holds Tryz.pinned (OpenSpec.ofChange catalogApartSpec)

/-- ITS FALSE NEIGHBOUR: 'it returns false'. Refute it at one input. -/
def catalogApartWrong : ChangeSpec := { name := "catalogApart", fn := fun _ => fun
  | [d1, d2] => { results := [.lit (.bool false)], args := [d1, d2] }
  | _ => none }
def CatalogApartWrongFalsely : Prop := catalogApartRow.holds Tryz.pinned (OpenSpec.ofChange catalogApartWrong)

/-- 'becketlaw09.CatalogPlans': WHATEVER THE INPUT: true; the input reads as it did. -/
def catalogPlansSpec : ChangeSpec := { name := "catalogPlans", fn := fun _ => fun
  | [d1, d2, d3, d4] => { results := [.lit (.bool true)], args := [d1, d2, d3, d4] }
  | _ => none }
def catalogPlansRow : OpenClaim := { program := "ytligkfhplinjlaagreatdoor", sum := "3e685d1d95039310ff96920265927d395929a56e558899927fe74a5ca8422e5a", func := "becket/becketlaw09.CatalogPlans", spec := "catalogPlans", inPlace := ["internal/bytealg.CountString", "internal/bytealg.IndexByteString", "internal/bytealg.IndexString", "internal/abi.NoEscape", "internal/bytealg.MakeNoZero"], unfollowed := true, recurses := true, named := ["unicode/utf8.first", "unicode/utf8.acceptRanges", "internal/bytealg.MaxLen"], apart := false, laid := [("unicode/utf8.acceptRanges", laid_unicode_utf8_acceptRanges), ("unicode/utf8.first", laid_unicode_utf8_first)] }
def CatalogPlansSaid : Prop := catalogPlansRow.holds Tryz.pinned (OpenSpec.ofChange catalogPlansSpec)

/-- ITS FALSE NEIGHBOUR: 'it returns false'. Refute it at one input. -/
def catalogPlansWrong : ChangeSpec := { name := "catalogPlans", fn := fun _ => fun
  | [d1, d2, d3, d4] => { results := [.lit (.bool false)], args := [d1, d2, d3, d4] }
  | _ => none }
def CatalogPlansWrongFalsely : Prop := catalogPlansRow.holds Tryz.pinned (OpenSpec.ofChange catalogPlansWrong)

/-- 'becketlaw09.CatalogRefuses': WHATEVER THE INPUT: true; the input reads as it did. -/
def catalogRefusesSpec : ChangeSpec := { name := "catalogRefuses", fn := fun _ => fun
  | [d] => { results := [.lit (.bool true)], args := [d] }
  | _ => none }
def catalogRefusesRow : OpenClaim := { program := "ytligkfhplinjlaagreatdoor", sum := "3e685d1d95039310ff96920265927d395929a56e558899927fe74a5ca8422e5a", func := "becket/becketlaw09.CatalogRefuses", spec := "catalogRefuses", inPlace := ["internal/bytealg.CountString", "internal/bytealg.IndexByteString", "internal/bytealg.IndexString", "internal/abi.NoEscape", "internal/bytealg.MakeNoZero"], unfollowed := true, recurses := true, named := ["unicode/utf8.first", "unicode/utf8.acceptRanges", "internal/bytealg.MaxLen"], apart := false, laid := [("unicode/utf8.acceptRanges", laid_unicode_utf8_acceptRanges), ("unicode/utf8.first", laid_unicode_utf8_first)] }
def CatalogRefusesSaid : Prop := catalogRefusesRow.holds Tryz.pinned (OpenSpec.ofChange catalogRefusesSpec)

/-- ITS FALSE NEIGHBOUR: 'it returns false'. Refute it at one input. -/
def catalogRefusesWrong : ChangeSpec := { name := "catalogRefuses", fn := fun _ => fun
  | [d] => { results := [.lit (.bool false)], args := [d] }
  | _ => none }
def CatalogRefusesWrongFalsely : Prop := catalogRefusesRow.holds Tryz.pinned (OpenSpec.ofChange catalogRefusesWrong)

/-- 'becketlaw09.CatalogAborts': WHATEVER THE INPUT: true; the input reads as it did. -/
def catalogAbortsSpec : ChangeSpec := { name := "catalogAborts", fn := fun _ => fun
  | [d1, d2, d3, d4] => { results := [.lit (.bool true)], args := [d1, d2, d3, d4] }
  | _ => none }
def catalogAbortsRow : OpenClaim := { program := "ytligkfhplinjlaagreatdoor", sum := "3e685d1d95039310ff96920265927d395929a56e558899927fe74a5ca8422e5a", func := "becket/becketlaw09.CatalogAborts", spec := "catalogAborts", inPlace := ["internal/bytealg.CountString", "internal/bytealg.IndexByteString", "internal/bytealg.IndexString", "internal/abi.NoEscape", "internal/bytealg.MakeNoZero"], unfollowed := true, recurses := true, named := ["unicode/utf8.first", "unicode/utf8.acceptRanges", "internal/bytealg.MaxLen"], apart := false, laid := [("unicode/utf8.acceptRanges", laid_unicode_utf8_acceptRanges), ("unicode/utf8.first", laid_unicode_utf8_first)] }
def CatalogAbortsSaid : Prop := catalogAbortsRow.holds Tryz.pinned (OpenSpec.ofChange catalogAbortsSpec)

/-- ITS FALSE NEIGHBOUR: 'it returns false'. Refute it at one input. -/
def catalogAbortsWrong : ChangeSpec := { name := "catalogAborts", fn := fun _ => fun
  | [d1, d2, d3, d4] => { results := [.lit (.bool false)], args := [d1, d2, d3, d4] }
  | _ => none }
def CatalogAbortsWrongFalsely : Prop := catalogAbortsRow.holds Tryz.pinned (OpenSpec.ofChange catalogAbortsWrong)

/-- 'becketlaw09.CatalogHolds': WHATEVER THE INPUT: true; the input reads as it did. -/
def catalogHoldsSpec : ChangeSpec := { name := "catalogHolds", fn := fun _ => fun
  | [d1, d2, d3] => { results := [.lit (.bool true)], args := [d1, d2, d3] }
  | _ => none }
def catalogHoldsRow : OpenClaim := { program := "ytligkfhplinjlaagreatdoor", sum := "3e685d1d95039310ff96920265927d395929a56e558899927fe74a5ca8422e5a", func := "becket/becketlaw09.CatalogHolds", spec := "catalogHolds", inPlace := ["internal/bytealg.CountString", "internal/bytealg.IndexByteString", "internal/bytealg.IndexString", "internal/abi.NoEscape", "internal/bytealg.MakeNoZero"], unfollowed := true, recurses := true, named := ["unicode/utf8.first", "unicode/utf8.acceptRanges", "internal/bytealg.MaxLen"], apart := false, laid := [("unicode/utf8.acceptRanges", laid_unicode_utf8_acceptRanges), ("unicode/utf8.first", laid_unicode_utf8_first)] }
def CatalogHoldsSaid : Prop := catalogHoldsRow.holds Tryz.pinned (OpenSpec.ofChange catalogHoldsSpec)

/-- ITS FALSE NEIGHBOUR: 'it returns false'. Refute it at one input. -/
def catalogHoldsWrong : ChangeSpec := { name := "catalogHolds", fn := fun _ => fun
  | [d1, d2, d3] => { results := [.lit (.bool false)], args := [d1, d2, d3] }
  | _ => none }
def CatalogHoldsWrongFalsely : Prop := catalogHoldsRow.holds Tryz.pinned (OpenSpec.ofChange catalogHoldsWrong)

/-- 'becketlaw09.CatalogPlays': WHATEVER THE INPUT: true; the input reads as it did. -/
def catalogPlaysSpec : ChangeSpec := { name := "catalogPlays", fn := fun _ => fun
  | [d1, d2] => { results := [.lit (.bool true)], args := [d1, d2] }
  | _ => none }
def catalogPlaysRow : OpenClaim := { program := "ytligkfhplinjlaagreatdoor", sum := "3e685d1d95039310ff96920265927d395929a56e558899927fe74a5ca8422e5a", func := "becket/becketlaw09.CatalogPlays", spec := "catalogPlays", inPlace := ["internal/bytealg.CountString", "internal/bytealg.IndexByteString", "internal/bytealg.IndexString", "internal/abi.NoEscape", "internal/bytealg.MakeNoZero"], unfollowed := true, recurses := true, named := ["unicode/utf8.first", "unicode/utf8.acceptRanges", "internal/bytealg.MaxLen"], apart := false, laid := [("unicode/utf8.acceptRanges", laid_unicode_utf8_acceptRanges), ("unicode/utf8.first", laid_unicode_utf8_first)] }
def CatalogPlaysSaid : Prop := catalogPlaysRow.holds Tryz.pinned (OpenSpec.ofChange catalogPlaysSpec)

/-- ITS FALSE NEIGHBOUR: 'it returns false'. Refute it at one input. -/
def catalogPlaysWrong : ChangeSpec := { name := "catalogPlays", fn := fun _ => fun
  | [d1, d2] => { results := [.lit (.bool false)], args := [d1, d2] }
  | _ => none }
def CatalogPlaysWrongFalsely : Prop := catalogPlaysRow.holds Tryz.pinned (OpenSpec.ofChange catalogPlaysWrong)

/-- 'becketlaw09.CatalogStays': WHATEVER THE INPUT: true; the input reads as it did. -/
def catalogStaysSpec : ChangeSpec := { name := "catalogStays", fn := fun _ => fun
  | [d1, d2] => { results := [.lit (.bool true)], args := [d1, d2] }
  | _ => none }
def catalogStaysRow : OpenClaim := { program := "ytligkfhplinjlaagreatdoor", sum := "3e685d1d95039310ff96920265927d395929a56e558899927fe74a5ca8422e5a", func := "becket/becketlaw09.CatalogStays", spec := "catalogStays", inPlace := ["internal/bytealg.CountString", "internal/bytealg.IndexByteString", "internal/bytealg.IndexString", "internal/abi.NoEscape", "internal/bytealg.MakeNoZero"], unfollowed := true, recurses := true, named := ["unicode/utf8.first", "unicode/utf8.acceptRanges", "internal/bytealg.MaxLen"], apart := false, laid := [("unicode/utf8.acceptRanges", laid_unicode_utf8_acceptRanges), ("unicode/utf8.first", laid_unicode_utf8_first)] }
def CatalogStaysSaid : Prop := catalogStaysRow.holds Tryz.pinned (OpenSpec.ofChange catalogStaysSpec)

/-- ITS FALSE NEIGHBOUR: 'it returns false'. Refute it at one input. -/
def catalogStaysWrong : ChangeSpec := { name := "catalogStays", fn := fun _ => fun
  | [d1, d2] => { results := [.lit (.bool false)], args := [d1, d2] }
  | _ => none }
def CatalogStaysWrongFalsely : Prop := catalogStaysRow.holds Tryz.pinned (OpenSpec.ofChange catalogStaysWrong)

/-- 'becketlaw09.CatalogFrom': WHATEVER THE INPUT: true; the input reads as it did. -/
def catalogFromSpec : ChangeSpec := { name := "catalogFrom", fn := fun _ => fun
  | [d1, d2] => { results := [.lit (.bool true)], args := [d1, d2] }
  | _ => none }
def catalogFromRow : OpenClaim := { program := "ytligkfhplinjlaagreatdoor", sum := "3e685d1d95039310ff96920265927d395929a56e558899927fe74a5ca8422e5a", func := "becket/becketlaw09.CatalogFrom", spec := "catalogFrom", inPlace := ["internal/bytealg.CountString", "internal/bytealg.IndexByteString", "internal/bytealg.IndexString", "internal/abi.NoEscape", "internal/bytealg.MakeNoZero"], unfollowed := true, recurses := true, named := ["unicode/utf8.first", "unicode/utf8.acceptRanges", "internal/bytealg.MaxLen"], apart := false, laid := [("unicode/utf8.acceptRanges", laid_unicode_utf8_acceptRanges), ("unicode/utf8.first", laid_unicode_utf8_first)] }
def CatalogFromSaid : Prop := catalogFromRow.holds Tryz.pinned (OpenSpec.ofChange catalogFromSpec)

/-- ITS FALSE NEIGHBOUR: 'it returns false'. Refute it at one input. -/
def catalogFromWrong : ChangeSpec := { name := "catalogFrom", fn := fun _ => fun
  | [d1, d2] => { results := [.lit (.bool false)], args := [d1, d2] }
  | _ => none }
def CatalogFromWrongFalsely : Prop := catalogFromRow.holds Tryz.pinned (OpenSpec.ofChange catalogFromWrong)

/- THE SECOND FORM. 'bulk': how many values and letters a reading holds, each counted each time it is reached (what is shared counts as often as it is met; a slice's spare places count too). A statement '..UptoSaid' is the law's where the arguments, and the package variables that the reading takes, are together of bulk at most 1048576: NARROWER than '..Said'. Prove '..Said' where nothing that the law and all that it calls make is longer than what came in: it says more and counts as full. Else prove '..UptoSaid'. A law counts once. -/
mutual
def uptoBulk {H : Type} : DataW H → Nat
  | .lit (.string bytes) => bytes.length + 1
  | .lit _ => 1
  | .nil => 1
  | .ptr d => uptoBulk d + 1
  | .slice elems spare => uptoBulkAll elems + uptoBulkAll spare + 1
  | .agg parts => uptoBulkAll parts + 1
  | .iface _ d => uptoBulk d + 1
  | .map entries => uptoBulkEntries entries + 1
  | .held _ => 1
def uptoBulkAll {H : Type} : List (DataW H) → Nat
  | [] => 0
  | d :: r => uptoBulk d + uptoBulkAll r
def uptoBulkEntries {H : Type} : List (Lit × DataW H) → Nat
  | [] => 0
  | x :: r => uptoBulkEntry x + uptoBulkEntries r
def uptoBulkEntry {H : Type} : Lit × DataW H → Nat
  | (.string bytes, d) => bytes.length + uptoBulk d + 1
  | (_, d) => uptoBulk d + 1
 end
def uptoSmall : (H : Type) → List (DataW H) → Bool := fun _ ds => decide (uptoBulkAll ds ≤ 1048576)
def OpenSpec.upto (s : _root_.Go.ChangeSpec) : _root_.Go.OpenSpec := { _root_.Go.OpenSpec.ofChange s with cond := some uptoSmall }

/-- 'becketlaw09.CatalogApart', WHERE WHAT IT READS IS OF BULK AT MOST 1048576: true; the input reads as it did. -/
def catalogApartUptoRow : OpenClaim := { program := "ytligkfhplinjlaagreatdoor", sum := "3e685d1d95039310ff96920265927d395929a56e558899927fe74a5ca8422e5a", func := "becket/becketlaw09.CatalogApart", spec := "catalogApart", inPlace := ["internal/bytealg.CountString", "internal/bytealg.IndexByteString", "internal/bytealg.IndexString", "internal/abi.NoEscape", "internal/bytealg.MakeNoZero"], unfollowed := true, recurses := true, named := ["unicode/utf8.first", "unicode/utf8.acceptRanges", "internal/bytealg.MaxLen"], apart := false, laid := [("unicode/utf8.acceptRanges", laid_unicode_utf8_acceptRanges), ("unicode/utf8.first", laid_unicode_utf8_first)], narrowed := true }
def CatalogApartUptoSaid : Prop := catalogApartUptoRow.holds Tryz.pinned (OpenSpec.upto catalogApartSpec)

/-- 'becketlaw09.CatalogPlans', WHERE WHAT IT READS IS OF BULK AT MOST 1048576: true; the input reads as it did. -/
def catalogPlansUptoRow : OpenClaim := { program := "ytligkfhplinjlaagreatdoor", sum := "3e685d1d95039310ff96920265927d395929a56e558899927fe74a5ca8422e5a", func := "becket/becketlaw09.CatalogPlans", spec := "catalogPlans", inPlace := ["internal/bytealg.CountString", "internal/bytealg.IndexByteString", "internal/bytealg.IndexString", "internal/abi.NoEscape", "internal/bytealg.MakeNoZero"], unfollowed := true, recurses := true, named := ["unicode/utf8.first", "unicode/utf8.acceptRanges", "internal/bytealg.MaxLen"], apart := false, laid := [("unicode/utf8.acceptRanges", laid_unicode_utf8_acceptRanges), ("unicode/utf8.first", laid_unicode_utf8_first)], narrowed := true }
def CatalogPlansUptoSaid : Prop := catalogPlansUptoRow.holds Tryz.pinned (OpenSpec.upto catalogPlansSpec)

/-- 'becketlaw09.CatalogRefuses', WHERE WHAT IT READS IS OF BULK AT MOST 1048576: true; the input reads as it did. -/
def catalogRefusesUptoRow : OpenClaim := { program := "ytligkfhplinjlaagreatdoor", sum := "3e685d1d95039310ff96920265927d395929a56e558899927fe74a5ca8422e5a", func := "becket/becketlaw09.CatalogRefuses", spec := "catalogRefuses", inPlace := ["internal/bytealg.CountString", "internal/bytealg.IndexByteString", "internal/bytealg.IndexString", "internal/abi.NoEscape", "internal/bytealg.MakeNoZero"], unfollowed := true, recurses := true, named := ["unicode/utf8.first", "unicode/utf8.acceptRanges", "internal/bytealg.MaxLen"], apart := false, laid := [("unicode/utf8.acceptRanges", laid_unicode_utf8_acceptRanges), ("unicode/utf8.first", laid_unicode_utf8_first)], narrowed := true }
def CatalogRefusesUptoSaid : Prop := catalogRefusesUptoRow.holds Tryz.pinned (OpenSpec.upto catalogRefusesSpec)

/-- 'becketlaw09.CatalogAborts', WHERE WHAT IT READS IS OF BULK AT MOST 1048576: true; the input reads as it did. -/
def catalogAbortsUptoRow : OpenClaim := { program := "ytligkfhplinjlaagreatdoor", sum := "3e685d1d95039310ff96920265927d395929a56e558899927fe74a5ca8422e5a", func := "becket/becketlaw09.CatalogAborts", spec := "catalogAborts", inPlace := ["internal/bytealg.CountString", "internal/bytealg.IndexByteString", "internal/bytealg.IndexString", "internal/abi.NoEscape", "internal/bytealg.MakeNoZero"], unfollowed := true, recurses := true, named := ["unicode/utf8.first", "unicode/utf8.acceptRanges", "internal/bytealg.MaxLen"], apart := false, laid := [("unicode/utf8.acceptRanges", laid_unicode_utf8_acceptRanges), ("unicode/utf8.first", laid_unicode_utf8_first)], narrowed := true }
def CatalogAbortsUptoSaid : Prop := catalogAbortsUptoRow.holds Tryz.pinned (OpenSpec.upto catalogAbortsSpec)

/-- 'becketlaw09.CatalogHolds', WHERE WHAT IT READS IS OF BULK AT MOST 1048576: true; the input reads as it did. -/
def catalogHoldsUptoRow : OpenClaim := { program := "ytligkfhplinjlaagreatdoor", sum := "3e685d1d95039310ff96920265927d395929a56e558899927fe74a5ca8422e5a", func := "becket/becketlaw09.CatalogHolds", spec := "catalogHolds", inPlace := ["internal/bytealg.CountString", "internal/bytealg.IndexByteString", "internal/bytealg.IndexString", "internal/abi.NoEscape", "internal/bytealg.MakeNoZero"], unfollowed := true, recurses := true, named := ["unicode/utf8.first", "unicode/utf8.acceptRanges", "internal/bytealg.MaxLen"], apart := false, laid := [("unicode/utf8.acceptRanges", laid_unicode_utf8_acceptRanges), ("unicode/utf8.first", laid_unicode_utf8_first)], narrowed := true }
def CatalogHoldsUptoSaid : Prop := catalogHoldsUptoRow.holds Tryz.pinned (OpenSpec.upto catalogHoldsSpec)

/-- 'becketlaw09.CatalogPlays', WHERE WHAT IT READS IS OF BULK AT MOST 1048576: true; the input reads as it did. -/
def catalogPlaysUptoRow : OpenClaim := { program := "ytligkfhplinjlaagreatdoor", sum := "3e685d1d95039310ff96920265927d395929a56e558899927fe74a5ca8422e5a", func := "becket/becketlaw09.CatalogPlays", spec := "catalogPlays", inPlace := ["internal/bytealg.CountString", "internal/bytealg.IndexByteString", "internal/bytealg.IndexString", "internal/abi.NoEscape", "internal/bytealg.MakeNoZero"], unfollowed := true, recurses := true, named := ["unicode/utf8.first", "unicode/utf8.acceptRanges", "internal/bytealg.MaxLen"], apart := false, laid := [("unicode/utf8.acceptRanges", laid_unicode_utf8_acceptRanges), ("unicode/utf8.first", laid_unicode_utf8_first)], narrowed := true }
def CatalogPlaysUptoSaid : Prop := catalogPlaysUptoRow.holds Tryz.pinned (OpenSpec.upto catalogPlaysSpec)

/-- 'becketlaw09.CatalogStays', WHERE WHAT IT READS IS OF BULK AT MOST 1048576: true; the input reads as it did. -/
def catalogStaysUptoRow : OpenClaim := { program := "ytligkfhplinjlaagreatdoor", sum := "3e685d1d95039310ff96920265927d395929a56e558899927fe74a5ca8422e5a", func := "becket/becketlaw09.CatalogStays", spec := "catalogStays", inPlace := ["internal/bytealg.CountString", "internal/bytealg.IndexByteString", "internal/bytealg.IndexString", "internal/abi.NoEscape", "internal/bytealg.MakeNoZero"], unfollowed := true, recurses := true, named := ["unicode/utf8.first", "unicode/utf8.acceptRanges", "internal/bytealg.MaxLen"], apart := false, laid := [("unicode/utf8.acceptRanges", laid_unicode_utf8_acceptRanges), ("unicode/utf8.first", laid_unicode_utf8_first)], narrowed := true }
def CatalogStaysUptoSaid : Prop := catalogStaysUptoRow.holds Tryz.pinned (OpenSpec.upto catalogStaysSpec)

/-- 'becketlaw09.CatalogFrom', WHERE WHAT IT READS IS OF BULK AT MOST 1048576: true; the input reads as it did. -/
def catalogFromUptoRow : OpenClaim := { program := "ytligkfhplinjlaagreatdoor", sum := "3e685d1d95039310ff96920265927d395929a56e558899927fe74a5ca8422e5a", func := "becket/becketlaw09.CatalogFrom", spec := "catalogFrom", inPlace := ["internal/bytealg.CountString", "internal/bytealg.IndexByteString", "internal/bytealg.IndexString", "internal/abi.NoEscape", "internal/bytealg.MakeNoZero"], unfollowed := true, recurses := true, named := ["unicode/utf8.first", "unicode/utf8.acceptRanges", "internal/bytealg.MaxLen"], apart := false, laid := [("unicode/utf8.acceptRanges", laid_unicode_utf8_acceptRanges), ("unicode/utf8.first", laid_unicode_utf8_first)], narrowed := true }
def CatalogFromUptoSaid : Prop := catalogFromUptoRow.holds Tryz.pinned (OpenSpec.upto catalogFromSpec)

end Rows
end Go.Proofs.YtligkfhplinjlaaGreatDoor
