/-
  No cell of these rows narrows 'for every input' (looked for: loops, veiled, ifaces, maps, wideKeys, modest, calm, conditions, laid).
  DERIVED. THE GIVEN ROWS OF THIS SEAT. 8 by the template 'for every input the law returns true; each argument reads behind the call as it read before'; 0 by the template 'total and deterministic' (their statements: YtcandekalmjfaaaTotals.lean).
  GIVEN WITH THE SEED: the statements are not yours to turn. If you find one false, say at which input.
  Laid BY PROGRAM, IN A SANDBOX (cutbox-rows.mjs): the forced cells as the released guide's own fill.sh prints them over the translation 2d3a56044c1e0f57… (all of the seat's roots in one cut). By AI agents, Wed Nov 11 2026. No macro, syntax, notation, axiom, sorry.
-/
import Derived.Test.YtcandekalmjfaaaChecked
import GoSem.Claim
import GoSem.ClaimJoined
import GoSem.ClaimMapViews
import Derived.JoinedTies
import Derived.KernelRfl
namespace Go.Proofs.Ytcandekalmjfaaa
/- THE CELL 'sum', in the pinned program and in every row, IS THE sha256 OF THE DUMP (.gsa) THAT YtcandekalmjfaaaProg.lean LOADS. Nothing in Lean hashes anything: it is a label: what it is worth is what the hold of that sum in a sandbox is worth. -/
noncomputable def Try.pinned : Pinned := { name := "ytcandekalmjfaaa", sum := "2d3a56044c1e0f57c94f1d9c49514ad10277bb45293d636e6ad518284552dc87", checked := Try.checked }
namespace Rows
def none {H : Type} : Left H := { results := [], args := [] }

/-- 'becketlaw13.CertLater': WHATEVER THE INPUT: true; the input reads as it did. -/
def certLaterSpec : ChangeSpec := { name := "certLater", fn := fun _ => fun
  | [d1, d2, d3, d4] => { results := [.lit (.bool true)], args := [d1, d2, d3, d4] }
  | _ => none }
def certLaterRow : OpenClaim := { program := "ytcandekalmjfaaa", sum := "2d3a56044c1e0f57c94f1d9c49514ad10277bb45293d636e6ad518284552dc87", func := "becket/becketlaw13.CertLater", spec := "certLater", apart := false }
def CertLaterSaid : Prop := certLaterRow.holds Try.pinned (OpenSpec.ofChange certLaterSpec)

/-- ITS FALSE NEIGHBOUR: 'it returns false'. Refute it at one input. -/
def certLaterWrong : ChangeSpec := { name := "certLater", fn := fun _ => fun
  | [d1, d2, d3, d4] => { results := [.lit (.bool false)], args := [d1, d2, d3, d4] }
  | _ => none }
def CertLaterWrongFalsely : Prop := certLaterRow.holds Try.pinned (OpenSpec.ofChange certLaterWrong)

/-- 'becketlaw13.CertConflicts': WHATEVER THE INPUT: true; the input reads as it did. -/
def certConflictsSpec : ChangeSpec := { name := "certConflicts", fn := fun _ => fun
  | [d1, d2] => { results := [.lit (.bool true)], args := [d1, d2] }
  | _ => none }
def certConflictsRow : OpenClaim := { program := "ytcandekalmjfaaa", sum := "2d3a56044c1e0f57c94f1d9c49514ad10277bb45293d636e6ad518284552dc87", func := "becket/becketlaw13.CertConflicts", spec := "certConflicts", apart := false }
def CertConflictsSaid : Prop := certConflictsRow.holds Try.pinned (OpenSpec.ofChange certConflictsSpec)

/-- ITS FALSE NEIGHBOUR: 'it returns false'. Refute it at one input. -/
def certConflictsWrong : ChangeSpec := { name := "certConflicts", fn := fun _ => fun
  | [d1, d2] => { results := [.lit (.bool false)], args := [d1, d2] }
  | _ => none }
def CertConflictsWrongFalsely : Prop := certConflictsRow.holds Try.pinned (OpenSpec.ofChange certConflictsWrong)

/-- 'becketlaw13.CertOne': WHATEVER THE INPUT: true; the input reads as it did. -/
def certOneSpec : ChangeSpec := { name := "certOne", fn := fun _ => fun
  | [d1, d2, d3, d4, d5, d6, d7] => { results := [.lit (.bool true)], args := [d1, d2, d3, d4, d5, d6, d7] }
  | _ => none }
def certOneRow : OpenClaim := { program := "ytcandekalmjfaaa", sum := "2d3a56044c1e0f57c94f1d9c49514ad10277bb45293d636e6ad518284552dc87", func := "becket/becketlaw13.CertOne", spec := "certOne", apart := false }
def CertOneSaid : Prop := certOneRow.holds Try.pinned (OpenSpec.ofChange certOneSpec)

/-- ITS FALSE NEIGHBOUR: 'it returns false'. Refute it at one input. -/
def certOneWrong : ChangeSpec := { name := "certOne", fn := fun _ => fun
  | [d1, d2, d3, d4, d5, d6, d7] => { results := [.lit (.bool false)], args := [d1, d2, d3, d4, d5, d6, d7] }
  | _ => none }
def CertOneWrongFalsely : Prop := certOneRow.holds Try.pinned (OpenSpec.ofChange certOneWrong)

/-- 'becketlaw14.ChooseBodies': WHATEVER THE INPUT: true; the input reads as it did. -/
def chooseBodiesSpec : ChangeSpec := { name := "chooseBodies", fn := fun _ => fun
  | [d1, d2, d3] => { results := [.lit (.bool true)], args := [d1, d2, d3] }
  | _ => none }
def chooseBodiesRow : OpenClaim := { program := "ytcandekalmjfaaa", sum := "2d3a56044c1e0f57c94f1d9c49514ad10277bb45293d636e6ad518284552dc87", func := "becket/becketlaw14.ChooseBodies", spec := "chooseBodies", apart := false }
def ChooseBodiesSaid : Prop := chooseBodiesRow.holds Try.pinned (OpenSpec.ofChange chooseBodiesSpec)

/-- ITS FALSE NEIGHBOUR: 'it returns false'. Refute it at one input. -/
def chooseBodiesWrong : ChangeSpec := { name := "chooseBodies", fn := fun _ => fun
  | [d1, d2, d3] => { results := [.lit (.bool false)], args := [d1, d2, d3] }
  | _ => none }
def ChooseBodiesWrongFalsely : Prop := chooseBodiesRow.holds Try.pinned (OpenSpec.ofChange chooseBodiesWrong)

/-- 'becketlaw14.ChooseBest': WHATEVER THE INPUT: true; the input reads as it did. -/
def chooseBestSpec : ChangeSpec := { name := "chooseBest", fn := fun _ => fun
  | [d1, d2, d3, d4] => { results := [.lit (.bool true)], args := [d1, d2, d3, d4] }
  | _ => none }
def chooseBestRow : OpenClaim := { program := "ytcandekalmjfaaa", sum := "2d3a56044c1e0f57c94f1d9c49514ad10277bb45293d636e6ad518284552dc87", func := "becket/becketlaw14.ChooseBest", spec := "chooseBest", apart := false }
def ChooseBestSaid : Prop := chooseBestRow.holds Try.pinned (OpenSpec.ofChange chooseBestSpec)

/-- ITS FALSE NEIGHBOUR: 'it returns false'. Refute it at one input. -/
def chooseBestWrong : ChangeSpec := { name := "chooseBest", fn := fun _ => fun
  | [d1, d2, d3, d4] => { results := [.lit (.bool false)], args := [d1, d2, d3, d4] }
  | _ => none }
def ChooseBestWrongFalsely : Prop := chooseBestRow.holds Try.pinned (OpenSpec.ofChange chooseBestWrong)

/-- 'becketlaw14.ChooseOwn': WHATEVER THE INPUT: true; the input reads as it did. -/
def chooseOwnSpec : ChangeSpec := { name := "chooseOwn", fn := fun _ => fun
  | [d1, d2] => { results := [.lit (.bool true)], args := [d1, d2] }
  | _ => none }
def chooseOwnRow : OpenClaim := { program := "ytcandekalmjfaaa", sum := "2d3a56044c1e0f57c94f1d9c49514ad10277bb45293d636e6ad518284552dc87", func := "becket/becketlaw14.ChooseOwn", spec := "chooseOwn", apart := false }
def ChooseOwnSaid : Prop := chooseOwnRow.holds Try.pinned (OpenSpec.ofChange chooseOwnSpec)

/-- ITS FALSE NEIGHBOUR: 'it returns false'. Refute it at one input. -/
def chooseOwnWrong : ChangeSpec := { name := "chooseOwn", fn := fun _ => fun
  | [d1, d2] => { results := [.lit (.bool false)], args := [d1, d2] }
  | _ => none }
def ChooseOwnWrongFalsely : Prop := chooseOwnRow.holds Try.pinned (OpenSpec.ofChange chooseOwnWrong)

/-- 'becketlaw14.ChooseTwice': WHATEVER THE INPUT: true; the input reads as it did. -/
def chooseTwiceSpec : ChangeSpec := { name := "chooseTwice", fn := fun _ => fun
  | [d] => { results := [.lit (.bool true)], args := [d] }
  | _ => none }
def chooseTwiceRow : OpenClaim := { program := "ytcandekalmjfaaa", sum := "2d3a56044c1e0f57c94f1d9c49514ad10277bb45293d636e6ad518284552dc87", func := "becket/becketlaw14.ChooseTwice", spec := "chooseTwice", apart := false }
def ChooseTwiceSaid : Prop := chooseTwiceRow.holds Try.pinned (OpenSpec.ofChange chooseTwiceSpec)

/-- ITS FALSE NEIGHBOUR: 'it returns false'. Refute it at one input. -/
def chooseTwiceWrong : ChangeSpec := { name := "chooseTwice", fn := fun _ => fun
  | [d] => { results := [.lit (.bool false)], args := [d] }
  | _ => none }
def ChooseTwiceWrongFalsely : Prop := chooseTwiceRow.holds Try.pinned (OpenSpec.ofChange chooseTwiceWrong)

/-- 'becketlaw13.CertMore': WHATEVER THE INPUT: true; the input reads as it did. -/
def certMoreSpec : ChangeSpec := { name := "certMore", fn := fun _ => fun
  | [d1, d2, d3, d4] => { results := [.lit (.bool true)], args := [d1, d2, d3, d4] }
  | _ => none }
def certMoreRow : OpenClaim := { program := "ytcandekalmjfaaa", sum := "2d3a56044c1e0f57c94f1d9c49514ad10277bb45293d636e6ad518284552dc87", func := "becket/becketlaw13.CertMore", spec := "certMore", apart := false }
def CertMoreSaid : Prop := certMoreRow.holds Try.pinned (OpenSpec.ofChange certMoreSpec)

/-- ITS FALSE NEIGHBOUR: 'it returns false'. Refute it at one input. -/
def certMoreWrong : ChangeSpec := { name := "certMore", fn := fun _ => fun
  | [d1, d2, d3, d4] => { results := [.lit (.bool false)], args := [d1, d2, d3, d4] }
  | _ => none }
def CertMoreWrongFalsely : Prop := certMoreRow.holds Try.pinned (OpenSpec.ofChange certMoreWrong)

/- THE SECOND FORM. 'bulk': how many values and letters a reading holds, each counted each time it is reached (what is shared counts as often as it is met; a slice's spare places count too). A statement '..UptoSaid' is the law's where the arguments, and the package variables that the reading takes, are together of bulk at most 1048576: NARROWER than '..Said'. Prove '..Said' where nothing that the law and all that it calls make is longer than what came in: it says more and counts as full. Else prove '..UptoSaid'. A law counts once. -/
mutual
def uptoBulk {H : Type} : DataW H → Nat
  | .lit (.string bytes) => bytes.length + 1
  | .lit _ => 1
  | .nil => 1
  | .ptr d => uptoBulk d + 1
  | .slice elems spare => uptoBulkAll elems + uptoBulkAll spare + 1
  | .agg parts => uptoBulkAll parts + 1
  | .iface _ d => uptoBulk d + 1
  | .map entries => uptoBulkEntries entries + 1
  | .held _ => 1
def uptoBulkAll {H : Type} : List (DataW H) → Nat
  | [] => 0
  | d :: r => uptoBulk d + uptoBulkAll r
def uptoBulkEntries {H : Type} : List (Lit × DataW H) → Nat
  | [] => 0
  | x :: r => uptoBulkEntry x + uptoBulkEntries r
def uptoBulkEntry {H : Type} : Lit × DataW H → Nat
  | (.string bytes, d) => bytes.length + uptoBulk d + 1
  | (_, d) => uptoBulk d + 1
 end
def uptoSmall : (H : Type) → List (DataW H) → Bool := fun _ ds => decide (uptoBulkAll ds ≤ 1048576)
def OpenSpec.upto (s : _root_.Go.ChangeSpec) : _root_.Go.OpenSpec := { _root_.Go.OpenSpec.ofChange s with cond := some uptoSmall }

/-- 'becketlaw13.CertLater', WHERE WHAT IT READS IS OF BULK AT MOST 1048576: true; the input reads as it did. -/
def certLaterUptoRow : OpenClaim := { program := "ytcandekalmjfaaa", sum := "2d3a56044c1e0f57c94f1d9c49514ad10277bb45293d636e6ad518284552dc87", func := "becket/becketlaw13.CertLater", spec := "certLater", apart := false, narrowed := true }
def CertLaterUptoSaid : Prop := certLaterUptoRow.holds Try.pinned (OpenSpec.upto certLaterSpec)

/-- 'becketlaw13.CertConflicts', WHERE WHAT IT READS IS OF BULK AT MOST 1048576: true; the input reads as it did. -/
def certConflictsUptoRow : OpenClaim := { program := "ytcandekalmjfaaa", sum := "2d3a56044c1e0f57c94f1d9c49514ad10277bb45293d636e6ad518284552dc87", func := "becket/becketlaw13.CertConflicts", spec := "certConflicts", apart := false, narrowed := true }
def CertConflictsUptoSaid : Prop := certConflictsUptoRow.holds Try.pinned (OpenSpec.upto certConflictsSpec)

/-- 'becketlaw13.CertOne', WHERE WHAT IT READS IS OF BULK AT MOST 1048576: true; the input reads as it did. -/
def certOneUptoRow : OpenClaim := { program := "ytcandekalmjfaaa", sum := "2d3a56044c1e0f57c94f1d9c49514ad10277bb45293d636e6ad518284552dc87", func := "becket/becketlaw13.CertOne", spec := "certOne", apart := false, narrowed := true }
def CertOneUptoSaid : Prop := certOneUptoRow.holds Try.pinned (OpenSpec.upto certOneSpec)

/-- 'becketlaw14.ChooseBodies', WHERE WHAT IT READS IS OF BULK AT MOST 1048576: true; the input reads as it did. -/
def chooseBodiesUptoRow : OpenClaim := { program := "ytcandekalmjfaaa", sum := "2d3a56044c1e0f57c94f1d9c49514ad10277bb45293d636e6ad518284552dc87", func := "becket/becketlaw14.ChooseBodies", spec := "chooseBodies", apart := false, narrowed := true }
def ChooseBodiesUptoSaid : Prop := chooseBodiesUptoRow.holds Try.pinned (OpenSpec.upto chooseBodiesSpec)

/-- 'becketlaw14.ChooseBest', WHERE WHAT IT READS IS OF BULK AT MOST 1048576: true; the input reads as it did. -/
def chooseBestUptoRow : OpenClaim := { program := "ytcandekalmjfaaa", sum := "2d3a56044c1e0f57c94f1d9c49514ad10277bb45293d636e6ad518284552dc87", func := "becket/becketlaw14.ChooseBest", spec := "chooseBest", apart := false, narrowed := true }
def ChooseBestUptoSaid : Prop := chooseBestUptoRow.holds Try.pinned (OpenSpec.upto chooseBestSpec)

/-- 'becketlaw14.ChooseOwn', WHERE WHAT IT READS IS OF BULK AT MOST 1048576: true; the input reads as it did. -/
def chooseOwnUptoRow : OpenClaim := { program := "ytcandekalmjfaaa", sum := "2d3a56044c1e0f57c94f1d9c49514ad10277bb45293d636e6ad518284552dc87", func := "becket/becketlaw14.ChooseOwn", spec := "chooseOwn", apart := false, narrowed := true }
def ChooseOwnUptoSaid : Prop := chooseOwnUptoRow.holds Try.pinned (OpenSpec.upto chooseOwnSpec)

/-- 'becketlaw14.ChooseTwice', WHERE WHAT IT READS IS OF BULK AT MOST 1048576: true; the input reads as it did. -/
def chooseTwiceUptoRow : OpenClaim := { program := "ytcandekalmjfaaa", sum := "2d3a56044c1e0f57c94f1d9c49514ad10277bb45293d636e6ad518284552dc87", func := "becket/becketlaw14.ChooseTwice", spec := "chooseTwice", apart := false, narrowed := true }
def ChooseTwiceUptoSaid : Prop := chooseTwiceUptoRow.holds Try.pinned (OpenSpec.upto chooseTwiceSpec)

/-- 'becketlaw13.CertMore', WHERE WHAT IT READS IS OF BULK AT MOST 1048576: true; the input reads as it did. -/
def certMoreUptoRow : OpenClaim := { program := "ytcandekalmjfaaa", sum := "2d3a56044c1e0f57c94f1d9c49514ad10277bb45293d636e6ad518284552dc87", func := "becket/becketlaw13.CertMore", spec := "certMore", apart := false, narrowed := true }
def CertMoreUptoSaid : Prop := certMoreUptoRow.holds Try.pinned (OpenSpec.upto certMoreSpec)

end Rows
end Go.Proofs.Ytcandekalmjfaaa
