/- The A-logic: calls that are handed objects, and leave them as they are. -/
import Derived.Test.YtohmbpcjapjkbaaGreatDoorAlZg
set_option linter.all false
namespace Go.Proofs.YtohmbpcjapjkbaaGreatDoorAl
def ddN : List Nat → List Nat → List Nat
  | [], acc => acc.reverse
  | x :: r, acc => cond (hasN acc x) (ddN r acc) (ddN r (x :: acc))
def covers (h0 : Heap) (m : Nat) : Bool := (List.range m).all fun i => (look h0 i).isSome
section
variable {P : Program} {ops : Array Oper} {j : Nat} {l : List Oper} {q : S → Prop} {s : S} {N n : Nat} {t : Tm} {h : Heap} {Q : Exit → S → Prop} {L : Lay}
variable {d : Nat} {ty : TypeId} {pos : String} {af : Array Edge} {g : Option (Nat × Bool)}
end
end Go.Proofs.YtohmbpcjapjkbaaGreatDoorAl
