/- The A-logic: bytes made a text, rows told apart. -/
import Derived.Test.YtohmbpcjapjkbaaGreatDoorAlZl
set_option linter.all false
namespace Go.Proofs.YtohmbpcjapjkbaaGreatDoorAl
section
variable {P : Program} {ops : Array Oper} {j : Nat} {l : List Oper} {q : S → Prop} {N n : Nat} {t : Tm} {h : Heap} {d : Nat} {ty : TypeId} {pos : String} {af : Array Edge} {g : Option (Nat × Bool)} {L : Lay}
end
end Go.Proofs.YtohmbpcjapjkbaaGreatDoorAl
