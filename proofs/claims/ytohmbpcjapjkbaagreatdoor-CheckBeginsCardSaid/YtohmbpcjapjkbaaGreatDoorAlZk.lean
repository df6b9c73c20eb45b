/- The A-logic: bytes made a text. -/
import Derived.Test.YtohmbpcjapjkbaaGreatDoorAlZj
import Derived.Laws.BytesString
import Derived.Laws.Cells
set_option linter.all false
namespace Go.Proofs.YtohmbpcjapjkbaaGreatDoorAl
section
variable {P : Program} {ops : Array Oper} {j : Nat} {l : List Oper} {q : S → Prop} {N n : Nat} {t : Tm} {h : Heap} {d : Nat} {ty : TypeId} {pos : String} {af : Array Edge} {g : Option (Nat × Bool)} {L : Lay}
end
end Go.Proofs.YtohmbpcjapjkbaaGreatDoorAl
