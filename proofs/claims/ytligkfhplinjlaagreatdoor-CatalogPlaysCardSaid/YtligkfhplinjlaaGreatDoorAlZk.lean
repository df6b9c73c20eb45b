/- The A-logic: bytes made a text. -/
import Derived.Test.YtligkfhplinjlaaGreatDoorAlZj
import Derived.Laws.BytesString
import Derived.Laws.Cells
set_option linter.all false
namespace Go.Proofs.YtligkfhplinjlaaGreatDoorAl
def strOf (l : List UInt8) : ByteArray := ⟨l.toArray⟩
section
variable {P : Program} {ops : Array Oper} {j : Nat} {l : List Oper} {q : S → Prop} {N n : Nat} {t : Tm} {h : Heap} {d : Nat} {ty : TypeId} {pos : String} {af : Array Edge} {g : Option (Nat × Bool)} {L : Lay}
end
end Go.Proofs.YtligkfhplinjlaaGreatDoorAl
