/- The A-logic: slices of one's own arrays; bytes as texts. -/
import Derived.Test.YtohmbpcjapjkbaaGreatDoorAlZe
import Derived.Laws.BytesString
set_option linter.all false
namespace Go.Proofs.YtohmbpcjapjkbaaGreatDoorAl
section
variable {P : Program} {ops : Array Oper} {j : Nat} {l : List Oper} {q : S → Prop} {s : S} {N n : Nat} {t : Tm} {h : Heap} {Q : Exit → S → Prop} {L : Lay}
variable {d : Nat} {op : Op} {ty : TypeId} {pos : String} {af : Array Edge} {g : Option (Nat × Bool)}
end
end Go.Proofs.YtohmbpcjapjkbaaGreatDoorAl
