/- The A-logic: stores in regions that draw, by any rule. -/
import Derived.Test.YtohmbpcjapjkbaaGreatDoorAlZm
set_option linter.all false
namespace Go.Proofs.YtohmbpcjapjkbaaGreatDoorAl
section
variable {P : Program} {ops : Array Oper} {q : S → Prop} {N n : Nat} {t : Tm} {h : Heap} {L : Lay} {ty : TypeId} {pos : String} {af : Array Edge} {g : Option (Nat × Bool)}
variable {done : List Mini} {i : Nat} {A D : List Nat} {le : List Entry} {op : Op} {F : Heap} {fn : List Nat}
end
end Go.Proofs.YtohmbpcjapjkbaaGreatDoorAl
