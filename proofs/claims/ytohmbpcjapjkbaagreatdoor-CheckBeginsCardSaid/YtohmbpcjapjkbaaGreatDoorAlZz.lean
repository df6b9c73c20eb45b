/- The A-logic: nil tests of slices of ours. -/
import Derived.Test.YtohmbpcjapjkbaaGreatDoorAlZx
set_option linter.all false
namespace Go.Proofs.YtohmbpcjapjkbaaGreatDoorAl
section
variable {P : Program} {ops : Array Oper} {j : Nat} {l : List Oper} {q : S → Prop} {s : S} {N n : Nat} {t : Tm} {h : Heap} {Q : Exit → S → Prop} {L : Lay}
variable {d : Nat} {op : Op} {ty : TypeId} {pos : String} {af : Array Edge} {g : Option (Nat × Bool)}
variable {done : List Mini} {i : Nat} {A D : List Nat} {le : List Entry} {x : AV} {F : Heap} {fn : List Nat}
end
end Go.Proofs.YtohmbpcjapjkbaaGreatDoorAl
