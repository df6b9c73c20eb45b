/- The A-logic: in a region that draws its order, a call that is handed an array of ours that nobody needs any more. -/
import Derived.Test.YtligkfhplinjlaaGreatDoorAlZj
import Derived.Test.YtligkfhplinjlaaGreatDoorAlZo
import Derived.Test.YtligkfhplinjlaaGreatDoorAlZl
set_option linter.all false
namespace Go.Proofs.YtligkfhplinjlaaGreatDoorAl
section
variable {P : Program} {ops : Array Oper} {q : S → Prop} {N n d : Nat} {t : Tm} {h : Heap} {ty : TypeId} {pos : String} {af : Array Edge} {g : Option (Nat × Bool)}
variable {done : List Mini} {i : Nat} {A D : List Nat} {le : List Entry} {op : Op} {F : Heap} {fn : List Nat} {x : AV}
theorem OpSpec.wk {r : Rec} {t2 : Tm} {F2 : Heap} (hw : Wk ⟨N, r.nin, r.tin, r.F⟩ ⟨N, r.nin, t2, F2⟩) (k : OpSpec P ops N { r with tin := t2, F := F2 }) : OpSpec P ops N r := fun c a hs K Qx hK => by
  obtain ⟨c1, h1, h2⟩ := hw c a hs
  have h3 : Ev c r.F c1 F2 := (Ev.refl c r.F).wk h2 (by rw [hs.n, h1.n]; exact Nat.le_refl _)
  rw [← h2.w]
  exact k c1 a h1 K Qx fun v c' u1 u2 u3 u4 => hK v c' u1 u2 (h3.trans u3) u4
end
end Go.Proofs.YtligkfhplinjlaaGreatDoorAl
