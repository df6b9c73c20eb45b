import Derived.Test.YtohmbpcjapjkbaaGreatDoorAlZx
set_option linter.all false
namespace Go.Proofs.YtohmbpcjapjkbaaGreatDoorAl
/-- A temporary said with less. -/
theorem Wk.tmpLe {N n : Nat} {t : List (Nat × AV)} {h : Heap} {x y : AV} (d : Nat) (hx : look t d = some x) (hle : AVLe x y) : Wk ⟨N, n, t, h⟩ ⟨N, n, (d, y) :: t, h⟩ := Wk.tmp fun c i z e => by
  rw [look_cons] at e
  split at e
  · rename_i hi
    cases e
    subst hi
    exact ⟨x, hx, fun v hv => hle _ _ hv⟩
  · exact ⟨z, e, fun v hv => hv⟩
end Go.Proofs.YtohmbpcjapjkbaaGreatDoorAl
