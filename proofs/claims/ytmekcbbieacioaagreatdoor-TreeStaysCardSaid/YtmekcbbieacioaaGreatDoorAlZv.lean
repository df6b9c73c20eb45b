/- The A-logic: less is said of a result. -/
import Derived.Test.YtmekcbbieacioaaGreatDoorAlI
set_option linter.all false
namespace Go.Proofs.YtmekcbbieacioaaGreatDoorAl
theorem ACalls.lessT {P : Program} {f m : Nat} {args : List AV} {h h1 : Heap} {x y : AV} (k : ACalls P f m args h fun r h' => r = .tuple [x, y] ∧ h' = h1) : ACalls P f m args h fun r h' => r = .tuple [x, .top] ∧ h' = h1 :=
  fun c vals e1 e2 e3 => (k c vals e1 e2 e3).mono fun _ _ ⟨r, h', c', v, ⟨a, b⟩, u1, u2, u3, u4, u5⟩ => by
    subst a
    refine ⟨_, h', c', v, ⟨rfl, b⟩, u1, u2, ?_, u4, u5⟩
    cases u3 with
    | tuple _ vs hl =>
    cases hl with
    | cons _ v1 _ vs g1 hl =>
    cases hl with
    | cons _ v2 _ vs g2 hl =>
    cases hl
    exact .tuple _ _ (.cons _ _ _ _ g1 (.cons _ _ _ _ (.top _) .nil))
theorem ACalls.lessR {P : Program} {f m : Nat} {args : List AV} {h h1 : Heap} {x : AV} (k : ACalls P f m args h fun r h' => r = x ∧ h' = h1) : ACalls P f m args h fun r h' => r = .top ∧ h' = h1 :=
  fun c vals e1 e2 e3 => (k c vals e1 e2 e3).mono fun _ _ ⟨r, h', c', v, ⟨_, b⟩, u1, u2, _, u4, u5⟩ => ⟨_, h', c', v, ⟨rfl, b⟩, u1, u2, .top _, u4, u5⟩
end Go.Proofs.YtmekcbbieacioaaGreatDoorAl
