/- The A-logic: objects of the end that nobody asks for. -/
import Derived.Test.YtohmbpcjapjkbaaGreatDoorAlZk
set_option linter.all false
namespace Go.Proofs.YtohmbpcjapjkbaaGreatDoorAl
theorem HRel.sub {c : Cfg} {h h' : Heap} (hr : HRel c h) (hs : Sub h' h) : HRel c h' :=
  ⟨fun i o e => hr.lt i o (hs.look i o e), fun i o e => hr.blk i o (hs.look i o e), fun i o e => hr.own i o (hs.look i o e), fun i o e => hr.rel i o (hs.look i o e),
    fun i j o o' e r e' r' => hr.inj i j o o' (hs.look i o e) r (hs.look j o' e') r', hr.st, fun i b o e => hr.fact i b o (hs.look i _ e)⟩
theorem Ev.sub {c c' : Cfg} {h h' h'' : Heap} (hr : Ev c h c' h') (hs : Sub h'' h') : Ev c h c' h'' :=
  ⟨hr.go, hr.os, hr.tape, hr.output, hr.size, hr.frame, hr.new, fun i o e => hr.objs i o (hs.look i o e)⟩
theorem ACalls.drop {P : Program} {f m : Nat} {args : List AV} {h : Heap} {R R' : AV → Heap → Prop} (k : ACalls P f m args h R) (hr : ∀ r h', R r h' → ∃ h2, Sub h2 h' ∧ R' r h2) : ACalls P f m args h R' :=
  fun c vals h1 h2 h3 => (k c vals h1 h2 h3).mono fun _ _ ⟨r, h', c', v, a, e1, e2, e3, e4, e5⟩ =>
    let ⟨h2', s, b⟩ := hr r h' a
    ⟨r, h2', c', v, b, e1, e2, e3, e4.sub s, e5.sub s⟩
section
variable {P : Program} {ops : Array Oper} {q : S → Prop} {N n : Nat} {t : Tm} {h : Heap} {L : Lay} {ty : TypeId} {pos : String} {af : Array Edge} {g : Option (Nat × Bool)}
variable {done : List Mini} {i : Nat} {A D : List Nat} {le : List Entry} {op : Op} {F : Heap} {fn : List Nat}
end
end Go.Proofs.YtohmbpcjapjkbaaGreatDoorAl
