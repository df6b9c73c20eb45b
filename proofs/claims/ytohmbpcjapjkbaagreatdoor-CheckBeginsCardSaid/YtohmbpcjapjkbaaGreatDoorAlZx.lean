/- The A-logic: an array written by hand; slices without elements that may have room. -/
import Derived.Test.YtohmbpcjapjkbaaGreatDoorAlZj
set_option linter.all false
namespace Go.Proofs.YtohmbpcjapjkbaaGreatDoorAl
section
variable {P : Program} {c : Cfg} {h : Heap} {k e tx t ty : Nat} {ii : TypeInfo} {z x v0 : Value} {rows rows2 : List (List SV)} {news : List Value}
end
section
variable {P : Program} {ops : Array Oper} {j : Nat} {l : List Oper} {q : S → Prop} {N n : Nat} {t : List (Nat × AV)} {h : Heap} {d : Nat} {ty : TypeId} {pos : String} {af : Array Edge} {g : Option (Nat × Bool)} {L : Lay}
/-- A temporary's value, said in other words. -/
theorem Wk.tmp {N n : Nat} {t t' : List (Nat × AV)} {h : Heap} (ht : ∀ (c : Cfg) (i : Nat) (y : AV), look t' i = some y → ∃ x, look t i = some x ∧ ∀ v, AVal c x v → AVal c y v) : Wk ⟨N, n, t, h⟩ ⟨N, n, t', h⟩ := fun c a hs => by
  refine ⟨c, ⟨hs.defers, hs.n, ⟨hs.t.size, fun i y e => ?_⟩, hs.h⟩, .refl _ _⟩
  obtain ⟨x, h1, h2⟩ := ht c i y e
  obtain ⟨v, h3, h4⟩ := hs.t.get i x h1
  exact ⟨v, h3, h2 v h4⟩
end
end Go.Proofs.YtohmbpcjapjkbaaGreatDoorAl
