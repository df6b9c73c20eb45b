/- The A-logic: a call that is known by the library's own contracts. -/
import Derived.Test.YtligkfhplinjlaaGreatDoorAlZb
import Derived.Test.YtligkfhplinjlaaGreatDoorAlP
import Derived.RowKit
set_option linter.all false
namespace Go.Proofs.YtligkfhplinjlaaGreatDoorAl
/-- A call that makes what it returns, and changes nothing that is older. -/
theorem ACalls.raw0 {P : Program} {f : Nat} {svs : List SV} {x : AV}
    (h : ∀ (St : Nat → Prop) (w : World) (vals : List Value), (∀ b, St b → b < w.heap.size) → SList St w svs vals → Calls P f vals.toArray w fun e w' => (∃ v, e = .returned v ∧ ∀ c, AVal c x v) ∧ RowKit.Below w.heap.size w w') :
    ACalls P f 0 (stAll svs) [] fun r h => r = x ∧ h = [] := by
  intro c vals hn hr hv
  have hs : SList c.St c.w svs vals := stAll_inv hv
  refine (h c.St c.w vals hr.st hs).mono fun e w' ⟨⟨v, he, hx⟩, hb⟩ => ?_
  have hgo : CGo c { c with w := w' } := ⟨Nat.le_refl _, fun _ _ => rfl, ⟨fun _ h => h, fun k hk => hb.block k (hr.st k hk)⟩, fun k s hs => by
    have hk : k < c.w.heap.size := by
      rcases Nat.lt_or_ge k c.w.heap.size with h' | h'
      · exact h'
      · simp [World.shape?, Array.getElem?_eq_none h'] at hs
    show w'.shape? k = _
    rw [← hs]; simp only [World.shape?, hb.block k hk]⟩
  exact ⟨x, [], { c with w := w' }, v, ⟨rfl, rfl⟩, he, rfl, hx _, ⟨fun _ _ e => (by cases e), fun _ _ e => (by cases e), fun _ _ e => (by cases e), fun _ _ e => (by cases e), fun _ _ _ _ e => (by cases e), fun k hk => Nat.lt_of_lt_of_le (hr.st k hk) hb.size, fun _ _ _ e => (by cases e)⟩,
    ⟨hgo, hb.os, hb.tape, hb.output, hb.size, fun k hk _ => hb.block k hk, fun k hk => .inl hk, fun _ _ e => (by cases e)⟩⟩
end Go.Proofs.YtligkfhplinjlaaGreatDoorAl
