/- The A-logic: a law that knows a laid variable. -/
import Derived.Test.YtmekcbbieacioaaGreatDoorAlZn
import Derived.Test.YtmekcbbieacioaaGreatDoorAlZp
set_option linter.all false
namespace Go.Proofs.YtmekcbbieacioaaGreatDoorAl
section
variable {P : Program}
theorem ACalls.law1 {f : Nat} {svs : List SV} {W : World} {args : Array Value} {o : Obj} (h : ACalls P f 1 (stAll svs) [(0, .fact 0 o)] fun x h' => x = .st (.bool true) ∧ h' = [(0, .fact 0 o)]) (ho : W.heap[0]? = some o)
    (ha : SList (fun b => b < W.heap.size) W svs args.toList) : Calls P f args W fun e w' => e = .returned (.bool true) ∧ RowKit.Below W.heap.size W w' := by
  have no : ∀ (id : Nat) (p : AO), look [(0, AO.fact 0 o)] id = some p → id = 0 ∧ p = .fact 0 o := fun id p e => by
    rw [look_cons] at e
    split at e
    · rename_i hid; cases e; exact ⟨hid.symm, rfl⟩
    · cases e
  have nr : ∀ (id : Nat) (p : AO), look [(0, AO.fact 0 o)] id = some p → ¬ p.real := fun id p e => by
    rw [(no id p e).2]; exact fun h => h
  have hpos : 0 < W.heap.size := by
    rcases Nat.eq_zero_or_pos W.heap.size with h0 | h0
    · rw [Array.getElem?_eq_none (by omega)] at ho; cases ho
    · exact h0
  have h0 := h ⟨fun i => i, 1, fun b => b < W.heap.size, W⟩ args.toList rfl
    ⟨fun id p e => by rw [(no id p e).1]; exact Nat.one_pos, fun id p e r => absurd r (nr id p e), fun id p e r => absurd r (nr id p e), fun id p e r => absurd r (nr id p e), fun i j p p' e r => absurd r (nr i p e), fun _ hb => hb,
      fun id b p e => by have h1 := (no id _ e).2; cases h1; exact ⟨hpos, ho⟩⟩ (stAll_val ha)
  simp only [Array.toArray_toList] at h0
  refine h0.mono ?_
  rintro e w' ⟨x, h', c', u, ⟨rfl, rfl⟩, rfl, rfl, hx, _, hev⟩
  exact ⟨by rw [bool_inv hx], ⟨hev.os, hev.tape, hev.output, hev.size, fun k hk => hev.frame k hk fun id p e r => absurd r (nr id p e)⟩⟩
end
end Go.Proofs.YtmekcbbieacioaaGreatDoorAl
