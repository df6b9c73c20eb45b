/- The A-logic: calls that bring new objects; arrays frozen ahead of a call; a text appended to bytes. -/
import Derived.Test.YtligkfhplinjlaaGreatDoorAlZi
import Derived.Deep.AppendSrc
set_option linter.all false
namespace Go.Proofs.YtligkfhplinjlaaGreatDoorAl
section
variable {P : Program} {c : Cfg} {h : Heap} {k e tx t ty : Nat} {ii : TypeInfo} {z x v0 : Value} {rows rows2 : List (List SV)}
end
section
variable {P : Program} {ops : Array Oper} {j : Nat} {l : List Oper} {q : S → Prop} {N n : Nat} {t : Tm} {h : Heap} {d : Nat} {ty : TypeId} {pos : String} {af : Array Edge} {g : Option (Nat × Bool)} {L : Lay}
/-- A call that brings new objects. -/
theorem st_callF {fo : Operand} {args : Array Operand} {ts : Array TypeId} {f m : Nat} {args0 ys : List AV} {h0 h1 h2 : Heap} {x x' : AV} {nl : List Nat} (B : Nat) (hc : ACalls P f m args0 h0 fun r h' => r = x ∧ h' = h1) (hb : HasBody P f)
    (hargs : callT t fo args.toList = some (f, ys)) (hnl : frc (ddN (idsL ys) []) some = some nl) (hm : nl.length = m) (hy : renL (nam nl n) args0 = ys)
    (hb0 : (belL m args0 && belH m h0 && okNames n nl && Nat.ble m (m + B) && x.bel (m + B) && belH (m + B) h1) = true) (hx : x.ren (nam nl n) = x') (hh : Sub (renH (nam nl n) h0) h) (h3 : frc (renH (nam nl n) h1 ++ delAll nl h) some = some h2)
    (k : OpsL P ops (j + 1) l ⟨N, n + B, (d, x') :: t, h2⟩ q) : OpG P ops j ⟨some d, .call ⟨.value fo, args, ts⟩, ty, pos, af, g⟩ l ⟨N, n, t, h⟩ q := by
  subst hm hx
  rw [frc_eq] at h3; cases h3
  simp only [Bool.and_eq_true] at hb0
  obtain ⟨⟨⟨⟨⟨b1, b2⟩, b3⟩, b4⟩, b5⟩, b6⟩ := hb0
  refine st_call nl (nl.length + B) hc hb (by rw [hy]; exact hargs) (by simp only [b1, b2, b3, b4, Bool.and_self]) hh ?_
  rintro r h' ⟨rfl, rfl⟩
  refine ⟨by simp only [b5, b6, Bool.and_self], ?_⟩
  rw [Nat.add_sub_cancel_left]
  exact k
end
end Go.Proofs.YtligkfhplinjlaaGreatDoorAl
