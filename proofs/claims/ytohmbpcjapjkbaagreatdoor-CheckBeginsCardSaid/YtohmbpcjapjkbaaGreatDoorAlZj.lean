/- The A-logic: calls that bring new objects; arrays frozen ahead of a call; a text appended to bytes. -/
import Derived.Test.YtohmbpcjapjkbaaGreatDoorAlZi
import Derived.Deep.AppendSrc
set_option linter.all false
namespace Go.Proofs.YtohmbpcjapjkbaaGreatDoorAl
section
variable {P : Program} {c : Cfg} {h : Heap} {k e tx t ty : Nat} {ii : TypeInfo} {z x v0 : Value} {rows rows2 : List (List SV)}
end
section
variable {P : Program} {ops : Array Oper} {j : Nat} {l : List Oper} {q : S → Prop} {N n : Nat} {t : Tm} {h : Heap} {d : Nat} {ty : TypeId} {pos : String} {af : Array Edge} {g : Option (Nat × Bool)} {L : Lay}
/-- A call that brings new objects. -/
theorem st_callF {fo : Operand} {args : Array Operand} {ts : Array TypeId} {f m : Nat} {args0 ys : List AV} {h0 h1 h2 : Heap} {x x' : AV} {nl : List Nat} (B : Nat) (hc : ACalls P f m args0 h0 fun r h' => r = x ∧ h' = h1) (hb : HasBody P f)
    (hargs : callT t fo args.toList = some (f, ys)) (hnl : frc (ddN (idsL ys) []) some = some nl) (hm : nl.length = m) (hy : renL (nam nl n) args0 = ys)
    (hb0 : (belL m args0 && belH m h0 && okNames n nl && Nat.ble m (m + B) && x.bel (m + B) && belH (m + B) h1) = true) (hx : x.ren (nam nl n) = x') (hh : Sub (renH (nam nl n) h0) h) (h3 : frc (renH (nam nl n) h1 ++ delAll nl h) some = some h2)
    (k : OpsL P ops (j + 1) l ⟨N, n + B, (d, x') :: t, h2⟩ q) : OpG P ops j ⟨some d, .call ⟨.value fo, args, ts⟩, ty, pos, af, g⟩ l ⟨N, n, t, h⟩ q := by
  subst hm hx
  rw [frc_eq] at h3; cases h3
  simp only [Bool.and_eq_true] at hb0
  obtain ⟨⟨⟨⟨⟨b1, b2⟩, b3⟩, b4⟩, b5⟩, b6⟩ := hb0
  refine st_call nl (nl.length + B) hc hb (by rw [hy]; exact hargs) (by simp only [b1, b2, b3, b4, Bool.and_self]) hh ?_
  rintro r h' ⟨rfl, rfl⟩
  refine ⟨by simp only [b5, b6, Bool.and_self], ?_⟩
  rw [Nat.add_sub_cancel_left]
  exact k
/-- The array that is handed in first is frozen ahead of a call. -/
theorem o_frzA {oc : Option Nat} {fo : Operand} {args : Array Operand} {ts : Array TypeId} {f id k off len : Nat} {ys : List AV} {rows : List (List SV)} (hf : callT t fo args.toList = some (f, .lsl id k off len :: ys)) (hl : look h id = some (.arr k rows)) {t1 t2 : Tm} {h1 h2 : Heap}
    (e1 : frc (keepL (keys t) t) some = some t1) (e2 : frc (del h id) some = some h1) (ht : occT id (whole k rows.length) t1) (hh : occH id (whole k rows.length) h1) (e3 : frcT (frzT id k rows t1) some = some t2) (e4 : frc (frzH id k rows h1) some = some h2)
    (hgo : OpsL P ops j (⟨oc, .call ⟨.value fo, args, ts⟩, ty, pos, af, g⟩ :: l) ⟨N, n, t2, h2⟩ q) : OpsL P ops j (⟨oc, .call ⟨.value fo, args, ts⟩, ty, pos, af, g⟩ :: l) ⟨N, n, t, h⟩ q := by
  rw [frc_eq] at e1 e2 e4; rw [frcT_eq] at e3; cases e1; cases e2; cases e3; cases e4
  exact OpsL.wk (Wk.frz id (keys t) hl rfl rfl ht hh rfl rfl) (Nat.le_refl _) hgo
end
end Go.Proofs.YtohmbpcjapjkbaaGreatDoorAl
