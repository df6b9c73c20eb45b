/- The A-logic: calls with values that say more than a contract asks. -/
import Derived.Test.YtohmbpcjapjkbaaGreatDoorAlZc
import Derived.Test.YtohmbpcjapjkbaaGreatDoorAlP
set_option linter.all false
namespace Go.Proofs.YtohmbpcjapjkbaaGreatDoorAl
/-- Values that say less. -/
theorem SCells.mk' {St : Nat → Prop} {w : World} {b : Nat} : ∀ {xs : List SV} {us : List Value} {o : Nat}, SList St w xs us → (∀ i v, us[i]? = some v → w.cell? ⟨b, o + i, none⟩ = some v) → SCells St w b o xs
  | [], _, _, _, _ => .nil _ _
  | _ :: _, _, _, .cons _ v _ _ h hs, hc => .cons _ _ _ v _ (by simpa using hc 0 v rfl) h (SCells.mk' hs fun i u e => by have := hc (i + 1) u (by simpa using e); rw [← this]; congr 2; omega)
theorem SCells.le {St : Nat → Prop} {w : World} {b o : Nat} {xs ys : List SV} (h : SLeL xs ys) (k : SCells St w b o xs) : SCells St w b o ys :=
  let ⟨_, h1, h2⟩ := k.list
  SCells.mk' (h _ _ _ h1) h2
def RLe : List (List SV) → List (List SV) → Prop
  | [], [] => True
  | x :: xs, y :: ys => (x.length = y.length ∧ SLeL x y) ∧ RLe xs ys
  | _, _ => False
theorem RLe.len : ∀ {xs ys : List (List SV)}, RLe xs ys → xs.length = ys.length
  | [], [], _ => rfl
  | _ :: _, _ :: _, h => by simp [RLe.len h.2]
  | [], _ :: _, h => h.elim
  | _ :: _, [], h => h.elim
theorem SRows.le {St : Nat → Prop} {w : World} {k b : Nat} : ∀ {o : Nat} {xs ys : List (List SV)}, RLe xs ys → SRows St w k b o xs → SRows St w k b o ys
  | _, [], [], _, _ => .nil _ _ _
  | _, _ :: _, _ :: _, h, .cons _ _ _ _ _ h1 h2 h3 => .cons _ _ _ _ _ (by rw [← h.1.1]; exact h1) (h2.le h.1.2) (SRows.le h.2 h3)
  | _, [], _ :: _, h, _ => h.elim
  | _, _ :: _, [], h, _ => h.elim
theorem SLe.sl {k : Nat} {xs ys : List (List SV)} (h : RLe xs ys) : SLe (.sl k xs) (.sl k ys) := fun St w v hv => by
  have hl := h.len
  cases hv with
  | slnil => cases ys with
    | nil => exact .slnil _ _ _
    | cons => simp at hl
  | sl _ b off cap _ h1 h2 h3 => rw [hl]; exact .sl _ _ _ _ _ h1 (h2.le h) (by rw [← hl]; exact h3)
theorem SLe.iface {t : TypeId} {x y : SV} (h : SLe x y) : SLe (.iface t x) (.iface t y) := fun _ _ _ k => by cases k with | iface _ _ _ k => exact .iface _ _ _ (h _ _ _ k)
theorem RLe.nil' : RLe [] [] := trivial
theorem RLe.cons' {x y : List SV} {xs ys : List (List SV)} (h1 : x.length = y.length) (h2 : SLeL x y) (h : RLe xs ys) : RLe (x :: xs) (y :: ys) := ⟨⟨h1, h2⟩, h⟩
def AVLe (x y : AV) : Prop := ∀ c v, AVal c x v → AVal c y v
def AVLeL (xs ys : List AV) : Prop := ∀ c vs, AList c xs vs → AList c ys vs
theorem AVLe.refl (x : AV) : AVLe x x := fun _ _ h => h
theorem AVLe.st {x y : SV} (h : SLe x y) : AVLe (.st x) (.st y) := fun _ _ k => .st _ _ (h _ _ _ (st_inv k))
theorem AVLeL.nil : AVLeL [] [] := fun _ _ h => h
theorem AVLeL.cons {x y : AV} {xs ys : List AV} (h : AVLe x y) (hs : AVLeL xs ys) : AVLeL (x :: xs) (y :: ys) := fun _ _ k => by
  cases k with | cons _ _ _ _ k1 k2 => exact .cons _ _ _ _ (h _ _ k1) (hs _ _ k2)
theorem ACalls.leA {P : Program} {f m : Nat} {xs ys : List AV} {h : Heap} {R : AV → Heap → Prop} (hl : AVLeL xs ys) (k : ACalls P f m ys h R) : ACalls P f m xs h R :=
  fun c vals h1 h2 h3 => k c vals h1 h2 (hl _ _ h3)
section
variable {P : Program} {ops : Array Oper} {j : Nat} {l : List Oper} {q : S → Prop} {s : S} {N n : Nat} {t : Tm} {h : Heap} {Q : Exit → S → Prop} {L : Lay}
variable {d : Nat} {ty : TypeId} {pos : String} {af : Array Edge} {g : Option (Nat × Bool)}
/-- A call with stable values that say more than the contract asks. -/
theorem st_pureL {fo : Operand} {args : Array Operand} {ts : Array TypeId} {f : Nat} {args0 args1 : List AV} {r : AV} (hc : ACalls P f 0 args1 [] fun x h' => x = r ∧ h' = []) (hb : HasBody P f)
    (hargs : callT t fo args.toList = some (f, args0)) (hle : AVLeL args0 args1) (hb0 : (belL 0 args0 && r.bel 0) = true) (hr0 : renL (nam [] n) args0 = args0) (hr : r.ren (nam [] n) = r)
    (k : OpsL P ops (j + 1) l ⟨N, n, (d, r) :: t, h⟩ q) : OpG P ops j ⟨some d, .call ⟨.value fo, args, ts⟩, ty, pos, af, g⟩ l ⟨N, n, t, h⟩ q :=
  st_pure (hc.leA hle) hb hargs hb0 hr0 hr k

theorem nrmO {t' : Tm} {h' : Heap} (ht : frc t some = some t') (hh : frc h some = some h') (k : OpsL P ops j l ⟨N, n, t', h'⟩ q) : OpsL P ops j l ⟨N, n, t, h⟩ q := by
  rw [frc_eq] at ht hh; cases ht; cases hh; exact k
theorem st_cat {t1 t2 : TypeId} {x y : Operand} {a b : ByteArray} (hx : evT t x = some (.st (.str a))) (hy : evT t y = some (.st (.str b))) (hs : a.size + b.size ≤ 9223372036854775807)
    (k : OpsL P ops (j + 1) l ⟨N, n, (d, .st (.str (a ++ b))) :: t, h⟩ q) : OpG P ops j ⟨some d, .binOp .add t1 x y t2, ty, pos, af, g⟩ l ⟨N, n, t, h⟩ q :=
  ok_cat (by rw [evT_eq]; exact hx) (by rw [evT_eq]; exact hy) hs k
end
end Go.Proofs.YtohmbpcjapjkbaaGreatDoorAl
