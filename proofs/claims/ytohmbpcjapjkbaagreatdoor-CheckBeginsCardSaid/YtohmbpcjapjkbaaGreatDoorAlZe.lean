/- The A-logic: nil tests of unknown slices, texts walked rune by rune, bits, made slices, stores into arrays, functions without a body. -/
import Derived.Test.YtohmbpcjapjkbaaGreatDoorAlZd
import Derived.Lib.Bytealg
import Derived.Laws.MakeOwn
set_option linter.all false
namespace Go.Proofs.YtohmbpcjapjkbaaGreatDoorAl
section
variable {P : Program} {ops : Array Oper} {j : Nat} {l : List Oper} {q : S → Prop} {s : S} {N n : Nat} {t : Tm} {h : Heap} {Q : Exit → S → Prop} {L : Lay}
variable {d : Nat} {op : Op} {ty : TypeId} {pos : String} {af : Array Edge} {g : Option (Nat × Bool)}

def nilR : BinOp → Bool → Bool
  | .eql, b => b
  | _, b => !b
/-- Is a stable slice nil? Nobody knows: if it is, it has no rows. -/
theorem st_nilSl {op : BinOp} {t1 t2 e sz bytes : Nat} {x : Operand} {i : TI} {rows : List (List SV)} (hL : LayOk P L) (hx : evT t x = some (.st (.sl sz rows))) (ht : look L t1 = some i) (hk : i.k = .slice e sz bytes) (ho : (match op with | .eql => true | .neq => true | _ => false) = true)
    (k : ∀ b : Bool, (b = true → rows = []) → OpsL P ops (j + 1) l ⟨N, n, (d, .st (.bool (nilR op b))) :: t, h⟩ q) :
    OpG P ops j ⟨some d, .binOp op t1 x (.const (.slice none 0 0)) t2, ty, pos, af, g⟩ l ⟨N, n, t, h⟩ q := by
  refine OpOk.intro fun c a hs => ?_
  have hv := st_inv (S.ev_val hs (x := x) (by rw [evT_eq]; exact hx))
  obtain ⟨dd, _, _, g1, _, g3, _⟩ := tiOf_parts (hL t1 i ht)
  rw [hk] at g3
  obtain ⟨g4, _⟩ := tk_inv g3
  subst g4
  generalize hp : a.eval x = p at hv
  have key : ∃ b : Bool, (b = true → rows = []) ∧ (execOp a.eval ⟨some d, .binOp op t1 x (.const (.slice none 0 0)) t2, ty, pos, af, g⟩).run P c.w = .ok (.value (.bool (nilR op b))) c.w := by
    have hrun : ∀ (ad : Option Addr) (m cap : Nat), (Op.equal t1 (.slice ad m cap) (.slice none 0 0)).run P c.w = .ok ad.isNone c.w := by
      intro ad m cap
      refine eq_run fun n => ?_
      cases ad <;> simp [Op.equalIn, run_underlying g1]
    have hg : ∀ (v : Value), (eqGuard op t1 x (.const (.slice none 0 0)) v (.slice none 0 0)).run P c.w = .ok () c.w := fun v => by
      unfold eqGuard; cases op <;> simp
    have fin : ∀ (ad : Option Addr) (m cap : Nat), p = .slice ad m cap → (execOp a.eval ⟨some d, .binOp op t1 x (.const (.slice none 0 0)) t2, ty, pos, af, g⟩).run P c.w = .ok (.value (.bool (nilR op ad.isNone))) c.w := by
      intro ad m cap e
      subst e
      have hcv : a.eval (.const (.slice none 0 0)) = .slice none 0 0 := rfl
      simp only [execOp, hp, hcv]
      cases op <;> first | cases ho | skip
      · simp [hg, binOp, hrun, nilR]
      · simp [hg, binOp, hrun, nilR]
    cases hv with
    | slnil _ ad cap => exact ⟨ad.isNone, fun _ => rfl, fin _ _ _ rfl⟩
    | sl _ b off cap _ hb hr hc => exact ⟨false, fun e => (by cases e), fin _ _ _ rfl⟩
  obtain ⟨b, hb, hrun⟩ := key
  exact ⟨_, h, n, _, c, hrun, k b hb, .refl _ _, hs.n, hs.h, .st _ _ (.bool _)⟩

/-- A function without a body that only computes. -/
def ExtOk (P : Program) (f : Nat) (xs : List AV) (r : SV) : Prop :=
  ∀ c (vals : Array Value), AList c xs vals.toList → ∃ v, (callFunc f vals).run P c.w = .ok (.value v) c.w ∧ SVal c.St c.w r v
theorem SList.get {St : Nat → Prop} {w : World} : ∀ {xs : List SV} {vs : List Value}, SList St w xs vs → ∀ (q : Nat) x, xs[q]? = some x → ∃ v, vs[q]? = some v ∧ SVal St w x v
  | _, _, .cons x v xs vs h hs, 0, x', e => by simp at e; subst e; exact ⟨v, rfl, h⟩
  | _, _, .cons x v xs vs h hs, q + 1, x', e => by simpa using hs.get q x' (by simpa using e)
theorem SCells.of_get {St : Nat → Prop} {w : World} {b : Nat} : ∀ {xs : List SV} {off : Nat}, (∀ (p : Nat) x, xs[p]? = some x → ∃ v, w.cell? ⟨b, off + p, none⟩ = some v ∧ SVal St w x v) → SCells St w b off xs
  | [], _, _ => .nil _ _
  | x :: xs, off, h => by
    obtain ⟨v, h1, h2⟩ := h 0 x rfl
    exact .cons _ _ _ v _ (by simpa using h1) h2 (SCells.of_get fun p y e => by
      obtain ⟨v, g1, g2⟩ := h (p + 1) y (by simpa using e)
      exact ⟨v, by rw [← g1]; congr 2; omega, g2⟩)
end
end Go.Proofs.YtohmbpcjapjkbaaGreatDoorAl
