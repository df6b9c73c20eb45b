/- The A-logic: structs are compared. -/
import Derived.Test.YtmekcbbieacioaaGreatDoorAlZ
import Derived.Laws.StructEq
set_option linter.all false
namespace Go.Proofs.YtmekcbbieacioaaGreatDoorAl
section
variable {P : Program} {ops : Array Oper} {j : Nat} {l : List Oper} {q : S → Prop} {N n : Nat} {t : Tm} {h : Heap} {L : Lay}
variable {d : Nat} {ty : TypeId} {pos : String} {af : Array Edge} {g : Option (Nat × Bool)}
/-- Two structs whose cells are known. -/
theorem st_eqAgg {op : BinOp} {t1 t2 : TypeId} {x y : Operand} {xs ys : List SV} {b r : Bool} (hx : evT t x = some (.st (.agg xs))) (hy : evT t y = some (.st (.agg ys)))
    (hq : ∀ (St : Nat → Prop) (w : World) vx vy, SList St w xs vx → SList St w ys vy → (Op.equalIn 10000 t1 (.agg vx.toArray) (.agg vy.toArray)).run P w = .ok b w) (hg : P.eqGuardType P.depth t1 = false)
    (ho : (match op with | .eql => some b | .neq => some (!b) | _ => none) = some r) (k : OpsL P ops (j + 1) l ⟨N, n, (d, .st (.bool r)) :: t, h⟩ q) : OpG P ops j ⟨some d, .binOp op t1 x y t2, ty, pos, af, g⟩ l ⟨N, n, t, h⟩ q :=
  OpOk.pure (fun c a hs => by
    have h1 := st_inv (S.ev_val hs (by rw [evT_eq]; exact hx))
    have h2 := st_inv (S.ev_val hs (by rw [evT_eq]; exact hy))
    generalize hp : a.eval x = p at h1
    generalize hv : a.eval y = v at h2
    cases h1 with
    | agg _ vx h1 =>
    cases h2 with
    | agg _ vy h2 =>
    have h3 := hq _ _ _ _ h1 h2
    refine ⟨.bool r, ?_, .st _ _ (.bool _)⟩
    simp only [execOp, hp, hv]
    cases op <;> first | cases ho | skip
    · simp [hp, hv, run_eqGuard_agg c.w _ t1 x y _ _ hg, run_eql_struct, h3]
    · simp [hp, hv, run_eqGuard_agg c.w _ t1 x y _ _ hg, run_neq_struct, h3]) k
end
end Go.Proofs.YtmekcbbieacioaaGreatDoorAl
