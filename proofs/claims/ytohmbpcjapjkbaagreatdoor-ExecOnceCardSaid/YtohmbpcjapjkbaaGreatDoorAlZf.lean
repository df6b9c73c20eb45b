/- The A-logic: slices of one's own arrays; bytes as texts. -/
import Derived.Test.YtohmbpcjapjkbaaGreatDoorAlZe
import Derived.Laws.BytesString
set_option linter.all false
namespace Go.Proofs.YtohmbpcjapjkbaaGreatDoorAl
section
variable {P : Program} {ops : Array Oper} {j : Nat} {l : List Oper} {q : S → Prop} {s : S} {N n : Nat} {t : Tm} {h : Heap} {Q : Exit → S → Prop} {L : Lay}
variable {d : Nat} {op : Op} {ty : TypeId} {pos : String} {af : Array Edge} {g : Option (Nat × Bool)}
/-- A piece of one's own array, not empty. -/
theorem st_subO {t1 e sz bytes id off len : Nat} {x : Operand} {lo hi : Option Operand} {i : TI} (a b : Nat) (hL : LayOk P L) (hx : evT t x = some (.lsl id sz off len)) (ht : look L t1 = some i) (hk : i.k = .slice e sz bytes)
    (hlo : match lo with | none => a = 0 | some y => ∃ kk m, evT t y = some (.st (.int kk m)) ∧ m = (a : Int)) (hhi : match hi with | none => b = len | some y => ∃ kk m, evT t y = some (.st (.int kk m)) ∧ m = (b : Int)) (hab : a < b) (hb : b ≤ len)
    (k : OpsL P ops (j + 1) l ⟨N, n, (d, .lsl id sz (off + a) (b - a)) :: t, h⟩ q) : OpG P ops j ⟨some d, .slice t1 x lo hi none, ty, pos, af, g⟩ l ⟨N, n, t, h⟩ q :=
  OpOk.pure (fun c ac hs => by
    have hv := S.ev_val hs (x := x) (by rw [evT_eq]; exact hx)
    obtain ⟨dd, _, _, g1, _, g3, _⟩ := tiOf_parts (hL t1 i ht)
    rw [hk] at g3
    obtain ⟨g4, j', g5, g6, g7⟩ := tk_inv g3
    subst g4
    generalize hp : ac.eval x = p at hv
    have key : ∀ cap : Nat, len ≤ cap → (Instr.sliceBounds true len cap (lo.map ac.eval) (hi.map ac.eval) none).run P c.w = .ok (a, b, cap) c.w := by
      intro cap hcap
      have e1 : ∀ y, hi = some y → ∃ kk, ac.eval y = .int kk b := fun y e => by
        subst e; obtain ⟨kk, m, h1, h2⟩ := hhi; subst h2
        exact ⟨kk, int_inv (S.ev_val hs (by rw [evT_eq]; exact h1))⟩
      have e2 : ∀ y, lo = some y → ∃ kk, ac.eval y = .int kk a := fun y e => by
        subst e; obtain ⟨kk, m, h1, h2⟩ := hlo; subst h2
        exact ⟨kk, int_inv (S.ev_val hs (by rw [evT_eq]; exact h1))⟩
      have hbc : b ≤ cap := by omega
      have hab' : a ≤ b := by omega
      unfold Instr.sliceBounds
      cases hi with
      | none =>
        simp only at hhi; subst hhi
        cases lo with
        | none => simp only at hlo; subst hlo; simp
        | some y => obtain ⟨kk, e⟩ := e2 y rfl; simp [Instr.sliceBound, e, asIntOf, hab']
      | some z =>
        obtain ⟨kk, e⟩ := e1 z rfl
        cases lo with
        | none => simp only at hlo; subst hlo; simp [Instr.sliceBound, e, asIntOf, hbc]
        | some y => obtain ⟨kk', e'⟩ := e2 y rfl; simp [Instr.sliceBound, e, e', asIntOf, hbc, hab']
    have hr : ∀ (ad : Option Addr) (cap : Nat), len ≤ cap → (Instr.sliceAt t1 (.slice ad len cap) (lo.map ac.eval) (hi.map ac.eval) none).run P c.w = .ok (.slice (if cap = a then ad else ad.map (·.add (a * sz))) (b - a) (cap - a)) c.w := by
      intro ad cap h2
      unfold Instr.sliceAt
      simp only [Sem.run_bind, run_underlying g1, Result.andThen_ok]
      unfold Instr.slice
      simp only [Sem.run_bind, run_underlying g1, Result.andThen_ok, key cap h2]
      simp [sizeOf, typeInfo, g5, g6]
    cases hv with
    | lsl0 => omega
    | lslr => omega
    | lsl _ _ _ _ cap T size hi' a1 a2 a3 =>
      refine ⟨_, by simp only [execOp, hp, Sem.run_bind, Option.map_none, hr _ cap a1.1]; rfl, ?_⟩
      rw [if_neg (by omega)]
      simp only [Option.map_some, add_lit]
      rw [← Nat.add_mul]
      exact .lsl id sz (off + a) (b - a) (cap - a) T size hi' ⟨by omega, by omega⟩ a2 (by rw [show off + a + (cap - a) = off + cap by omega]; exact a3)) k
end
end Go.Proofs.YtohmbpcjapjkbaaGreatDoorAl
