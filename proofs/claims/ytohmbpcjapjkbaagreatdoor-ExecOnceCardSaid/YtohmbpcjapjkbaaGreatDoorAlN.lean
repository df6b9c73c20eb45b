/- The A-logic, part 14: pieces of texts and slices; ends of code; append; frozen objects. -/
import Derived.Test.YtohmbpcjapjkbaaGreatDoorAlM
set_option linter.all false
namespace Go.Proofs.YtohmbpcjapjkbaaGreatDoorAl
section
variable {P : Program} {ops : Array Oper} {j : Nat} {l : List Oper} {q : S → Prop} {s : S} {N n : Nat} {t : List (Nat × AV)} {h : Heap} {Q : Exit → S → Prop}
variable {d : Nat} {op : Op} {ty : TypeId} {pos : String} {af : Array Edge} {g : Option (Nat × Bool)} {L : Lay}

/-! ### ends -/
theorem n_thn {y : Code} (k : CodeOk P y s Q) : thn P y Q .normal s := k
theorem n_blk {id : Nat} (k : Q .normal s) : inBlk id Q .normal s := k
theorem e_thn {id : Nat} {y : Code} (k : Q (.exit id) s) : thn P y Q (.exit id) s := k
theorem e_hit {id : Nat} (k : Q .normal s) : inBlk id Q (.exit id) s := by simpa [inBlk] using k
theorem e_miss {id id' : Nat} (hn : Nat.beq id' id = false) (k : Q (.exit id') s) : inBlk id Q (.exit id') s := by
  have : id' ≠ id := fun e => by subst e; rw [Nat.beq_refl] at hn; cases hn
  simpa [inBlk, this] using k
theorem r_thn {y : Code} (k : Q .ret s) : thn P y Q .ret s := k
theorem r_blk {id : Nat} (k : Q .ret s) : inBlk id Q .ret s := k
theorem o_none (hd : Nat.blt d N = true) (k : OpG P ops j ⟨some d, op, ty, pos, af, none⟩ l ⟨N, n, t, h⟩ q) : OpsL P ops j (⟨some d, op, ty, pos, af, none⟩ :: l) ⟨N, n, t, h⟩ q := go rfl hd k
theorem o_none_ (k : OpG P ops j ⟨none, op, ty, pos, af, none⟩ l ⟨N, n, t, h⟩ q) : OpsL P ops j (⟨none, op, ty, pos, af, none⟩ :: l) ⟨N, n, t, h⟩ q := go rfl rfl k
theorem o_yes {g tg : Nat} {w : Bool} (hj : (ops[g]?).bind (·.dst) = some tg) (ht : look t tg = some (.st (.bool w))) (hd : Nat.blt d N = true) (k : OpG P ops j ⟨some d, op, ty, pos, af, some (g, w)⟩ l ⟨N, n, t, h⟩ q) :
    OpsL P ops j (⟨some d, op, ty, pos, af, some (g, w)⟩ :: l) ⟨N, n, t, h⟩ q := yes rfl hj ht hd k
theorem c_ndec {x : Operand} {y z : Code} {p : Prop} [Decidable p] (hx : evT t x = some (.st (.bool (!decide p)))) (h1 : ¬ p → CodeOk P y ⟨N, n, t, h⟩ Q) (h2 : p → CodeOk P z ⟨N, n, t, h⟩ Q) : CodeOk P (.cond x y z) ⟨N, n, t, h⟩ Q :=
  cnd hx (fun e => h1 (by simpa using e)) (fun e => h2 (by simpa using e))
theorem c_dec {x : Operand} {y z : Code} {p : Prop} [Decidable p] (hx : evT t x = some (.st (.bool (decide p)))) (h1 : p → CodeOk P y ⟨N, n, t, h⟩ Q) (h2 : ¬ p → CodeOk P z ⟨N, n, t, h⟩ Q) : CodeOk P (.cond x y z) ⟨N, n, t, h⟩ Q :=
  cnd hx (fun e => h1 (of_decide_eq_true e)) (fun e => h2 (of_decide_eq_false e))

def keepT : List ResultVar → List (Nat × AV) → List (Nat × AV)
  | [], _ => []
  | .tmp i :: r, t => match look t i with
    | some x => (i, x) :: keepT r t
    | none => keepT r t
  | .cell i _ :: r, t => match look t i with
    | some x => (i, x) :: keepT r t
    | none => keepT r t
theorem keepT_sub : ∀ (rs : List ResultVar) (t : List (Nat × AV)), Sub (keepT rs t) t
  | [], _ => trivial
  | .tmp i :: r, t => by
    simp only [keepT]
    split
    · rename_i x hx; exact ⟨hx, keepT_sub r t⟩
    · exact keepT_sub r t
  | .cell i _ :: r, t => by
    simp only [keepT]
    split
    · rename_i x hx; exact ⟨hx, keepT_sub r t⟩
    · exact keepT_sub r t
/-! ### division -/
def divI : BinOp → IntKind → Int → Int → Option SV
  | .quo, k, a, b => some (.int k (k.wrap (a.tdiv b)))
  | .rem, k, a, b => some (.int k (a.tmod b))
  | _, _, _, _ => none
theorem st_div {op : BinOp} {t1 t2 : TypeId} {x y : Operand} {kk : IntKind} {a b : Int} {z : SV} (h1 : evT t x = some (.st (.int kk a))) (h2 : evT t y = some (.st (.int kk b))) (hz : divI op kk a b = some z) (hb : b ≠ 0)
    (k : OpsL P ops (j + 1) l ⟨N, n, (d, .st z) :: t, h⟩ q) : OpG P ops j ⟨some d, .binOp op t1 x y t2, ty, pos, af, g⟩ l ⟨N, n, t, h⟩ q :=
  OpOk.pure (fun c ac hs => by
    have e1 := int_inv (S.ev_val hs (by rw [evT_eq]; exact h1))
    have e2 := int_inv (S.ev_val hs (by rw [evT_eq]; exact h2))
    cases op <;> simp only [divI, Option.some.injEq, reduceCtorEq] at hz <;> subst hz
    · refine ⟨.int kk (kk.wrap (a.tdiv b)), ?_, .st _ _ (.int _ _)⟩
      simp [execOp, e1, e2, eqGuard, binOp, Op.intDiv, hb]
    · refine ⟨.int kk (a.tmod b), ?_, .st _ _ (.int _ _)⟩
      simp [execOp, e1, e2, eqGuard, binOp, Op.intDiv, hb]) k

/-! ### pieces -/
/-- A piece of a text. -/
theorem st_subS {t1 : TypeId} {x : Operand} {lo hi : Option Operand} {i : TI} {s : ByteArray} (a b : Nat) (hL : LayOk P L) (hx : evT t x = some (.st (.str s))) (ht : look L t1 = some i) (hk : i.k = .string)
    (hlo : match lo with | none => a = 0 | some y => ∃ kk m, evT t y = some (.st (.int kk m)) ∧ m = (a : Int)) (hhi : match hi with | none => b = s.size | some y => ∃ kk m, evT t y = some (.st (.int kk m)) ∧ m = (b : Int)) (hab : a ≤ b) (hb : b ≤ s.size)
    (k : OpsL P ops (j + 1) l ⟨N, n, (d, .st (.str (s.extract a b))) :: t, h⟩ q) : OpG P ops j ⟨some d, .slice t1 x lo hi none, ty, pos, af, g⟩ l ⟨N, n, t, h⟩ q :=
  OpOk.pure (fun c ac hs => by
    have hv := str_inv (S.ev_val hs (by rw [evT_eq]; exact hx))
    obtain ⟨dd, _, _, g1, _, g3, _⟩ := tiOf_parts (hL t1 i ht)
    rw [hk] at g3
    have g4 : dd = .string := tk_inv g3
    subst g4
    refine ⟨.string (s.extract a b), ?_, .st _ _ (.str _)⟩
    have key : (Instr.sliceBounds false s.size s.size (lo.map ac.eval) (hi.map ac.eval) none).run P c.w = .ok (a, b, s.size) c.w := by
      have e1 : ∀ y, hi = some y → ∃ kk, ac.eval y = .int kk b := fun y e => by
        subst e; obtain ⟨kk, m, h1, h2⟩ := hhi; subst h2
        exact ⟨kk, int_inv (S.ev_val hs (by rw [evT_eq]; exact h1))⟩
      have e2 : ∀ y, lo = some y → ∃ kk, ac.eval y = .int kk a := fun y e => by
        subst e; obtain ⟨kk, m, h1, h2⟩ := hlo; subst h2
        exact ⟨kk, int_inv (S.ev_val hs (by rw [evT_eq]; exact h1))⟩
      unfold Instr.sliceBounds
      cases hi with
      | none =>
        simp only at hhi; subst hhi
        cases lo with
        | none => simp only at hlo; subst hlo; simp
        | some y => obtain ⟨kk, e⟩ := e2 y rfl; simp [Instr.sliceBound, e, asIntOf, hab]
      | some z =>
        obtain ⟨kk, e⟩ := e1 z rfl
        cases lo with
        | none => simp only at hlo; subst hlo; simp [Instr.sliceBound, e, asIntOf, hb]
        | some y => obtain ⟨kk', e'⟩ := e2 y rfl; simp [Instr.sliceBound, e, e', asIntOf, hb, hab]
    have hr : (Instr.sliceAt t1 (.string s) (lo.map ac.eval) (hi.map ac.eval) none).run P c.w = .ok (.string (s.extract a b)) c.w := by
      unfold Instr.sliceAt
      simp only [Sem.run_bind, run_underlying g1, Result.andThen_ok]
      unfold Instr.slice
      simp only [Sem.run_bind, run_underlying g1, Result.andThen_ok]
      simp [key]
    simp only [execOp, hv, Sem.run_bind, Option.map_none, hr]; rfl) k

/-- A piece of a stable slice. -/
theorem st_subL {t1 e sz bytes : Nat} {x : Operand} {lo hi : Option Operand} {i : TI} {rows : List (List SV)} (a b : Nat) (hL : LayOk P L) (hx : evT t x = some (.st (.sl sz rows))) (ht : look L t1 = some i) (hk : i.k = .slice e sz bytes)
    (hlo : match lo with | none => a = 0 | some y => ∃ kk m, evT t y = some (.st (.int kk m)) ∧ m = (a : Int)) (hhi : match hi with | none => b = rows.length | some y => ∃ kk m, evT t y = some (.st (.int kk m)) ∧ m = (b : Int)) (hab : a ≤ b) (hb : b ≤ rows.length)
    (k : OpsL P ops (j + 1) l ⟨N, n, (d, .st (.sl sz ((rows.drop a).take (b - a)))) :: t, h⟩ q) : OpG P ops j ⟨some d, .slice t1 x lo hi none, ty, pos, af, g⟩ l ⟨N, n, t, h⟩ q :=
  OpOk.pure (fun c ac hs => by
    have hv := st_inv (S.ev_val hs (by rw [evT_eq]; exact hx))
    obtain ⟨dd, _, _, g1, _, g3, _⟩ := tiOf_parts (hL t1 i ht)
    rw [hk] at g3
    obtain ⟨g4, j', g5, g6, g7⟩ := tk_inv g3
    subst g4
    generalize hp : ac.eval x = p at hv
    have key : ∀ len cap : Nat, len = rows.length → len ≤ cap → (Instr.sliceBounds true len cap (lo.map ac.eval) (hi.map ac.eval) none).run P c.w = .ok (a, b, cap) c.w := by
      intro len cap hlen hcap
      have e1 : ∀ y, hi = some y → ∃ kk, ac.eval y = .int kk b := fun y e => by
        subst e; obtain ⟨kk, m, h1, h2⟩ := hhi; subst h2
        exact ⟨kk, int_inv (S.ev_val hs (by rw [evT_eq]; exact h1))⟩
      have e2 : ∀ y, lo = some y → ∃ kk, ac.eval y = .int kk a := fun y e => by
        subst e; obtain ⟨kk, m, h1, h2⟩ := hlo; subst h2
        exact ⟨kk, int_inv (S.ev_val hs (by rw [evT_eq]; exact h1))⟩
      have hbc : b ≤ cap := by omega
      unfold Instr.sliceBounds
      cases hi with
      | none =>
        simp only at hhi; subst hhi; subst hlen
        cases lo with
        | none => simp only at hlo; subst hlo; simp
        | some y => obtain ⟨kk, e⟩ := e2 y rfl; simp [Instr.sliceBound, e, asIntOf, hab]
      | some z =>
        obtain ⟨kk, e⟩ := e1 z rfl
        cases lo with
        | none => simp only at hlo; subst hlo; simp [Instr.sliceBound, e, asIntOf, hbc]
        | some y => obtain ⟨kk', e'⟩ := e2 y rfl; simp [Instr.sliceBound, e, e', asIntOf, hbc, hab]
    have hr : ∀ (ad : Option Addr) (len cap : Nat), len = rows.length → len ≤ cap → (Instr.sliceAt t1 (.slice ad len cap) (lo.map ac.eval) (hi.map ac.eval) none).run P c.w = .ok (.slice (if cap = a then ad else ad.map (·.add (a * sz))) (b - a) (cap - a)) c.w := by
      intro ad len cap h1 h2
      unfold Instr.sliceAt
      simp only [Sem.run_bind, run_underlying g1, Result.andThen_ok]
      unfold Instr.slice
      simp only [Sem.run_bind, run_underlying g1, Result.andThen_ok, key len cap h1 h2]
      simp [sizeOf, typeInfo, g5, g6]
    cases hv with
    | slnil _ ad cap =>
      have ha : a = 0 := by simp at hb; omega
      have hb0 : b = 0 := by simp at hb; omega
      refine ⟨_, by simp only [execOp, hp, Sem.run_bind, Option.map_none, hr ad 0 cap rfl (by omega)]; rfl, ?_⟩
      subst ha hb0
      exact .st _ _ (.slnil _ _ _)
    | sl _ bb off cap _ hst hrr hc =>
      refine ⟨_, by simp only [execOp, hp, Sem.run_bind, Option.map_none, hr _ rows.length cap rfl hc]; rfl, ?_⟩
      have hlen : ((rows.drop a).take (b - a)).length = b - a := by simp; omega
      by_cases h0 : b - a = 0
      · have : (rows.drop a).take (b - a) = [] := by rw [h0]; simp
        rw [this, h0]
        exact .st _ _ (.slnil _ _ _)
      · rw [if_neg (by omega)]
        simp only [Option.map_some, add_lit]
        have hsub : SRows c.St c.w sz bb (off + a * sz) ((rows.drop a).take (b - a)) := .mk fun i row e => by
          rw [List.getElem?_take] at e
          split at e
          · rw [List.getElem?_drop] at e
            obtain ⟨r1, r2⟩ := hrr.get _ _ e
            refine ⟨r1, ?_⟩
            rw [Nat.add_mul, ← Nat.add_assoc] at r2
            exact r2
          · cases e
        have := SVal.sl (St := c.St) (w := c.w) sz bb (off + a * sz) (cap - a) _ hst hsub (by rw [hlen]; omega)
        rw [hlen] at this
        exact .st _ _ this) k

end
end Go.Proofs.YtohmbpcjapjkbaaGreatDoorAl
