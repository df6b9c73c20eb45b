/- The A-logic, part 4: operands, layouts, and the operations that only compute or read. -/
import Derived.Test.YtohmbpcjapjkbaaGreatDoorAlC
import Derived.IntWalk
import Derived.Laws.Entries
import Derived.Laws.Cells
import Derived.Laws.Strings
set_option linter.all false
namespace Go.Proofs.YtohmbpcjapjkbaaGreatDoorAl

/-- A constant's value. -/
def svBase : Value → Option SV
  | .bool b => some (.bool b)
  | .int k n => some (.int k n)
  | .string s => some (.str s)
  | .slice none 0 0 => some .nilsl
  | .pointer none => some .nilptr
  | .nilIface => some .nilIface
  | .nilFunc => some .nilFunc
  | .map none => some .nilmap
  | _ => none
def svBases : List Value → Option (List SV)
  | [] => some []
  | v :: vs => match svBase v, svBases vs with
    | some x, some xs => some (x :: xs)
    | _, _ => none
def svOf : Value → Option SV
  | .agg cs => match svBases cs.toList with
    | some xs => some (.agg xs)
    | none => none
  | v => svBase v

theorem svBase_val {St : Nat → Prop} {w : World} {v : Value} {x : SV} (h : svBase v = some x) : SVal St w x v := by
  unfold svBase at h
  split at h <;> first | (cases h; constructor) | cases h
theorem svBases_val {St : Nat → Prop} {w : World} : ∀ {vs : List Value} {xs : List SV}, svBases vs = some xs → SList St w xs vs
  | [], xs, h => by cases h; exact .nil
  | v :: vs, xs, h => by
    simp only [svBases] at h
    split at h
    · rename_i x xs' h1 h2
      cases h
      exact .cons _ _ _ _ (svBase_val h1) (svBases_val h2)
    · cases h
theorem svOf_val {St : Nat → Prop} {w : World} {v : Value} {x : SV} (h : svOf v = some x) : SVal St w x v := by
  unfold svOf at h
  split at h
  · rename_i cs
    split at h
    · rename_i xs h1
      cases h
      simpa using SVal.agg (St := St) (w := w) xs cs.toList (svBases_val h1)
    · cases h
  · exact svBase_val h

def S.ev (s : S) : Operand → Option AV
  | .tmp t => look s.t t
  | .const v => match svOf v with
    | some x => some (.st x)
    | none => none
  | .func f => some (.st (.fn (.func f) [] []))
  | .global _ => none

theorem S.ev_val {c : Cfg} {s : S} {a : Act} (hs : SRel c s a) {x : Operand} {y : AV} (h : s.ev x = some y) : AVal c y (a.eval x) := by
  cases x with
  | tmp t =>
    obtain ⟨v, h1, h2⟩ := hs.t.get t y h
    simpa [Act.eval, h1] using h2
  | const v =>
    simp only [S.ev] at h
    split at h
    · rename_i z h1; cases h; exact .st _ _ (svOf_val h1)
    · cases h
  | func f => cases h; exact .st _ _ (.fn _ _ _ _ _ .nil .nil)
  | global g => cases h

/-- Several operands. -/
def S.evs (s : S) : List Operand → Option (List AV)
  | [] => some []
  | x :: xs => match s.ev x, s.evs xs with
    | some y, some ys => some (y :: ys)
    | _, _ => none
theorem S.evs_val {c : Cfg} {s : S} {a : Act} (hs : SRel c s a) : ∀ {xs : List Operand} {ys : List AV}, s.evs xs = some ys → AList c ys (xs.map a.eval)
  | [], ys, h => by cases h; exact .nil
  | x :: xs, ys, h => by
    simp only [S.evs] at h
    split at h
    · rename_i y ys' h1 h2; cases h; exact .cons _ _ _ _ (S.ev_val hs h1) (S.evs_val hs h2)
    · cases h

/-! ### layouts -/
inductive TK where
  | bool | string | ptr | iface | func | other
  | int (k : IntKind)
  | slice (e size bytes : Nat)
  | struct (fs : List (Nat × Nat))
  | map (k e : Nat)
  deriving Inhabited
/-- A type: its kind, its size in cells, its zero value. -/
structure TI where
  k : TK
  size : Nat
  agg : Bool
  cmp : Bool
  zero : SV
  deriving Inhabited
abbrev Lay := List (Nat × TI)

def sizesOf (P : Program) : List Field → Option (List (Nat × Nat))
  | [] => some []
  | f :: fs => match P.info? f.type, sizesOf P fs with
    | some i, some r => some ((f.offset, i.size) :: r)
    | _, _ => none
def tkOf (P : Program) : TypeDesc → Option TK
  | .bool => some .bool
  | .int k => some (.int k)
  | .string => some .string
  | .slice e => match P.info? e with
    | some i => some (.slice e i.size i.bytes)
    | none => none
  | .struct fs => match sizesOf P fs.toList with
    | some r => some (.struct r)
    | none => none
  | .pointer _ => some .ptr
  | .interface _ => some .iface
  | .func .. => some .func
  | .map k e => some (.map k e)
  | _ => some .other
def aggDesc : TypeDesc → Bool
  | .struct _ | .array _ _ => true
  | _ => false
def tiOf (P : Program) (t : TypeId) : Option TI :=
  match P.underlying t, P.info? t with
  | some d, some i => match tkOf P d, i.zero with
    | some k, some z => match svOf z with
      | some z => some ⟨k, i.size, aggDesc d, i.comparable, z⟩
      | none => none
    | _, _ => none
  | _, _ => none
def layOf (P : Program) : List Nat → Lay
  | [] => []
  | t :: ts => match tiOf P t with
    | some i => (t, i) :: layOf P ts
    | none => layOf P ts
def LayOk (P : Program) (L : Lay) : Prop := ∀ t i, look L t = some i → tiOf P t = some i
theorem layOf_ok (P : Program) (ts : List Nat) : LayOk P (layOf P ts) := by
  induction ts with
  | nil => intro t i h; cases h
  | cons u ts ih =>
    intro t i h
    simp only [layOf] at h
    split at h
    · rename_i j hj
      rw [look_cons] at h
      split at h
      · rename_i e; subst e; cases h; exact hj
      · exact ih t i h
    · exact ih t i h

theorem tiOf_parts {P : Program} {t : TypeId} {i : TI} (h : tiOf P t = some i) :
    ∃ d j z, P.underlying t = some d ∧ P.info? t = some j ∧ tkOf P d = some i.k ∧ i.size = j.size ∧ i.agg = aggDesc d ∧ i.cmp = j.comparable ∧ j.zero = some z ∧ svOf z = some i.zero := by
  unfold tiOf at h
  split at h
  · rename_i d j h1 h2
    split at h
    · rename_i k z h3 h4
      split at h
      · rename_i z' h5; cases h; exact ⟨d, j, z, h1, h2, h3, rfl, rfl, rfl, h4, h5⟩
      · cases h
    · cases h
  · cases h

section
variable {P : Program} {s : S} {K : AV → Heap → Nat → Prop}

theorem OpOk.pure {o : Oper} {x : AV} (h : ∀ c a, SRel c s a → ∃ v, (execOp a.eval o).run P c.w = .ok (.value v) c.w ∧ AVal c x v) (k : K x s.h s.n) : OpOk P o s K := by
  intro c a hs next Q hn
  obtain ⟨v, h1, h2⟩ := h c a hs
  unfold Oper.wp
  rw [h1]
  exact hn x s.h s.n v c k (.refl _ _) hs.n hs.h h2

variable {d : Option Tmp} {ty : TypeId} {pos : String} {af : Array Edge} {g : Option (Nat × Bool)}

theorem ok_move {x : Operand} {y : AV} (h : s.ev x = some y) (k : K y s.h s.n) : OpOk P ⟨d, .move x, ty, pos, af, g⟩ s K :=
  .pure (fun _ _ hs => ⟨_, rfl, S.ev_val hs h⟩) k
theorem ok_assign {x : Operand} {y : AV} (h : s.ev x = some y) (k : K y s.h s.n) : OpOk P ⟨d, .assign x, ty, pos, af, g⟩ s K :=
  .pure (fun _ _ hs => ⟨_, rfl, S.ev_val hs h⟩) k

theorem st_inv {c : Cfg} {x : SV} {v : Value} (h : AVal c (.st x) v) : SVal c.St c.w x v := by cases h; assumption
theorem bool_inv {c : Cfg} {b : Bool} {v : Value} (h : AVal c (.st (.bool b)) v) : v = .bool b := by cases st_inv h; rfl
theorem int_inv {c : Cfg} {k : IntKind} {n : Int} {v : Value} (h : AVal c (.st (.int k n)) v) : v = .int k n := by cases st_inv h; rfl
theorem str_inv {c : Cfg} {b : ByteArray} {v : Value} (h : AVal c (.st (.str b)) v) : v = .string b := by cases st_inv h; rfl

theorem ok_pick {x y z : Operand} {b : Bool} {u v : AV} (h : s.ev x = some (.st (.bool b))) (h1 : b = true → s.ev y = some u) (h2 : b = false → s.ev z = some v)
    (k1 : b = true → K u s.h s.n) (k2 : b = false → K v s.h s.n) : OpOk P ⟨d, .pick x y z, ty, pos, af, g⟩ s K := by
  cases b with
  | true =>
    refine .pure (fun c a hs => ⟨a.eval y, ?_, S.ev_val hs (h1 rfl)⟩) (k1 rfl)
    simp [execOp, bool_inv (S.ev_val hs h), asBool]
  | false =>
    refine .pure (fun c a hs => ⟨a.eval z, ?_, S.ev_val hs (h2 rfl)⟩) (k2 rfl)
    simp [execOp, bool_inv (S.ev_val hs h), asBool]

theorem sval_bool {St : Nat → Prop} {w : World} {b b' : Bool} (h : b = b') : SVal St w (.bool b) (.bool b') := by subst h; exact .bool b
/-- Integers. -/
def binI : BinOp → IntKind → Int → Int → Option SV
  | .add, k, a, b => some (.int k (k.wrap (a + b)))
  | .sub, k, a, b => some (.int k (k.wrap (a - b)))
  | .mul, k, a, b => some (.int k (k.wrap (a * b)))
  | .eql, _, a, b => some (.bool (decide (a = b)))
  | .neq, _, a, b => some (.bool (decide (a ≠ b)))
  | .lss, _, a, b => some (.bool (decide (a < b)))
  | .leq, _, a, b => some (.bool (decide (a ≤ b)))
  | .gtr, _, a, b => some (.bool (decide (a > b)))
  | .geq, _, a, b => some (.bool (decide (a ≥ b)))
  | _, _, _, _ => none
theorem binI_run {op : BinOp} {t : TypeId} {k : IntKind} {a b : Int} {z : SV} (h : binI op k a b = some z) (w : World) :
    ∃ v, (binOp op t (.int k a) (.int k b)).run P w = .ok v w ∧ ∀ St, SVal St w z v := by
  cases op <;> simp only [binI, Option.some.injEq, reduceCtorEq] at h <;> subst h
  all_goals
    refine ⟨_, by simp [binOp, Op.intArith, Op.intCmp]; rfl, fun St => ?_⟩
    first | exact .int _ _ | exact sval_bool (by first | rfl | (rw [Bool.eq_iff_iff]; simp))
theorem ok_binI {op : BinOp} {t u : TypeId} {x y : Operand} {k : IntKind} {a b : Int} {z : SV} (h1 : s.ev x = some (.st (.int k a))) (h2 : s.ev y = some (.st (.int k b)))
    (h : binI op k a b = some z) (kk : K (.st z) s.h s.n) : OpOk P ⟨d, .binOp op t x y u, ty, pos, af, g⟩ s K := by
  refine .pure (fun c a' hs => ?_) kk
  obtain ⟨v, hr, hv⟩ := binI_run (P := P) (t := t) h c.w
  refine ⟨v, ?_, .st _ _ (hv _)⟩
  simp only [execOp, int_inv (S.ev_val hs h1), int_inv (S.ev_val hs h2)]
  have he : (eqGuard op t x y (.int k a) (.int k b)).run P c.w = .ok () c.w := by
    unfold eqGuard; cases op <;> simp
  simp [he, hr]
end
end Go.Proofs.YtohmbpcjapjkbaaGreatDoorAl
