/- The A-logic, part 8: strings, tests against nil, errors compared, literals, interfaces, closures. -/
import Derived.Test.YtohmbpcjapjkbaaGreatDoorAlG
set_option linter.all false
namespace Go.Proofs.YtohmbpcjapjkbaaGreatDoorAl

theorem bytes_eq (a b : ByteArray) : (a.toList == b.toList) = decide (a = b) := by
  rw [ByteArray.toList_eq, ByteArray.toList_eq, Bool.eq_iff_iff]
  simp only [beq_iff_eq, decide_eq_true_eq]
  exact ⟨WideShapes.bytes_inj, fun h => by rw [h]⟩
def strLt (a b : ByteArray) : Bool := Op.bytesLess a.data.toList b.data.toList
def binS : BinOp → ByteArray → ByteArray → Option SV
  | .eql, a, b => some (.bool (decide (a = b)))
  | .neq, a, b => some (.bool (decide (a ≠ b)))
  | .lss, a, b => some (.bool (strLt a b))
  | .geq, a, b => some (.bool (!strLt a b))
  | .leq, a, b => some (.bool (strLt a b || decide (a = b)))
  | .gtr, a, b => some (.bool (!(strLt a b || decide (a = b))))
  | _, _, _ => none
theorem binS_run {P : Program} {op : BinOp} {t : TypeId} {a b : ByteArray} {z : SV} (h : binS op a b = some z) (w : World) :
    ∃ v, (binOp op t (.string a) (.string b)).run P w = .ok v w ∧ ∀ St, SVal St w z v := by
  cases op <;> simp only [binS, Option.some.injEq, reduceCtorEq] at h <;> subst h
  all_goals
    refine ⟨_, rfl, fun St => sval_bool ?_⟩
    simp only [← bytes_eq, strLt, ByteArray.toList_eq, ne_eq, decide_not]

section
variable {P : Program} {s : S} {K : AV → Heap → Nat → Prop} {d : Option Tmp} {ty : TypeId} {pos : String} {af : Array Edge} {g : Option (Nat × Bool)}
variable {L : Lay} (hL : LayOk P L)

theorem ok_binS {op : BinOp} {t u : TypeId} {x y : Operand} {a b : ByteArray} {z : SV} (h1 : s.ev x = some (.st (.str a))) (h2 : s.ev y = some (.st (.str b)))
    (h : binS op a b = some z) (kk : K (.st z) s.h s.n) : OpOk P ⟨d, .binOp op t x y u, ty, pos, af, g⟩ s K := by
  refine .pure (fun c a' hs => ?_) kk
  obtain ⟨v, hr, hv⟩ := binS_run (P := P) (t := t) h c.w
  refine ⟨v, ?_, .st _ _ (hv _)⟩
  simp only [execOp, str_inv (S.ev_val hs h1), str_inv (S.ev_val hs h2)]
  have he : (eqGuard op t x y (.string a) (.string b)).run P c.w = .ok () c.w := by
    unfold eqGuard; cases op <;> simp
  simp [he, hr]
theorem ok_cat {t u : TypeId} {x y : Operand} {a b : ByteArray} (h1 : s.ev x = some (.st (.str a))) (h2 : s.ev y = some (.st (.str b)))
    (h : a.size + b.size ≤ 9223372036854775807) (kk : K (.st (.str (a ++ b))) s.h s.n) : OpOk P ⟨d, .binOp .add t x y u, ty, pos, af, g⟩ s K := by
  refine .pure (fun c a' hs => ⟨.string (a ++ b), ?_, .st _ _ (.str _)⟩) kk
  simp only [execOp, str_inv (S.ev_val hs h1), str_inv (S.ev_val hs h2)]
  have he : (eqGuard .add t x y (.string a) (.string b)).run P c.w = .ok () c.w := by
    unfold eqGuard; simp
  have hr : (binOp .add t (.string a) (.string b)).run P c.w = .ok (.string (a ++ b)) c.w := by
    show Sem.run P (Op.stringOp .add a b) c.w = _
    simp only [Op.stringOp]
    rw [if_neg (by rw [show IntKind.i64.max = 9223372036854775807 from rfl]; omega)]
    rfl
  simp [he, hr]

theorem equal_eq (t : TypeId) (x y : Value) : Op.equal t x y = Op.equalIn (9999 + 1) t x y := rfl
theorem run_equalIn_bool {P : Program} {t : TypeId} (n : Nat) (a b : Bool) (w : World) (h : P.underlying t = some .bool) : (Op.equalIn (n + 1) t (.bool a) (.bool b)).run P w = .ok (a == b) w := by
  simp [Op.equalIn, run_underlying h]
theorem eq_run {P : Program} {t : TypeId} {p v : Value} {w : World} {b : Bool} (h : ∀ n, (Op.equalIn (n + 1) t p v).run P w = .ok b w) : (Op.equal t p v).run P w = .ok b w := by
  rw [equal_eq]; exact h 9999
/-- Booleans. -/
theorem ok_binB {op : BinOp} {t u : TypeId} {x y : Operand} {a b : Bool} {i : TI} (hL : LayOk P L) (h1 : s.ev x = some (.st (.bool a))) (h2 : s.ev y = some (.st (.bool b))) (ht : look L t = some i) (hk : i.k = .bool)
    {r : Bool} (ho : (op = .eql ∧ r = decide (a = b)) ∨ (op = .neq ∧ r = decide (a ≠ b))) (kk : K (.st (.bool r)) s.h s.n) : OpOk P ⟨d, .binOp op t x y u, ty, pos, af, g⟩ s K := by
  refine .pure (fun c a' hs => ⟨.bool r, ?_, .st _ _ (.bool _)⟩) kk
  obtain ⟨dd, _, _, h5, _, h3, _⟩ := tiOf_parts (hL t i ht)
  rw [hk] at h3
  have h4 : dd = .bool := tk_inv h3
  subst h4
  simp only [execOp, bool_inv (S.ev_val hs h1), bool_inv (S.ev_val hs h2)]
  have he : (eqGuard op t x y (.bool a) (.bool b)).run P c.w = .ok () c.w := by
    unfold eqGuard; cases op <;> simp
  rcases ho with ⟨rfl, rfl⟩ | ⟨rfl, rfl⟩
  · have hr : (binOp .eql t (.bool a) (.bool b)).run P c.w = .ok (.bool (decide (a = b))) c.w := by
      simp only [binOp, Sem.run_bind, eq_run (fun n => run_equalIn_bool n a b c.w h5)]
      simp
      rw [Bool.eq_iff_iff]; simp
    simp [he, hr]
  · have hr : (binOp .neq t (.bool a) (.bool b)).run P c.w = .ok (.bool (decide (a ≠ b))) c.w := by
      simp only [binOp, Sem.run_bind, eq_run (fun n => run_equalIn_bool n a b c.w h5)]
      simp
      rw [Bool.eq_iff_iff]; simp
    simp [he, hr]

/-- Is it nil? -/
def nilTest : TK → AV → Value → Option Bool
  | .ptr, .st .nilptr, .pointer none => some true
  | .ptr, .st (.sptr _), .pointer none => some false
  | .ptr, .ptr .., .pointer none => some false
  | .ptr, .eptr .., .pointer none => some false
  | .iface, .st .nilIface, .nilIface => some true
  | .iface, .st (.iface ..), .nilIface => some false
  | .iface, .iface .., .nilIface => some false
  | .slice .., .st .nilsl, .slice none 0 0 => some true
  | .slice .., .st (.sl _ (_ :: _)), .slice none 0 0 => some false
  | .slice .., .lsl _ _ _ (_ + 1), .slice none 0 0 => some false
  | .func, .st .nilFunc, .nilFunc => some true
  | .func, .st (.fn ..), .nilFunc => some false
  | .func, .fn .., .nilFunc => some false
  | _, _, _ => none

theorem run_nilTest {t : TypeId} {i : TI} {X : AV} {v p : Value} {b : Bool} {c : Cfg} (hL : LayOk P L) (ht : look L t = some i) (hb : nilTest i.k X v = some b) (hp : AVal c X p) :
    (Op.equal t p v).run P c.w = .ok b c.w ∧ (∀ op x, (eqGuard op t x (.const v) p v).run P c.w = .ok () c.w) ∧
    (∀ w, (binOp .eql t p v).run P w = ((Op.equal t p v).run P w).andThen fun r w' => .ok (.bool r) w') ∧
    (∀ w, (binOp .neq t p v).run P w = ((Op.equal t p v).run P w).andThen fun r w' => .ok (.bool !r) w') := by
  obtain ⟨dd, _, _, h1, _, h3, _⟩ := tiOf_parts (hL t i ht)
  have h4 := tk_inv h3
  generalize i.k = ik at *
  unfold nilTest at hb
  split at hb <;> first | cases hb | skip
  all_goals
    cases hp
    try (rename_i h0; have : SVal c.St c.w _ _ := h0; cases h0)
    try (obtain ⟨e, h5⟩ := h4; subst h5)
    try (obtain ⟨h5, _⟩ := h4; subst h5)
    try (obtain ⟨_, _, _, h5⟩ := h4; subst h5)
    refine ⟨eq_run fun n => ?_, ?_, fun w => ?_, fun w => ?_⟩
    · simp [Op.equalIn, run_underlying h1]
    · intro op x; unfold eqGuard; cases op <;> simp
    · simp only [binOp, Sem.run_bind]; rfl
    · simp only [binOp, Sem.run_bind]; rfl
theorem ok_nil {op : BinOp} {t u : TypeId} {x : Operand} {v : Value} {X : AV} {i : TI} {b r : Bool} (hL : LayOk P L) (hx : s.ev x = some X) (ht : look L t = some i) (hb : nilTest i.k X v = some b)
    (ho : (op = .eql ∧ r = b) ∨ (op = .neq ∧ r = !b)) (kk : K (.st (.bool r)) s.h s.n) : OpOk P ⟨d, .binOp op t x (.const v) u, ty, pos, af, g⟩ s K := by
  refine .pure (fun c a' hs => ⟨.bool r, ?_, .st _ _ (.bool _)⟩) kk
  obtain ⟨h1, h2, h3, h4⟩ := run_nilTest (P := P) hL ht hb (S.ev_val hs hx)
  simp only [execOp]
  have hv : a'.eval (.const v) = v := rfl
  rcases ho with ⟨rfl, rfl⟩ | ⟨rfl, rfl⟩
  · simp [hv, h2, h3, h1]
  · simp [hv, h2, h4, h1]
end
end Go.Proofs.YtohmbpcjapjkbaaGreatDoorAl
