/- The A-logic, part 14: pieces of texts and slices; ends of code; append; frozen objects. -/
import Derived.Test.YtmekcbbieacioaaGreatDoorAlM
set_option linter.all false
namespace Go.Proofs.YtmekcbbieacioaaGreatDoorAl
section
variable {P : Program} {ops : Array Oper} {j : Nat} {l : List Oper} {q : S → Prop} {s : S} {N n : Nat} {t : List (Nat × AV)} {h : Heap} {Q : Exit → S → Prop}
variable {d : Nat} {op : Op} {ty : TypeId} {pos : String} {af : Array Edge} {g : Option (Nat × Bool)} {L : Lay}

/-! ### ends -/
theorem n_thn {y : Code} (k : CodeOk P y s Q) : thn P y Q .normal s := k
theorem n_blk {id : Nat} (k : Q .normal s) : inBlk id Q .normal s := k
theorem e_thn {id : Nat} {y : Code} (k : Q (.exit id) s) : thn P y Q (.exit id) s := k
theorem e_hit {id : Nat} (k : Q .normal s) : inBlk id Q (.exit id) s := by simpa [inBlk] using k
theorem e_miss {id id' : Nat} (hn : Nat.beq id' id = false) (k : Q (.exit id') s) : inBlk id Q (.exit id') s := by
  have : id' ≠ id := fun e => by subst e; rw [Nat.beq_refl] at hn; cases hn
  simpa [inBlk, this] using k
theorem r_thn {y : Code} (k : Q .ret s) : thn P y Q .ret s := k
theorem r_blk {id : Nat} (k : Q .ret s) : inBlk id Q .ret s := k
/-- A loop's round, at its end. -/
def rnd (I : Nat → S → Prop) (m : Nat) (s : S) (Q : Exit → S → Prop) : Exit → S → Prop
  | .normal, s' => ∃ m' s'', m' < m ∧ Wk s' s'' ∧ s.n ≤ s''.n ∧ I m' s''
  | e, s' => Q e s'
theorem e_rnd {I : Nat → S → Prop} {m id : Nat} {s0 : S} (k : Q (.exit id) s) : rnd I m s0 Q (.exit id) s := k
theorem r_rnd {I : Nat → S → Prop} {m : Nat} {s0 : S} (k : Q .ret s) : rnd I m s0 Q .ret s := k
theorem n_rnd {I : Nat → S → Prop} {m : Nat} {s0 : S} (m' : Nat) (s'' : S) (h1 : m' < m) (h2 : Wk s s'') (h3 : s0.n ≤ s''.n) (h4 : I m' s'') : rnd I m s0 Q .normal s := ⟨m', s'', h1, h2, h3, h4⟩
theorem lp {x : Code} (I : Nat → S → Prop) (m₀ : Nat) (s₀ : S) (h0 : Wk s s₀) (hn : s.n ≤ s₀.n) (h1 : I m₀ s₀) (round : ∀ m s, I m s → CodeOk P x s (rnd I m s Q)) : CodeOk P (.loop x) s Q :=
  .loop I m₀ s₀ h0 hn h1 fun m s hI => (round m s hI).mono fun e s' hq => by cases e <;> exact hq
/-- A cut: what follows is proved once, from what is said here. -/
def cutQ (M : S → Prop) (s : S) (Q : Exit → S → Prop) : Exit → S → Prop
  | .normal, s' => ∃ s'', Wk s' s'' ∧ s.n ≤ s''.n ∧ M s''
  | e, s' => Q e s'
theorem e_cut {M : S → Prop} {id : Nat} {s0 : S} (k : Q (.exit id) s) : cutQ M s0 Q (.exit id) s := k
theorem r_cut {M : S → Prop} {s0 : S} (k : Q .ret s) : cutQ M s0 Q .ret s := k
theorem n_cut {M : S → Prop} {s0 : S} (s'' : S) (h2 : Wk s s'') (h3 : s0.n ≤ s''.n) (h4 : M s'') : cutQ M s0 Q .normal s := ⟨s'', h2, h3, h4⟩
theorem cut {x y : Code} (M : S → Prop) (h1 : CodeOk P x s (cutQ M s Q)) (k : ∀ s', M s' → CodeOk P y s' Q) : CodeOk P (.seq x y) s Q :=
  .seq_cut M (h1.mono fun e s' hq => by cases e <;> exact hq) k

theorem o_none (hd : Nat.blt d N = true) (k : OpG P ops j ⟨some d, op, ty, pos, af, none⟩ l ⟨N, n, t, h⟩ q) : OpsL P ops j (⟨some d, op, ty, pos, af, none⟩ :: l) ⟨N, n, t, h⟩ q := go rfl hd k
theorem o_none_ (k : OpG P ops j ⟨none, op, ty, pos, af, none⟩ l ⟨N, n, t, h⟩ q) : OpsL P ops j (⟨none, op, ty, pos, af, none⟩ :: l) ⟨N, n, t, h⟩ q := go rfl rfl k
theorem o_yes {g tg : Nat} {w : Bool} (hj : (ops[g]?).bind (·.dst) = some tg) (ht : look t tg = some (.st (.bool w))) (hd : Nat.blt d N = true) (k : OpG P ops j ⟨some d, op, ty, pos, af, some (g, w)⟩ l ⟨N, n, t, h⟩ q) :
    OpsL P ops j (⟨some d, op, ty, pos, af, some (g, w)⟩ :: l) ⟨N, n, t, h⟩ q := yes rfl hj ht hd k
theorem o_yes_ {g tg : Nat} {w : Bool} (hj : (ops[g]?).bind (·.dst) = some tg) (ht : look t tg = some (.st (.bool w))) (k : OpG P ops j ⟨none, op, ty, pos, af, some (g, w)⟩ l ⟨N, n, t, h⟩ q) :
    OpsL P ops j (⟨none, op, ty, pos, af, some (g, w)⟩ :: l) ⟨N, n, t, h⟩ q := yes rfl hj ht rfl k
theorem o_both {g tg : Nat} {w b : Bool} {dst : Option Tmp} (_hj : (ops[g]?).bind (·.dst) = some tg) (ht : look t tg = some (.st (.bool b)))
    (h1 : b = true → OpsL P ops j (⟨dst, op, ty, pos, af, some (g, w)⟩ :: l) ⟨N, n, (tg, .st (.bool true)) :: t, h⟩ q) (h2 : b = false → OpsL P ops j (⟨dst, op, ty, pos, af, some (g, w)⟩ :: l) ⟨N, n, (tg, .st (.bool false)) :: t, h⟩ q) :
    OpsL P ops j (⟨dst, op, ty, pos, af, some (g, w)⟩ :: l) ⟨N, n, t, h⟩ q := both tg ht h1 h2

theorem o_dec {g tg : Nat} {w : Bool} {p : Prop} [Decidable p] {dst : Option Tmp} (_hj : (ops[g]?).bind (·.dst) = some tg) (ht : look t tg = some (.st (.bool (decide p))))
    (h1 : p → OpsL P ops j (⟨dst, op, ty, pos, af, some (g, w)⟩ :: l) ⟨N, n, (tg, .st (.bool true)) :: t, h⟩ q) (h2 : ¬ p → OpsL P ops j (⟨dst, op, ty, pos, af, some (g, w)⟩ :: l) ⟨N, n, (tg, .st (.bool false)) :: t, h⟩ q) :
    OpsL P ops j (⟨dst, op, ty, pos, af, some (g, w)⟩ :: l) ⟨N, n, t, h⟩ q := both tg ht (fun e => h1 (of_decide_eq_true e)) (fun e => h2 (of_decide_eq_false e))
theorem o_ndec {g tg : Nat} {w : Bool} {p : Prop} [Decidable p] {dst : Option Tmp} (_hj : (ops[g]?).bind (·.dst) = some tg) (ht : look t tg = some (.st (.bool (!decide p))))
    (h1 : ¬ p → OpsL P ops j (⟨dst, op, ty, pos, af, some (g, w)⟩ :: l) ⟨N, n, (tg, .st (.bool true)) :: t, h⟩ q) (h2 : p → OpsL P ops j (⟨dst, op, ty, pos, af, some (g, w)⟩ :: l) ⟨N, n, (tg, .st (.bool false)) :: t, h⟩ q) :
    OpsL P ops j (⟨dst, op, ty, pos, af, some (g, w)⟩ :: l) ⟨N, n, t, h⟩ q := both tg ht (fun e => h1 (by simpa using e)) (fun e => h2 (by simpa using e))
theorem c_ndec {x : Operand} {y z : Code} {p : Prop} [Decidable p] (hx : evT t x = some (.st (.bool (!decide p)))) (h1 : ¬ p → CodeOk P y ⟨N, n, t, h⟩ Q) (h2 : p → CodeOk P z ⟨N, n, t, h⟩ Q) : CodeOk P (.cond x y z) ⟨N, n, t, h⟩ Q :=
  cnd hx (fun e => h1 (by simpa using e)) (fun e => h2 (by simpa using e))
theorem c_dec {x : Operand} {y z : Code} {p : Prop} [Decidable p] (hx : evT t x = some (.st (.bool (decide p)))) (h1 : p → CodeOk P y ⟨N, n, t, h⟩ Q) (h2 : ¬ p → CodeOk P z ⟨N, n, t, h⟩ Q) : CodeOk P (.cond x y z) ⟨N, n, t, h⟩ Q :=
  cnd hx (fun e => h1 (of_decide_eq_true e)) (fun e => h2 (of_decide_eq_false e))

/-! ### a function's end -/
def fnQ (L : Lay) (rs : List ResultVar) (m : Nat) (R : AV → Heap → Prop) : Exit → S → Prop
  | .normal, s => ∃ s'' xs, Wk s s'' ∧ m ≤ s''.n ∧ retVals L s'' rs = some xs ∧ R (retOf xs) s''.h
  | .ret, s => ∃ s'' xs, Wk s s'' ∧ m ≤ s''.n ∧ retVals L s'' rs = some xs ∧ R (retOf xs) s''.h
  | _, _ => False
theorem fn_ok {f m : Nat} {args : List AV} {R : AV → Heap → Prop} {fn : Func} {code : Code} (hL : LayOk P L) (hf : P.funcs[f]? = some fn) (hb : fn.body = some code) (ha : Nat.ble args.length N = true) (hN : fn.ntmps = N)
    {t0 : List (Nat × AV)} (ht : params 0 args = t0) {rs : List ResultVar} (hr : fn.results.toList = rs) (k : CodeOk P code ⟨N, m, t0, h⟩ (fnQ L rs m R)) : ACalls P f m args h R := by
  subst hN ht hr
  exact .of_code hL hf hb ha (k.mono fun e s' hq => by
    cases e with
    | normal => exact ⟨.inl rfl, hq⟩
    | ret => exact ⟨.inr rfl, hq⟩
    | _ => exact hq.elim)
def keepT : List ResultVar → List (Nat × AV) → List (Nat × AV)
  | [], _ => []
  | .tmp i :: r, t => match look t i with
    | some x => (i, x) :: keepT r t
    | none => keepT r t
  | .cell i _ :: r, t => match look t i with
    | some x => (i, x) :: keepT r t
    | none => keepT r t
theorem keepT_sub : ∀ (rs : List ResultVar) (t : List (Nat × AV)), Sub (keepT rs t) t
  | [], _ => trivial
  | .tmp i :: r, t => by
    simp only [keepT]
    split
    · rename_i x hx; exact ⟨hx, keepT_sub r t⟩
    · exact keepT_sub r t
  | .cell i _ :: r, t => by
    simp only [keepT]
    split
    · rename_i x hx; exact ⟨hx, keepT_sub r t⟩
    · exact keepT_sub r t
/-- The results, and of the objects these. -/
theorem f_ret {rs : List ResultVar} {m : Nat} {R : AV → Heap → Prop} {xs : List AV} (h' : Heap) (n' : Nat) (h1 : retVals L ⟨N, n', keepT rs t, h'⟩ rs = some xs) (h2 : Sub h' h) (h3 : (belT n' (keepT rs t) && belH n' h') = true) (h4 : Nat.ble m n' = true)
    (h5 : R (retOf xs) h') : fnQ L rs m R .ret ⟨N, n, t, h⟩ :=
  ⟨⟨N, n', keepT rs t, h'⟩, xs, .of rfl (keepT_sub rs t) h2 h3, Nat.le_of_ble_eq_true h4, h1, h5⟩
theorem f_nrm {rs : List ResultVar} {m : Nat} {R : AV → Heap → Prop} {xs : List AV} (h' : Heap) (n' : Nat) (h1 : retVals L ⟨N, n', keepT rs t, h'⟩ rs = some xs) (h2 : Sub h' h) (h3 : (belT n' (keepT rs t) && belH n' h') = true) (h4 : Nat.ble m n' = true)
    (h5 : R (retOf xs) h') : fnQ L rs m R .normal ⟨N, n, t, h⟩ :=
  ⟨⟨N, n', keepT rs t, h'⟩, xs, .of rfl (keepT_sub rs t) h2 h3, Nat.le_of_ble_eq_true h4, h1, h5⟩

/-! ### division -/
def divI : BinOp → IntKind → Int → Int → Option SV
  | .quo, k, a, b => some (.int k (k.wrap (a.tdiv b)))
  | .rem, k, a, b => some (.int k (a.tmod b))
  | _, _, _, _ => none
theorem st_div {op : BinOp} {t1 t2 : TypeId} {x y : Operand} {kk : IntKind} {a b : Int} {z : SV} (h1 : evT t x = some (.st (.int kk a))) (h2 : evT t y = some (.st (.int kk b))) (hz : divI op kk a b = some z) (hb : b ≠ 0)
    (k : OpsL P ops (j + 1) l ⟨N, n, (d, .st z) :: t, h⟩ q) : OpG P ops j ⟨some d, .binOp op t1 x y t2, ty, pos, af, g⟩ l ⟨N, n, t, h⟩ q :=
  OpOk.pure (fun c ac hs => by
    have e1 := int_inv (S.ev_val hs (by rw [evT_eq]; exact h1))
    have e2 := int_inv (S.ev_val hs (by rw [evT_eq]; exact h2))
    cases op <;> simp only [divI, Option.some.injEq, reduceCtorEq] at hz <;> subst hz
    · refine ⟨.int kk (kk.wrap (a.tdiv b)), ?_, .st _ _ (.int _ _)⟩
      simp [execOp, e1, e2, eqGuard, binOp, Op.intDiv, hb]
    · refine ⟨.int kk (a.tmod b), ?_, .st _ _ (.int _ _)⟩
      simp [execOp, e1, e2, eqGuard, binOp, Op.intDiv, hb]) k

/-! ### pieces -/
/-- A piece of a text. -/
theorem st_subS {t1 : TypeId} {x : Operand} {lo hi : Option Operand} {i : TI} {s : ByteArray} (a b : Nat) (hL : LayOk P L) (hx : evT t x = some (.st (.str s))) (ht : look L t1 = some i) (hk : i.k = .string)
    (hlo : match lo with | none => a = 0 | some y => ∃ kk m, evT t y = some (.st (.int kk m)) ∧ m = (a : Int)) (hhi : match hi with | none => b = s.size | some y => ∃ kk m, evT t y = some (.st (.int kk m)) ∧ m = (b : Int)) (hab : a ≤ b) (hb : b ≤ s.size)
    (k : OpsL P ops (j + 1) l ⟨N, n, (d, .st (.str (s.extract a b))) :: t, h⟩ q) : OpG P ops j ⟨some d, .slice t1 x lo hi none, ty, pos, af, g⟩ l ⟨N, n, t, h⟩ q :=
  OpOk.pure (fun c ac hs => by
    have hv := str_inv (S.ev_val hs (by rw [evT_eq]; exact hx))
    obtain ⟨dd, _, _, g1, _, g3, _⟩ := tiOf_parts (hL t1 i ht)
    rw [hk] at g3
    have g4 : dd = .string := tk_inv g3
    subst g4
    refine ⟨.string (s.extract a b), ?_, .st _ _ (.str _)⟩
    have key : (Instr.sliceBounds false s.size s.size (lo.map ac.eval) (hi.map ac.eval) none).run P c.w = .ok (a, b, s.size) c.w := by
      have e1 : ∀ y, hi = some y → ∃ kk, ac.eval y = .int kk b := fun y e => by
        subst e; obtain ⟨kk, m, h1, h2⟩ := hhi; subst h2
        exact ⟨kk, int_inv (S.ev_val hs (by rw [evT_eq]; exact h1))⟩
      have e2 : ∀ y, lo = some y → ∃ kk, ac.eval y = .int kk a := fun y e => by
        subst e; obtain ⟨kk, m, h1, h2⟩ := hlo; subst h2
        exact ⟨kk, int_inv (S.ev_val hs (by rw [evT_eq]; exact h1))⟩
      unfold Instr.sliceBounds
      cases hi with
      | none =>
        simp only at hhi; subst hhi
        cases lo with
        | none => simp only at hlo; subst hlo; simp
        | some y => obtain ⟨kk, e⟩ := e2 y rfl; simp [Instr.sliceBound, e, asIntOf, hab]
      | some z =>
        obtain ⟨kk, e⟩ := e1 z rfl
        cases lo with
        | none => simp only at hlo; subst hlo; simp [Instr.sliceBound, e, asIntOf, hb]
        | some y => obtain ⟨kk', e'⟩ := e2 y rfl; simp [Instr.sliceBound, e, e', asIntOf, hb, hab]
    have hr : (Instr.sliceAt t1 (.string s) (lo.map ac.eval) (hi.map ac.eval) none).run P c.w = .ok (.string (s.extract a b)) c.w := by
      unfold Instr.sliceAt
      simp only [Sem.run_bind, run_underlying g1, Result.andThen_ok]
      unfold Instr.slice
      simp only [Sem.run_bind, run_underlying g1, Result.andThen_ok]
      simp [key]
    simp only [execOp, hv, Sem.run_bind, Option.map_none, hr]; rfl) k

/-- A piece of a stable slice. -/
theorem st_subL {t1 e sz bytes : Nat} {x : Operand} {lo hi : Option Operand} {i : TI} {rows : List (List SV)} (a b : Nat) (hL : LayOk P L) (hx : evT t x = some (.st (.sl sz rows))) (ht : look L t1 = some i) (hk : i.k = .slice e sz bytes)
    (hlo : match lo with | none => a = 0 | some y => ∃ kk m, evT t y = some (.st (.int kk m)) ∧ m = (a : Int)) (hhi : match hi with | none => b = rows.length | some y => ∃ kk m, evT t y = some (.st (.int kk m)) ∧ m = (b : Int)) (hab : a ≤ b) (hb : b ≤ rows.length)
    (k : OpsL P ops (j + 1) l ⟨N, n, (d, .st (.sl sz ((rows.drop a).take (b - a)))) :: t, h⟩ q) : OpG P ops j ⟨some d, .slice t1 x lo hi none, ty, pos, af, g⟩ l ⟨N, n, t, h⟩ q :=
  OpOk.pure (fun c ac hs => by
    have hv := st_inv (S.ev_val hs (by rw [evT_eq]; exact hx))
    obtain ⟨dd, _, _, g1, _, g3, _⟩ := tiOf_parts (hL t1 i ht)
    rw [hk] at g3
    obtain ⟨g4, j', g5, g6, g7⟩ := tk_inv g3
    subst g4
    generalize hp : ac.eval x = p at hv
    have key : ∀ len cap : Nat, len = rows.length → len ≤ cap → (Instr.sliceBounds true len cap (lo.map ac.eval) (hi.map ac.eval) none).run P c.w = .ok (a, b, cap) c.w := by
      intro len cap hlen hcap
      have e1 : ∀ y, hi = some y → ∃ kk, ac.eval y = .int kk b := fun y e => by
        subst e; obtain ⟨kk, m, h1, h2⟩ := hhi; subst h2
        exact ⟨kk, int_inv (S.ev_val hs (by rw [evT_eq]; exact h1))⟩
      have e2 : ∀ y, lo = some y → ∃ kk, ac.eval y = .int kk a := fun y e => by
        subst e; obtain ⟨kk, m, h1, h2⟩ := hlo; subst h2
        exact ⟨kk, int_inv (S.ev_val hs (by rw [evT_eq]; exact h1))⟩
      have hbc : b ≤ cap := by omega
      unfold Instr.sliceBounds
      cases hi with
      | none =>
        simp only at hhi; subst hhi; subst hlen
        cases lo with
        | none => simp only at hlo; subst hlo; simp
        | some y => obtain ⟨kk, e⟩ := e2 y rfl; simp [Instr.sliceBound, e, asIntOf, hab]
      | some z =>
        obtain ⟨kk, e⟩ := e1 z rfl
        cases lo with
        | none => simp only at hlo; subst hlo; simp [Instr.sliceBound, e, asIntOf, hbc]
        | some y => obtain ⟨kk', e'⟩ := e2 y rfl; simp [Instr.sliceBound, e, e', asIntOf, hbc, hab]
    have hr : ∀ (ad : Option Addr) (len cap : Nat), len = rows.length → len ≤ cap → (Instr.sliceAt t1 (.slice ad len cap) (lo.map ac.eval) (hi.map ac.eval) none).run P c.w = .ok (.slice (if cap = a then ad else ad.map (·.add (a * sz))) (b - a) (cap - a)) c.w := by
      intro ad len cap h1 h2
      unfold Instr.sliceAt
      simp only [Sem.run_bind, run_underlying g1, Result.andThen_ok]
      unfold Instr.slice
      simp only [Sem.run_bind, run_underlying g1, Result.andThen_ok, key len cap h1 h2]
      simp [sizeOf, typeInfo, g5, g6]
    cases hv with
    | slnil _ ad cap =>
      have ha : a = 0 := by simp at hb; omega
      have hb0 : b = 0 := by simp at hb; omega
      refine ⟨_, by simp only [execOp, hp, Sem.run_bind, Option.map_none, hr ad 0 cap rfl (by omega)]; rfl, ?_⟩
      subst ha hb0
      exact .st _ _ (.slnil _ _ _)
    | sl _ bb off cap _ hst hrr hc =>
      refine ⟨_, by simp only [execOp, hp, Sem.run_bind, Option.map_none, hr _ rows.length cap rfl hc]; rfl, ?_⟩
      have hlen : ((rows.drop a).take (b - a)).length = b - a := by simp; omega
      by_cases h0 : b - a = 0
      · have : (rows.drop a).take (b - a) = [] := by rw [h0]; simp
        rw [this, h0]
        exact .st _ _ (.slnil _ _ _)
      · rw [if_neg (by omega)]
        simp only [Option.map_some, add_lit]
        have hsub : SRows c.St c.w sz bb (off + a * sz) ((rows.drop a).take (b - a)) := .mk fun i row e => by
          rw [List.getElem?_take] at e
          split at e
          · rw [List.getElem?_drop] at e
            obtain ⟨r1, r2⟩ := hrr.get _ _ e
            refine ⟨r1, ?_⟩
            rw [Nat.add_mul, ← Nat.add_assoc] at r2
            exact r2
          · cases e
        have := SVal.sl (St := c.St) (w := c.w) sz bb (off + a * sz) (cap - a) _ hst hsub (by rw [hlen]; omega)
        rw [hlen] at this
        exact .st _ _ this) k

/-- x[:0:0]: nothing, with no room. -/
theorem st_sub00 {t1 e sz bytes : Nat} {x : Operand} {i : TI} {X : SV} (hL : LayOk P L) (hx : evT t x = some (.st X)) (ht : look L t1 = some i) (hk : i.k = .slice e sz bytes)
    (hX : (match X with | .sl .. => true | .nilsl => true | .sl0 => true | _ => false) = true)
    (k : OpsL P ops (j + 1) l ⟨N, n, (d, .st .sl0) :: t, h⟩ q) : OpG P ops j ⟨some d, .slice t1 x none (some (.const (.int .i64 0))) (some (.const (.int .i64 0))), ty, pos, af, g⟩ l ⟨N, n, t, h⟩ q :=
  OpOk.pure (fun c ac hs => by
    have hv := st_inv (S.ev_val hs (by rw [evT_eq]; exact hx))
    obtain ⟨dd, _, _, g1, _, g3, _⟩ := tiOf_parts (hL t1 i ht)
    rw [hk] at g3
    obtain ⟨g4, j', g5, g6, g7⟩ := tk_inv g3
    subst g4
    have hr : ∀ (ad : Option Addr) (len cap : Nat), (Instr.sliceAt t1 (.slice ad len cap) none (some (.int .i64 0)) (some (.int .i64 0))).run P c.w = .ok (.slice ad 0 0) c.w := by
      intro ad len cap
      unfold Instr.sliceAt
      simp only [Sem.run_bind, run_underlying g1, Result.andThen_ok]
      unfold Instr.slice
      simp only [Sem.run_bind, run_underlying g1, Result.andThen_ok]
      simp [Instr.sliceBounds, Instr.sliceBound, asIntOf, sizeOf, typeInfo, g5]
    have hsl : ∃ ad len cap, ac.eval x = .slice ad len cap := by
      generalize ac.eval x = p at hv
      cases hv <;> first | exact ⟨_, _, _, rfl⟩ | cases hX
    obtain ⟨ad, len, cap, e⟩ := hsl
    refine ⟨.slice ad 0 0, ?_, .st _ _ (.sl0 _)⟩
    simp only [execOp, e, Sem.run_bind, Option.map_none, Option.map_some]
    have ev0 : ac.eval (.const (.int .i64 0)) = .int .i64 0 := rfl
    rw [ev0, hr]; rfl) k
end
end Go.Proofs.YtmekcbbieacioaaGreatDoorAl
