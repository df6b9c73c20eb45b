/- The A-logic, part 11: the rules as a proof uses them: states written out. -/
import Derived.Test.YtohmbpcjapjkbaaGreatDoorAlJ
set_option linter.all false
namespace Go.Proofs.YtohmbpcjapjkbaaGreatDoorAl

/-- An operand's value, off the temporaries. -/
def evT (t : List (Nat × AV)) : Operand → Option AV
  | .tmp i => look t i
  | .const v => match svOf v with
    | some x => some (.st x)
    | none => none
  | .func f => some (.st (.fn (.func f) [] []))
  | .global _ => none
theorem evT_eq {N n : Nat} {t : List (Nat × AV)} {h : Heap} (x : Operand) : S.ev ⟨N, n, t, h⟩ x = evT t x := by cases x <;> rfl
def evsT (t : List (Nat × AV)) : List Operand → Option (List AV)
  | [] => some []
  | x :: xs => match evT t x, evsT t xs with
    | some y, some ys => some (y :: ys)
    | _, _ => none
theorem evsT_eq {N n : Nat} {t : List (Nat × AV)} {h : Heap} : ∀ (xs : List Operand), S.evs ⟨N, n, t, h⟩ xs = evsT t xs
  | [] => rfl
  | x :: xs => by simp only [S.evs, evsT, evT_eq, evsT_eq xs]; rfl
def callT (t : List (Nat × AV)) (f : Operand) (args : List Operand) : Option (Nat × List AV) :=
  match evT t f, evsT t args with
  | some (.st (.fn (.func f) first caps)), some xs => some (f, stAll first ++ (xs ++ stAll caps))
  | some (.fn (.func f) first caps), some xs => some (f, first ++ (xs ++ caps))
  | _, _ => none
theorem callT_eq {N n : Nat} {t : List (Nat × AV)} {h : Heap} (f : Operand) (args : List Operand) : callArgs ⟨N, n, t, h⟩ f args = callT t f args := by
  simp only [callArgs, callT, evT_eq, evsT_eq]; rfl

/-- The operations of a region that are still to come: l, from place j on. -/
def OpsL (P : Program) (ops : Array Oper) (j : Nat) (l : List Oper) (s : S) (q : S → Prop) : Prop :=
  (∀ i, l[i]? = ops[j + i]?) → OpsOk P ops (List.range' j l.length) s q
/-- The next operation, whatever its guard; then the rest. -/
def OpG (P : Program) (ops : Array Oper) (j : Nat) (o : Oper) (l : List Oper) (s : S) (q : S → Prop) : Prop :=
  OpOk P o s fun x h n => OpsL P ops (j + 1) l (s.after o.dst x h n) q

section
variable {P : Program} {ops : Array Oper} {j : Nat} {o : Oper} {l : List Oper} {s : S} {q : S → Prop} {N n : Nat} {t : List (Nat × AV)} {h : Heap} {Q : Exit → S → Prop}

theorem rest_fits (hl : ∀ i, (o :: l)[i]? = ops[j + i]?) : ∀ i, l[i]? = ops[j + 1 + i]? := fun i => by
  have := hl (i + 1)
  rw [List.getElem?_cons_succ] at this
  rw [this]; congr 1; omega
theorem head_fits (hl : ∀ i, (o :: l)[i]? = ops[j + i]?) : ops[j]? = some o := by simpa using (hl 0).symm

theorem reg {id : Nat} (k : OpsL P ops 0 ops.toList s (Q .normal)) : CodeOk P (.region id ops false) s Q := by
  refine .region ?_
  have := k (fun i => by simp)
  rwa [List.range_eq_range', ← Array.length_toList]
theorem fin (k : q s) : OpsL P ops j [] s q := fun _ => .nil k
theorem go (hg : o.guard = none) (hd : dstOk s.N o.dst = true) (k : OpG P ops j o l s q) : OpsL P ops j (o :: l) s q := fun hl => by
  simp only [List.length_cons, List.range'_succ]
  refine .op (head_fits hl) hg hd ?_
  intro c a hs next Q hn
  exact k c a hs next Q fun x h' n' v c' hk => hn x h' n' v c' (hk (rest_fits hl))
theorem yes {g tg : Nat} {w : Bool} (hg : o.guard = some (g, w)) (hj : (ops[g]?).bind (·.dst) = some tg) (ht : look s.t tg = some (.st (.bool w))) (hd : dstOk s.N o.dst = true) (k : OpG P ops j o l s q) : OpsL P ops j (o :: l) s q := fun hl => by
  simp only [List.length_cons, List.range'_succ]
  refine .op_yes (head_fits hl) hg hj ht hd ?_
  intro c a hs next Q hn
  exact k c a hs next Q fun x h' n' v c' hk => hn x h' n' v c' (hk (rest_fits hl))
theorem no {g tg d : Nat} {w b : Bool} {op : Op} {ty : TypeId} {pos : String} {af : Array Edge} (hj : (ops[g]?).bind (·.dst) = some tg) (ht : look t tg = some (.st (.bool b))) (hb : (b != w) = true) (hd : Nat.blt d N = true)
    (k : OpsL P ops (j + 1) l ⟨N, n, (d, .tuple []) :: t, h⟩ q) : OpsL P ops j (⟨some d, op, ty, pos, af, some (g, w)⟩ :: l) ⟨N, n, t, h⟩ q := fun hl => by
  simp only [List.length_cons, List.range'_succ]
  exact .op_no (head_fits hl) rfl hj ht hb hd (k (rest_fits hl))
theorem no_ {g tg : Nat} {w b : Bool} {op : Op} {ty : TypeId} {pos : String} {af : Array Edge} (hj : (ops[g]?).bind (·.dst) = some tg) (ht : look t tg = some (.st (.bool b))) (hb : (b != w) = true)
    (k : OpsL P ops (j + 1) l ⟨N, n, t, h⟩ q) : OpsL P ops j (⟨none, op, ty, pos, af, some (g, w)⟩ :: l) ⟨N, n, t, h⟩ q := fun hl => by
  simp only [List.length_cons, List.range'_succ]
  exact .op_no (head_fits hl) rfl hj ht hb rfl (k (rest_fits hl))
theorem nou {g tg d : Nat} {w : Bool} {op : Op} {ty : TypeId} {pos : String} {af : Array Edge} (hj : (ops[g]?).bind (·.dst) = some tg) (ht : look t tg = some (.tuple [])) (hd : Nat.blt d N = true)
    (k : OpsL P ops (j + 1) l ⟨N, n, (d, .tuple []) :: t, h⟩ q) : OpsL P ops j (⟨some d, op, ty, pos, af, some (g, w)⟩ :: l) ⟨N, n, t, h⟩ q := fun hl => by
  simp only [List.length_cons, List.range'_succ]
  exact .op_no' (head_fits hl) rfl hj ht hd (k (rest_fits hl))
theorem nou_ {g tg : Nat} {w : Bool} {op : Op} {ty : TypeId} {pos : String} {af : Array Edge} (hj : (ops[g]?).bind (·.dst) = some tg) (ht : look t tg = some (.tuple []))
    (k : OpsL P ops (j + 1) l ⟨N, n, t, h⟩ q) : OpsL P ops j (⟨none, op, ty, pos, af, some (g, w)⟩ :: l) ⟨N, n, t, h⟩ q := fun hl => by
  simp only [List.length_cons, List.range'_succ]
  exact .op_no' (head_fits hl) rfl hj ht rfl (k (rest_fits hl))
/-- A truth value that isn't known: both ways. -/
theorem both (tg : Nat) {b : Bool} (ht : look t tg = some (.st (.bool b))) (h1 : b = true → OpsL P ops j l ⟨N, n, (tg, .st (.bool true)) :: t, h⟩ q) (h2 : b = false → OpsL P ops j l ⟨N, n, (tg, .st (.bool false)) :: t, h⟩ q) :
    OpsL P ops j l ⟨N, n, t, h⟩ q := fun hl => .split ht (fun e => h1 e hl) (fun e => h2 e hl)

theorem cnd {x : Operand} {y z : Code} {b : Bool} (hx : evT t x = some (.st (.bool b))) (h1 : b = true → CodeOk P y ⟨N, n, t, h⟩ Q) (h2 : b = false → CodeOk P z ⟨N, n, t, h⟩ Q) : CodeOk P (.cond x y z) ⟨N, n, t, h⟩ Q :=
  .cond (by rw [evT_eq]; exact hx) h1 h2
theorem cndT {x : Operand} {y z : Code} (hx : evT t x = some (.st (.bool true))) (h1 : CodeOk P y ⟨N, n, t, h⟩ Q) : CodeOk P (.cond x y z) ⟨N, n, t, h⟩ Q := cnd hx (fun _ => h1) (fun e => by cases e)
theorem cndF {x : Operand} {y z : Code} (hx : evT t x = some (.st (.bool false))) (h1 : CodeOk P z ⟨N, n, t, h⟩ Q) : CodeOk P (.cond x y z) ⟨N, n, t, h⟩ Q := cnd hx (fun e => by cases e) (fun _ => h1)

variable {d : Nat} {ty : TypeId} {pos : String} {af : Array Edge} {g : Option (Nat × Bool)} {L : Lay}

theorem st_move {x : Operand} {y : AV} (hx : evT t x = some y) (k : OpsL P ops (j + 1) l ⟨N, n, (d, y) :: t, h⟩ q) : OpG P ops j ⟨some d, .move x, ty, pos, af, g⟩ l ⟨N, n, t, h⟩ q := ok_move (by rw [evT_eq]; exact hx) k
theorem st_assign {x : Operand} {y : AV} (hx : evT t x = some y) (k : OpsL P ops (j + 1) l ⟨N, n, (d, y) :: t, h⟩ q) : OpG P ops j ⟨some d, .assign x, ty, pos, af, g⟩ l ⟨N, n, t, h⟩ q := ok_assign (by rw [evT_eq]; exact hx) k
theorem st_pickT {x y z : Operand} {u : AV} (hx : evT t x = some (.st (.bool true))) (hy : evT t y = some u) (k : OpsL P ops (j + 1) l ⟨N, n, (d, u) :: t, h⟩ q) : OpG P ops j ⟨some d, .pick x y z, ty, pos, af, g⟩ l ⟨N, n, t, h⟩ q :=
  ok_pick (u := u) (v := u) (by rw [evT_eq]; exact hx) (fun _ => by rw [evT_eq]; exact hy) (fun e => by cases e) (fun _ => k) (fun e => by cases e)
theorem st_pickF {x y z : Operand} {u : AV} (hx : evT t x = some (.st (.bool false))) (hz : evT t z = some u) (k : OpsL P ops (j + 1) l ⟨N, n, (d, u) :: t, h⟩ q) : OpG P ops j ⟨some d, .pick x y z, ty, pos, af, g⟩ l ⟨N, n, t, h⟩ q :=
  ok_pick (u := u) (v := u) (by rw [evT_eq]; exact hx) (fun e => by cases e) (fun _ => by rw [evT_eq]; exact hz) (fun e => by cases e) (fun _ => k)
theorem st_binI {op : BinOp} {t1 t2 : TypeId} {x y : Operand} {kk : IntKind} {a b : Int} {z : SV} (h1 : evT t x = some (.st (.int kk a))) (h2 : evT t y = some (.st (.int kk b))) (hz : binI op kk a b = some z)
    (k : OpsL P ops (j + 1) l ⟨N, n, (d, .st z) :: t, h⟩ q) : OpG P ops j ⟨some d, .binOp op t1 x y t2, ty, pos, af, g⟩ l ⟨N, n, t, h⟩ q := ok_binI (by rw [evT_eq]; exact h1) (by rw [evT_eq]; exact h2) hz k
theorem st_binS {op : BinOp} {t1 t2 : TypeId} {x y : Operand} {a b : ByteArray} {z : SV} (h1 : evT t x = some (.st (.str a))) (h2 : evT t y = some (.st (.str b))) (hz : binS op a b = some z)
    (k : OpsL P ops (j + 1) l ⟨N, n, (d, .st z) :: t, h⟩ q) : OpG P ops j ⟨some d, .binOp op t1 x y t2, ty, pos, af, g⟩ l ⟨N, n, t, h⟩ q := ok_binS (by rw [evT_eq]; exact h1) (by rw [evT_eq]; exact h2) hz k
theorem st_not {t1 : TypeId} {x : Operand} {b : Bool} (hx : evT t x = some (.st (.bool b))) (k : OpsL P ops (j + 1) l ⟨N, n, (d, .st (.bool (!b))) :: t, h⟩ q) : OpG P ops j ⟨some d, .unOp .not t1 x, ty, pos, af, g⟩ l ⟨N, n, t, h⟩ q :=
  ok_not (by rw [evT_eq]; exact hx) k
theorem st_neg {t1 : TypeId} {x : Operand} {kk : IntKind} {a : Int} (hx : evT t x = some (.st (.int kk a))) (k : OpsL P ops (j + 1) l ⟨N, n, (d, .st (.int kk (kk.wrap (0 - a)))) :: t, h⟩ q) : OpG P ops j ⟨some d, .unOp .neg t1 x, ty, pos, af, g⟩ l ⟨N, n, t, h⟩ q :=
  ok_neg (by rw [evT_eq]; exact hx) k
theorem st_extract {x : Operand} {i : Nat} {xs : List AV} {y : AV} (hx : evT t x = some (.tuple xs)) (hi : xs[i]? = some y) (k : OpsL P ops (j + 1) l ⟨N, n, (d, y) :: t, h⟩ q) : OpG P ops j ⟨some d, .extract x i, ty, pos, af, g⟩ l ⟨N, n, t, h⟩ q :=
  ok_extract (by rw [evT_eq]; exact hx) hi k
theorem st_nilCheck {x : Operand} {y : AV} (hx : evT t x = some y) (hn : notNil y = true) (k : OpsL P ops (j + 1) l ⟨N, n, (d, y) :: t, h⟩ q) : OpG P ops j ⟨some d, .nilCheck x, ty, pos, af, g⟩ l ⟨N, n, t, h⟩ q :=
  ok_nilCheck (by rw [evT_eq]; exact hx) hn k
theorem st_nil {op : BinOp} {t1 t2 : TypeId} {x : Operand} {v : Value} {X : AV} {i : TI} {b r : Bool} (hL : LayOk P L) (hx : evT t x = some X) (ht : look L t1 = some i) (hb : nilTest i.k X v = some b)
    (ho : (match op with | .eql => some b | .neq => some (!b) | _ => none) = some r) (k : OpsL P ops (j + 1) l ⟨N, n, (d, .st (.bool r)) :: t, h⟩ q) : OpG P ops j ⟨some d, .binOp op t1 x (.const v) t2, ty, pos, af, g⟩ l ⟨N, n, t, h⟩ q :=
  ok_nil hL (by rw [evT_eq]; exact hx) ht hb (by cases op <;> first | (cases ho; exact .inl ⟨rfl, rfl⟩) | (cases ho; exact .inr ⟨rfl, rfl⟩) | cases ho) k
theorem st_alloc {t1 : TypeId} {i : TI} (hL : LayOk P L) (ht : look L t1 = some i) (k : OpsL P ops (j + 1) l ⟨N, n + 1, (d, .ptr n 0) :: t, (n, .cells (stAll (svCells i.zero))) :: h⟩ q) : OpG P ops j ⟨some d, .alloc t1, ty, pos, af, g⟩ l ⟨N, n, t, h⟩ q := ok_alloc hL ht k
theorem st_box {t1 : TypeId} {x : Operand} {y : AV} {cs : List AV} (hx : evT t x = some y) (hc : avCells y = some cs) (k : OpsL P ops (j + 1) l ⟨N, n + 1, (d, .ptr n 0) :: t, (n, .cells cs) :: h⟩ q) : OpG P ops j ⟨some d, .box t1 x, ty, pos, af, g⟩ l ⟨N, n, t, h⟩ q :=
  ok_box (by rw [evT_eq]; exact hx) hc k
theorem st_loadP {t1 : TypeId} {x : Operand} {id off : Nat} {cs : List AV} {i : TI} {y : AV} (hL : LayOk P L) (hx : evT t x = some (.ptr id off)) (hh : look h id = some (.cells cs)) (ht : look L t1 = some i)
    (hz : Nat.ble (off + i.size) cs.length = true) (h1 : (i.agg || Nat.beq i.size 1) = true) (hy : loaded i (cs.drop off) = some y) (k : OpsL P ops (j + 1) l ⟨N, n, (d, y) :: t, h⟩ q) : OpG P ops j ⟨some d, .load t1 x, ty, pos, af, g⟩ l ⟨N, n, t, h⟩ q :=
  ok_load_ptr hL (by rw [evT_eq]; exact hx) hh ht hz h1 hy k
theorem st_loadS {t1 : TypeId} {x : Operand} {cs : List SV} {i : TI} {y : AV} (hL : LayOk P L) (hx : evT t x = some (.st (.sptr cs))) (ht : look L t1 = some i)
    (hz : Nat.ble i.size cs.length = true) (h1 : (i.agg || Nat.beq i.size 1) = true) (hy : loadedS i cs = some y) (k : OpsL P ops (j + 1) l ⟨N, n, (d, y) :: t, h⟩ q) : OpG P ops j ⟨some d, .load t1 x, ty, pos, af, g⟩ l ⟨N, n, t, h⟩ q :=
  ok_load_sptr hL (by rw [evT_eq]; exact hx) ht hz h1 hy k
theorem st_fieldP {t1 : TypeId} {x : Operand} {f id off o : Nat} {i : TI} (hL : LayOk P L) (hx : evT t x = some (.ptr id off)) (ht : look L t1 = some i) (ho : offOf i f = some o) (k : OpsL P ops (j + 1) l ⟨N, n, (d, .ptr id (off + o)) :: t, h⟩ q) : OpG P ops j ⟨some d, .fieldAddr t1 x f, ty, pos, af, g⟩ l ⟨N, n, t, h⟩ q :=
  ok_field_ptr hL (by rw [evT_eq]; exact hx) ht ho k
theorem st_fieldE {t1 : TypeId} {x : Operand} {f id kk ii jj o : Nat} {i : TI} (hL : LayOk P L) (hx : evT t x = some (.eptr id kk ii jj)) (ht : look L t1 = some i) (ho : offOf i f = some o) (k : OpsL P ops (j + 1) l ⟨N, n, (d, .eptr id kk ii (jj + o)) :: t, h⟩ q) : OpG P ops j ⟨some d, .fieldAddr t1 x f, ty, pos, af, g⟩ l ⟨N, n, t, h⟩ q :=
  ok_field_eptr hL (by rw [evT_eq]; exact hx) ht ho k
theorem st_fieldS {t1 : TypeId} {x : Operand} {f o : Nat} {cs : List SV} {i : TI} (hL : LayOk P L) (hx : evT t x = some (.st (.sptr cs))) (ht : look L t1 = some i) (ho : offOf i f = some o) (k : OpsL P ops (j + 1) l ⟨N, n, (d, .st (.sptr (cs.drop o))) :: t, h⟩ q) : OpG P ops j ⟨some d, .fieldAddr t1 x f, ty, pos, af, g⟩ l ⟨N, n, t, h⟩ q :=
  ok_field_sptr hL (by rw [evT_eq]; exact hx) ht ho k
theorem st_store {t1 : TypeId} {x y : Operand} {id off : Nat} {cs xs : List AV} {i : TI} {z : AV} (hL : LayOk P L) (hx : evT t x = some (.ptr id off)) (hy : evT t y = some z) (hh : look h id = some (.cells cs))
    (ht : look L t1 = some i) (hz : avCells z = some xs) (h1 : (Nat.beq xs.length i.size && Nat.ble (off + i.size) cs.length && oneAll xs) = true)
    (k : OpsL P ops (j + 1) l ⟨N, n, t, (id, .cells (putAt cs off xs)) :: h⟩ q) : OpG P ops j ⟨none, .store t1 x y, ty, pos, af, g⟩ l ⟨N, n, t, h⟩ q :=
  ok_store_ptr hL (by rw [evT_eq]; exact hx) (by rw [evT_eq]; exact hy) hh ht hz h1 k
theorem st_len {t1 : TypeId} {ts : Array TypeId} {x : Operand} {y : AV} {m : Int} {i : TI} (hL : LayOk P L) (hts : ts[0]? = some t1) (hx : evT t x = some y) (ht : look L t1 = some i) (hk : lenK i.k y = true) (hm : lenAV y = some m)
    (k : OpsL P ops (j + 1) l ⟨N, n, (d, .st (.int .i64 m)) :: t, h⟩ q) : OpG P ops j ⟨some d, .call ⟨.builtin .len, #[x], ts⟩, ty, pos, af, g⟩ l ⟨N, n, t, h⟩ q :=
  ok_len hL hts (by rw [evT_eq]; exact hx) ht hk hm k
theorem st_convI {t1 t2 : TypeId} {x : Operand} {kk jj : IntKind} {a : Int} {i1 i2 : TI} (hL : LayOk P L) (hx : evT t x = some (.st (.int kk a))) (ht : look L t1 = some i1) (hu : look L t2 = some i2) (hk : i2.k = .int jj)
    (k : OpsL P ops (j + 1) l ⟨N, n, (d, .st (.int jj (jj.wrap a))) :: t, h⟩ q) : OpG P ops j ⟨some d, .convert t1 t2 x, ty, pos, af, g⟩ l ⟨N, n, t, h⟩ q :=
  ok_convI hL (by rw [evT_eq]; exact hx) ht hu hk k
theorem st_call {fo : Operand} {args : Array Operand} {ts : Array TypeId} {f : Nat} (nl : List Nat) (B : Nat) {args0 : List AV} {h0 : Heap} {R : AV → Heap → Prop} (hc : ACalls P f nl.length args0 h0 R) (hb : HasBody P f)
    (hargs : callT t fo args.toList = some (f, renL (nam nl n) args0)) (hb0 : (belL nl.length args0 && belH nl.length h0 && okNames n nl && Nat.ble nl.length B) = true) (hh : Sub (renH (nam nl n) h0) h)
    (k : ∀ r h', R r h' → (r.bel B && belH B h') = true ∧ OpsL P ops (j + 1) l ⟨N, n + (B - nl.length), (d, r.ren (nam nl n)) :: t, renH (nam nl n) h' ++ delAll nl h⟩ q) : OpG P ops j ⟨some d, .call ⟨.value fo, args, ts⟩, ty, pos, af, g⟩ l ⟨N, n, t, h⟩ q :=
  ok_call nl B hc hb (by rw [callT_eq]; exact hargs) hb0 hh k
theorem delAll_nil : ∀ (h : List (Nat × AO)), delAll [] h = h
  | [] => rfl
  | (_, _) :: r => by simp [delAll, hasN, delAll_nil r]
/-- A call with stable values that returns one, and leaves nothing behind. -/
theorem st_pure {fo : Operand} {args : Array Operand} {ts : Array TypeId} {f : Nat} {args0 : List AV} {r : AV} (hc : ACalls P f 0 args0 [] fun x h' => x = r ∧ h' = []) (hb : HasBody P f)
    (hargs : callT t fo args.toList = some (f, args0)) (hb0 : (belL 0 args0 && r.bel 0) = true) (hr0 : renL (nam [] n) args0 = args0) (hr : r.ren (nam [] n) = r)
    (k : OpsL P ops (j + 1) l ⟨N, n, (d, r) :: t, h⟩ q) : OpG P ops j ⟨some d, .call ⟨.value fo, args, ts⟩, ty, pos, af, g⟩ l ⟨N, n, t, h⟩ q := by
  simp only [Bool.and_eq_true] at hb0
  have hd := delAll_nil h
  refine st_call [] 0 hc hb (by rw [hr0]; exact hargs) (by simp [hb0.1, belH, okNames]) trivial ?_
  rintro x h' ⟨rfl, rfl⟩
  refine ⟨by simp [hb0.2, belH], ?_⟩
  simpa [renH, hd, hr] using k
end
end Go.Proofs.YtohmbpcjapjkbaaGreatDoorAl
