/- The A-logic: nil tests of unknown slices, texts walked rune by rune, bits, made slices, stores into arrays, functions without a body. -/
import Derived.Test.YtohmbpcjapjkbaaGreatDoorAlZd
import Derived.Lib.Bytealg
import Derived.Laws.MakeOwn
set_option linter.all false
namespace Go.Proofs.YtohmbpcjapjkbaaGreatDoorAl
section
variable {P : Program} {ops : Array Oper} {j : Nat} {l : List Oper} {q : S → Prop} {s : S} {N n : Nat} {t : Tm} {h : Heap} {Q : Exit → S → Prop} {L : Lay}
variable {d : Nat} {op : Op} {ty : TypeId} {pos : String} {af : Array Edge} {g : Option (Nat × Bool)}

def nilR : BinOp → Bool → Bool
  | .eql, b => b
  | _, b => !b
/-- Is a stable slice nil? Nobody knows: if it is, it has no rows. -/
theorem st_nilSl {op : BinOp} {t1 t2 e sz bytes : Nat} {x : Operand} {i : TI} {rows : List (List SV)} (hL : LayOk P L) (hx : evT t x = some (.st (.sl sz rows))) (ht : look L t1 = some i) (hk : i.k = .slice e sz bytes) (ho : (match op with | .eql => true | .neq => true | _ => false) = true)
    (k : ∀ b : Bool, (b = true → rows = []) → OpsL P ops (j + 1) l ⟨N, n, (d, .st (.bool (nilR op b))) :: t, h⟩ q) :
    OpG P ops j ⟨some d, .binOp op t1 x (.const (.slice none 0 0)) t2, ty, pos, af, g⟩ l ⟨N, n, t, h⟩ q := by
  refine OpOk.intro fun c a hs => ?_
  have hv := st_inv (S.ev_val hs (x := x) (by rw [evT_eq]; exact hx))
  obtain ⟨dd, _, _, g1, _, g3, _⟩ := tiOf_parts (hL t1 i ht)
  rw [hk] at g3
  obtain ⟨g4, _⟩ := tk_inv g3
  subst g4
  generalize hp : a.eval x = p at hv
  have key : ∃ b : Bool, (b = true → rows = []) ∧ (execOp a.eval ⟨some d, .binOp op t1 x (.const (.slice none 0 0)) t2, ty, pos, af, g⟩).run P c.w = .ok (.value (.bool (nilR op b))) c.w := by
    have hrun : ∀ (ad : Option Addr) (m cap : Nat), (Op.equal t1 (.slice ad m cap) (.slice none 0 0)).run P c.w = .ok ad.isNone c.w := by
      intro ad m cap
      refine eq_run fun n => ?_
      cases ad <;> simp [Op.equalIn, run_underlying g1]
    have hg : ∀ (v : Value), (eqGuard op t1 x (.const (.slice none 0 0)) v (.slice none 0 0)).run P c.w = .ok () c.w := fun v => by
      unfold eqGuard; cases op <;> simp
    have fin : ∀ (ad : Option Addr) (m cap : Nat), p = .slice ad m cap → (execOp a.eval ⟨some d, .binOp op t1 x (.const (.slice none 0 0)) t2, ty, pos, af, g⟩).run P c.w = .ok (.value (.bool (nilR op ad.isNone))) c.w := by
      intro ad m cap e
      subst e
      have hcv : a.eval (.const (.slice none 0 0)) = .slice none 0 0 := rfl
      simp only [execOp, hp, hcv]
      cases op <;> first | cases ho | skip
      · simp [hg, binOp, hrun, nilR]
      · simp [hg, binOp, hrun, nilR]
    cases hv with
    | slnil _ ad cap => exact ⟨ad.isNone, fun _ => rfl, fin _ _ _ rfl⟩
    | sl _ b off cap _ hb hr hc => exact ⟨false, fun e => (by cases e), fin _ _ _ rfl⟩
  obtain ⟨b, hb, hrun⟩ := key
  exact ⟨_, h, n, _, c, hrun, k b hb, .refl _ _, hs.n, hs.h, .st _ _ (.bool _)⟩

/-! ### a text, rune by rune -/
theorem st_range {t1 : TypeId} {x : Operand} {s0 : ByteArray} {i : TI} (hL : LayOk P L) (hx : evT t x = some (.st (.str s0))) (ht : look L t1 = some i) (hk : i.k = .string)
    (k : OpsL P ops (j + 1) l ⟨N, n + 1, (d, .iter n) :: t, (n, .siter s0 0) :: h⟩ q) : OpG P ops j ⟨some d, .range t1 x, ty, pos, af, g⟩ l ⟨N, n, t, h⟩ q :=
  OpOk.intro fun c a hs => by
    have hn := hs.n
    simp only at hn
    subst hn
    obtain ⟨dd, _, _, g1, _, g3, _⟩ := tiOf_parts (hL t1 i ht)
    rw [hk] at g3
    have g4 : dd = .string := tk_inv g3
    subst g4
    have hv := str_inv (S.ev_val hs (x := x) (by rw [evT_eq]; exact hx))
    refine ⟨_, _, _, .pointer (some ⟨c.w.heap.size, 0, none⟩), c.alloc (.stringIter s0 0), ?_, k, ev_alloc hs.h, rfl, hrel_alloc hs.h heap_alloc_new, ?_⟩
    · simp [execOp, Instr.range, run_underlying g1, hv, Cfg.alloc]
    · have : (c.alloc (.stringIter s0 0)).ι c.n = c.w.heap.size := by simp [Cfg.alloc]
      rw [← this]; exact .iter _ (Nat.lt_succ_self _)
theorem run_getObj_siter {w : World} {r pos : Nat} {s0 : ByteArray} (hb : w.heap[r]? = some (.stringIter s0 pos)) : (getObj r).run P w = .ok (.stringIter s0 pos) w := by
  simp [getObj, Sem.run, hb]
theorem run_setObj_siter {w : World} {r pos : Nat} {s0 : ByteArray} (o : Obj) (hb : w.heap[r]? = some (.stringIter s0 pos)) : (setObj r o).run P w = .ok () (setBlk w r o) := by
  simp [setObj, Sem.run, hb, setBlk]
/-- The next rune; or the end. -/
theorem st_nextEnd {x : Operand} {s0 : ByteArray} {id p : Nat} (hx : evT t x = some (.iter id)) (hh : look h id = some (.siter s0 p)) (hp : s0.size ≤ p)
    (k : OpsL P ops (j + 1) l ⟨N, n, (d, .tuple [.st (.bool false)]) :: t, h⟩ q) : OpG P ops j ⟨some d, .next x true, ty, pos, af, g⟩ l ⟨N, n, t, h⟩ q :=
  OpOk.pure (fun c a hs => by
    have hv := S.ev_val hs (x := x) (by rw [evT_eq]; exact hx)
    generalize hpe : a.eval x = v at hv
    cases hv with
    | iter _ hi =>
      have hb : c.w.heap[c.ι id]? = some (.stringIter s0 p) := hs.h.rel id _ hh trivial
      refine ⟨.tuple #[.bool false], ?_, .tuple [_] [.bool false] (.cons _ _ _ _ (.st _ _ (.bool false)) .nil)⟩
      simp [execOp, hpe, Instr.next, run_getObj_siter hb, show ¬ p < s0.size by omega]) k
theorem st_next {x : Operand} {s0 : ByteArray} {id p c0 w0 : Nat} {h' : Heap} (hx : evT t x = some (.iter id)) (hh : look h id = some (.siter s0 p)) (hp : p < s0.size) (hd : Utf8.decode s0 p = (c0, w0)) (hdel : frc (del h id) some = some h')
    (k : OpsL P ops (j + 1) l ⟨N, n, (d, .tuple [.st (.bool true), .st (.int .i64 (p : Int)), .st (.int .i32 (c0 : Int))]) :: t, (id, .siter s0 (p + w0)) :: h'⟩ q) : OpG P ops j ⟨some d, .next x true, ty, pos, af, g⟩ l ⟨N, n, t, h⟩ q := by
  rw [frc_eq] at hdel; cases hdel
  have k' : OpsL P ops (j + 1) l ⟨N, n, (d, .tuple [.st (.bool true), .st (.int .i64 (p : Int)), .st (.int .i32 (c0 : Int))]) :: t, (id, .siter s0 (p + w0)) :: h⟩ q := OpsL.same (fun id' => by
    rw [look_cons, look_cons, look_del]
    split <;> rfl) k
  refine OpOk.intro fun c a hs => ?_
  have hv := S.ev_val hs (x := x) (by rw [evT_eq]; exact hx)
  generalize hpe : a.eval x = v at hv
  cases hv with
  | iter _ hi =>
    have hb : c.w.heap[c.ι id]? = some (.stringIter s0 p) := hs.h.rel id _ hh trivial
    have hlt : c.ι id < c.w.heap.size := hs.h.blk id _ hh trivial
    have hsh : ∀ sh, c.w.shape? (c.ι id) = some sh → (setBlk c.w (c.ι id) (.stringIter s0 (p + w0))).shape? (c.ι id) = some sh := fun sh hs' => by
      simp [World.shape?, hb] at hs'
    refine ⟨_, _, _, .tuple #[.bool true, .int .i64 p, .int .i32 c0], c.set (c.ι id) (.stringIter s0 (p + w0)), ?_, k', ev_set hs.h hh trivial hsh, hs.n, hrel_set hs.h hh trivial hsh (setBlk_same hlt), ?_⟩
    · simp [execOp, hpe, Instr.next, run_getObj_siter hb, hp, hd, run_setObj_siter _ hb, Cfg.set, goInt]
    · exact .tuple [_, _, _] [_, _, _] (.cons _ _ _ _ (.st _ _ (.bool _)) (.cons _ _ _ _ (.st _ _ (.int _ _)) (.cons _ _ _ _ (.st _ _ (.int _ _)) .nil)))

/-! ### bits -/
def binJ : BinOp → IntKind → Int → Int → Option SV
  | .and, k, a, b => some (.int k (k.wrap (BitVec.ofInt k.bits a &&& BitVec.ofInt k.bits b).toNat))
  | .or, k, a, b => some (.int k (k.wrap (BitVec.ofInt k.bits a ||| BitVec.ofInt k.bits b).toNat))
  | .xor, k, a, b => some (.int k (k.wrap (BitVec.ofInt k.bits a ^^^ BitVec.ofInt k.bits b).toNat))
  | .andNot, k, a, b => some (.int k (k.wrap (BitVec.ofInt k.bits a &&& ~~~ BitVec.ofInt k.bits b).toNat))
  | _, _, _, _ => none
theorem st_bits {op : BinOp} {t1 t2 : TypeId} {x y : Operand} {kk : IntKind} {a b : Int} {z : SV} (h1 : evT t x = some (.st (.int kk a))) (h2 : evT t y = some (.st (.int kk b))) (hz : binJ op kk a b = some z)
    (k : OpsL P ops (j + 1) l ⟨N, n, (d, .st z) :: t, h⟩ q) : OpG P ops j ⟨some d, .binOp op t1 x y t2, ty, pos, af, g⟩ l ⟨N, n, t, h⟩ q :=
  OpOk.pure (fun c ac hs => by
    have e1 := int_inv (S.ev_val hs (x := x) (by rw [evT_eq]; exact h1))
    have e2 := int_inv (S.ev_val hs (x := y) (by rw [evT_eq]; exact h2))
    cases op <;> simp only [binJ, Option.some.injEq, reduceCtorEq] at hz <;> subst hz
    all_goals exact ⟨_, by simp [execOp, e1, e2, eqGuard, binOp, Op.intBits], .st _ _ (.int _ _)⟩) k
def shI : BinOp → IntKind → Int → Int → Option SV
  | .shl, k, a, b => some (.int k (k.wrap (a * 2 ^ (min b.toNat k.bits))))
  | .shr, k, a, b => some (.int k (a.fdiv (2 ^ (min b.toNat k.bits))))
  | _, _, _, _ => none
theorem st_shift {op : BinOp} {t1 t2 : TypeId} {x y : Operand} {kk kj : IntKind} {a b : Int} {z : SV} (h1 : evT t x = some (.st (.int kk a))) (h2 : evT t y = some (.st (.int kj b))) (hb : 0 ≤ b) (hz : shI op kk a b = some z)
    (k : OpsL P ops (j + 1) l ⟨N, n, (d, .st z) :: t, h⟩ q) : OpG P ops j ⟨some d, .binOp op t1 x y t2, ty, pos, af, g⟩ l ⟨N, n, t, h⟩ q :=
  OpOk.pure (fun c ac hs => by
    have e1 := int_inv (S.ev_val hs (x := x) (by rw [evT_eq]; exact h1))
    have e2 := int_inv (S.ev_val hs (x := y) (by rw [evT_eq]; exact h2))
    cases op <;> simp only [shI, Option.some.injEq, reduceCtorEq] at hz <;> subst hz
    all_goals exact ⟨_, by simp [execOp, e1, e2, eqGuard, binOp, Op.shift, show ¬ b < 0 by omega], .st _ _ (.int _ _)⟩) k
/-- A byte of a text. -/
theorem st_indexStr {t1 : TypeId} {x y : Operand} {i : TI} {s0 : ByteArray} {kk : IntKind} {m : Int} (b : UInt8) (hL : LayOk P L) (hx : evT t x = some (.st (.str s0))) (hy : evT t y = some (.st (.int kk m))) (ht : look L t1 = some i) (hk : i.k = .string) (h0 : 0 ≤ m) (hb : s0[m.toNat]? = some b)
    (k : OpsL P ops (j + 1) l ⟨N, n, (d, .st (.int .u8 (b.toNat : Int))) :: t, h⟩ q) : OpG P ops j ⟨some d, .index t1 x y, ty, pos, af, g⟩ l ⟨N, n, t, h⟩ q :=
  OpOk.pure (fun c a hs => by
    obtain ⟨dd, _, _, g1, _, g3, _⟩ := tiOf_parts (hL t1 i ht)
    rw [hk] at g3
    have g4 : dd = .string := tk_inv g3
    subst g4
    have hv := str_inv (S.ev_val hs (x := x) (by rw [evT_eq]; exact hx))
    have hm := int_inv (S.ev_val hs (x := y) (by rw [evT_eq]; exact hy))
    exact ⟨_, by simp [execOp, hv, hm, Instr.index, asIntOf, run_underlying g1, h0, hb], .st _ _ (.int _ _)⟩) k

/-! ### functions without a body -/
theorem run_callF {c : Cfg} {s : S} {a : Act} (hs : SRel c s a) {f : Operand} {args : Array Operand} {ts : Array TypeId} {ty : TypeId} {k : Nat} {xs : List AV} (hc : callArgs s f args.toList = some (k, xs)) :
    ∃ vals : Array Value, (do let dd ← resolve a.eval ⟨.value f, args, ts⟩ ty; invoke dd.target dd.args : Sem Next).run P c.w = (callFunc k vals).run P c.w ∧ AList c xs vals.toList := by
  unfold callArgs at hc
  split at hc
  · rename_i k' first caps ys h1 h2
    cases hc
    have hv := st_inv (S.ev_val hs h1)
    have hvs := S.evs_val hs h2
    generalize hp : a.eval f = p at hv
    cases hv with
    | fn _ _ _ vf vc h3 h4 =>
      refine ⟨vf.toArray ++ args.map a.eval ++ vc.toArray, ?_, ?_⟩
      · simp [resolve, hp, Deferred.ofValue, invoke]
      · simpa using (stAll_val h3).append (hvs.append (stAll_val h4))
  · rename_i k' first caps ys h1 h2
    cases hc
    have hv := S.ev_val hs h1
    have hvs := S.evs_val hs h2
    generalize hp : a.eval f = p at hv
    cases hv with
    | fn _ _ _ vf vc h3 h4 =>
      refine ⟨vf.toArray ++ args.map a.eval ++ vc.toArray, ?_, ?_⟩
      · simp [resolve, hp, Deferred.ofValue, invoke]
      · simpa using h3.append (hvs.append h4)
  · cases hc
/-- A function without a body that only computes. -/
def ExtOk (P : Program) (f : Nat) (xs : List AV) (r : SV) : Prop :=
  ∀ c (vals : Array Value), AList c xs vals.toList → ∃ v, (callFunc f vals).run P c.w = .ok (.value v) c.w ∧ SVal c.St c.w r v
theorem st_ext {fo : Operand} {args : Array Operand} {ts : Array TypeId} {f : Nat} {xs : List AV} {r : SV} (he : ExtOk P f xs r) (hargs : callT t fo args.toList = some (f, xs))
    (k : OpsL P ops (j + 1) l ⟨N, n, (d, .st r) :: t, h⟩ q) : OpG P ops j ⟨some d, .call ⟨.value fo, args, ts⟩, ty, pos, af, g⟩ l ⟨N, n, t, h⟩ q :=
  OpOk.pure (fun c a hs => by
    obtain ⟨vals, h1, h2⟩ := run_callF (P := P) hs (ty := ty) (ts := ts) (by rw [callT_eq]; exact hargs)
    obtain ⟨v, h3, h4⟩ := he c vals h2
    exact ⟨v, by simp only [execOp]; rw [h1]; exact h3, .st _ _ h4⟩) k
/-- The place of a byte; how often it stands. -/
theorem ext_index {f : Nat} {fn : Func} (hf : P.funcs[f]? = some fn) (hb : fn.body = none) (hn : fn.name ≠ "runtime.NumGoroutine") (h1 : Extern.findNext fn = none) (h2 : Extern.find fn = some Extern.BytealgIndexByte.indexByte) (s0 : ByteArray) (m : Int) :
    ExtOk P f [.st (.str s0), .st (.int .u8 m)] (.int .i64 (Lib.indexByte s0.data.toList m.toNat.toUInt8)) := fun c vals hv => by
  have e : vals = #[.string s0, .int .u8 m] := by
    cases vals with | mk l =>
    cases hv with | cons _ v _ vs k1 k2 => cases k2 with | cons _ u _ us k3 k4 => cases k4; rw [str_inv k1, int_inv k3]
  subst e
  refine ⟨_, ?_, .int _ _⟩
  simp [callFunc, hf, hn, hb, h1, h2, Lib.run_indexByteString]
theorem ext_count {f : Nat} {fn : Func} (hf : P.funcs[f]? = some fn) (hb : fn.body = none) (hn : fn.name ≠ "runtime.NumGoroutine") (h1 : Extern.findNext fn = none) (h2 : Extern.find fn = some Extern.BytealgCount.count) (s0 : ByteArray) (m : Int) :
    ExtOk P f [.st (.str s0), .st (.int .u8 m)] (.int .i64 (Lib.countByte s0.data.toList m.toNat.toUInt8)) := fun c vals hv => by
  have e : vals = #[.string s0, .int .u8 m] := by
    cases vals with | mk l =>
    cases hv with | cons _ v _ vs k1 k2 => cases k2 with | cons _ u _ us k3 k4 => cases k4; rw [str_inv k1, int_inv k3]
  subst e
  refine ⟨_, ?_, .int _ _⟩
  simp [callFunc, hf, hn, hb, h1, h2, Lib.run_countString]

/-! ### made slices; stores into arrays -/
theorem zeros_rows {z : SV} {sz : Nat} (hz : (svCells z).length = sz) : ∀ m, chop sz m (zeros (stAll (svCells z)) m) = some (List.replicate m (svCells z)) := by
  have un : ∀ (xs : List SV) (r : List AV), unSt ((stAll xs ++ r).take xs.length) = some xs := by
    intro xs
    induction xs with
    | nil => intro r; simp [unSt]
    | cons x xs ih => intro r; simp [stAll, unSt, ih]
  have ln : ∀ xs : List SV, (stAll xs).length = xs.length := by
    intro xs; induction xs with
    | nil => rfl
    | cons x xs ih => simp [stAll, ih]
  intro m
  induction m with
  | zero => rfl
  | succ m ih =>
    simp only [zeros, chop]
    have h1 := un (svCells z) (zeros (stAll (svCells z)) m)
    rw [hz] at h1
    have h2 : (stAll (svCells z) ++ zeros (stAll (svCells z)) m).drop sz = zeros (stAll (svCells z)) m := by
      rw [List.drop_append_of_le_length (by rw [ln]; omega), List.drop_of_length_le (by rw [ln]; omega)]; rfl
    rw [h1, h2, ih]; rfl
theorem st_makeSlice {t1 e sz bytes m : Nat} {x y : Operand} {i ie : TI} (hL : LayOk P L) (hx : evT t x = some (.st (.int .i64 (m : Int)))) (hy : evT t y = some (.st (.int .i64 (m : Int)))) (ht : look L t1 = some i) (hk : i.k = .slice e sz bytes) (hte : look L e = some ie)
    (hsz : Nat.beq (svCells ie.zero).length sz = true) (hb : m * bytes ≤ 140737488355328) (hm : m < 9223372036854775808)
    (k : OpsL P ops (j + 1) l ⟨N, n + 1, (d, .lsl n sz 0 m) :: t, (n, .arr sz (List.replicate m (svCells ie.zero))) :: h⟩ q) : OpG P ops j ⟨some d, .makeSlice t1 x y, ty, pos, af, g⟩ l ⟨N, n, t, h⟩ q :=
  OpOk.intro fun c a hs => by
    have hn := hs.n
    simp only at hn
    subst hn
    have hsz := Nat.eq_of_beq_eq_true hsz
    obtain ⟨dd, _, _, g1, _, g3, _⟩ := tiOf_parts (hL t1 i ht)
    rw [hk] at g3
    obtain ⟨g4, ii, g5, g6, g7⟩ := tk_inv g3
    subst g4
    have e1 := int_inv (S.ev_val hs (x := x) (by rw [evT_eq]; exact hx))
    have e2 := int_inv (S.ev_val hs (x := y) (by rw [evT_eq]; exact hy))
    obtain ⟨z, hz, hz'⟩ := run_zero' c.w (hL e ie hte)
    have hzv : AList c (stAll (svCells ie.zero)) z.cells.toList := stAll_val (svCells_val (svOf_val hz'))
    have hzs : z.cells.size = sz := by
      have h8 := hzv.length
      have ln : ∀ xs : List SV, (stAll xs).length = xs.length := by
        intro xs; induction xs with
        | nil => rfl
        | cons x xs ih => simp [stAll, ih]
      rw [ln] at h8
      simp only [Array.length_toList] at h8; omega
    have hcv := zeros_val hzv m
    rw [hzs] at hcv
    obtain ⟨dz, iz, z0, _, q2, _, _, _, _, q6, q7⟩ := tiOf_parts (hL e ie hte)
    rw [g5] at q2; cases q2
    have hz0 : z0 = z := by
      have : (zeroValue e).run P c.w = .ok z0 c.w := by simp [zeroValue, typeInfo, g5, q6]
      rw [this] at hz; cases hz; rfl
    subst hz0
    have hbi : ((ii.bytes : Int)) * ((m : Nat) : Int) ≤ 281474976710656 := by
      rw [g7, ← Int.natCast_mul, Nat.mul_comm]; omega
    have hrun := run_make (P := P) c.w t1 e ii z0 g1 g5 q6 .i64 .i64 (m : Int) (m : Int) (by omega) (by omega) hbi (by omega)
    rw [g6] at hrun
    simp only [Int.toNat_natCast] at hrun
    have hmade : (madeCells z0.cells (m * sz)).toList = ((Array.range (m * sz)).map (fun x => z0.cells[x % sz]!)).toList := by simp [madeCells, hzs]
    have hsize : (madeCells z0.cells (m * sz)).size = m * sz := size_madeCells _ _
    rw [← hmade] at hcv
    have hrows := zeros_rows hsz m
    have ln : ∀ xs : List SV, (stAll xs).length = xs.length := by
      intro xs; induction xs with
      | nil => rfl
      | cons x xs ih => simp [stAll, ih]
    have hzl : (zeros (stAll (svCells ie.zero)) m).length = m * sz := by
      have h8 := hcv.length
      rw [Array.length_toList, hsize] at h8; exact h8.symm
    refine ⟨_, _, _, .slice (some ⟨c.w.heap.size, 0, none⟩) m m, c.alloc (.cells (madeCells z0.cells (m * sz)) e), ?_, k, ev_alloc hs.h, rfl, ?_, ?_⟩
    · simp [execOp, e1, e2, hrun, Cfg.alloc]
    · refine hrel_alloc hs.h ⟨madeCells z0.cells (m * sz), e, (0, 0), heap_alloc_new, fun j _ hj => by omega, by simp [hsize], ?_⟩
      have hg := hcv.goes (go_alloc hs.h (.cells (madeCells z0.cells (m * sz)) e))
      exact (chop_val (b := c.w.heap.size) (off := 0) m hrows hg (by omega) (fun i v e' => by
        show (c.w.alloc _).cell? _ = _
        simp only [World.cell?, heap_alloc_new]
        simpa using e')).1
    · have hι : (c.alloc (.cells (madeCells z0.cells (m * sz)) e)).ι c.n = c.w.heap.size := by simp [Cfg.alloc]
      have h0 : (⟨c.w.heap.size, 0, none⟩ : Addr) = ⟨(c.alloc (.cells (madeCells z0.cells (m * sz)) e)).ι c.n, 0 * sz, none⟩ := by rw [hι, Nat.zero_mul]
      rw [h0]
      refine .lsl c.n sz 0 m m e (m * sz) (Nat.lt_succ_self _) ⟨Nat.le_refl _, fun h => h⟩ ?_ (by rw [Nat.zero_add]; exact Nat.le_refl _)
      rw [hι]
      exact (shape_of (heap_alloc_new (w := c.w))).trans (by rw [hsize])
theorem putAt_get {α : Type} : ∀ (cs : List α) (n : Nat) (vs : List α) (p : Nat), p < cs.length → (putAt cs n vs)[p]? = if n ≤ p ∧ p < n + vs.length then vs[p - n]? else cs[p]?
  | cs, n, [], p, h => by simp only [putAt, List.length_nil]; rw [if_neg (by omega)]
  | [], n, _ :: _, p, h => by simp at h
  | c :: cs, 0, v :: vs, 0, h => by simp [putAt]
  | c :: cs, 0, v :: vs, p + 1, h => by
    have ih := putAt_get cs 0 vs p (by simpa using h)
    simp only [putAt, List.getElem?_cons_succ, List.length_cons, ih]
    by_cases h1 : p < vs.length
    · rw [if_pos (by omega), if_pos (by omega)]; simp
    · rw [if_neg (by omega), if_neg (by omega)]
  | c :: cs, n + 1, v :: vs, 0, h => by simp only [putAt, List.getElem?_cons_zero]; rw [if_neg (by omega)]
  | c :: cs, n + 1, v :: vs, p + 1, h => by
    have ih := putAt_get cs n (v :: vs) p (by simpa using h)
    simp only [putAt, List.getElem?_cons_succ, ih]
    by_cases h1 : n ≤ p ∧ p < n + (v :: vs).length
    · rw [if_pos h1, if_pos (by simp only [List.length_cons] at h1 ⊢; omega), show p + 1 - (n + 1) = p - n by omega]
    · rw [if_neg h1, if_neg (by simp only [List.length_cons] at h1 ⊢; omega)]
theorem SList.get {St : Nat → Prop} {w : World} : ∀ {xs : List SV} {vs : List Value}, SList St w xs vs → ∀ (q : Nat) x, xs[q]? = some x → ∃ v, vs[q]? = some v ∧ SVal St w x v
  | _, _, .cons x v xs vs h hs, 0, x', e => by simp at e; subst e; exact ⟨v, rfl, h⟩
  | _, _, .cons x v xs vs h hs, q + 1, x', e => by simpa using hs.get q x' (by simpa using e)
theorem SCells.of_get {St : Nat → Prop} {w : World} {b : Nat} : ∀ {xs : List SV} {off : Nat}, (∀ (p : Nat) x, xs[p]? = some x → ∃ v, w.cell? ⟨b, off + p, none⟩ = some v ∧ SVal St w x v) → SCells St w b off xs
  | [], _, _ => .nil _ _
  | x :: xs, off, h => by
    obtain ⟨v, h1, h2⟩ := h 0 x rfl
    exact .cons _ _ _ v _ (by simpa using h1) h2 (SCells.of_get fun p y e => by
      obtain ⟨v, g1, g2⟩ := h (p + 1) y (by simpa using e)
      exact ⟨v, by rw [← g1]; congr 2; omega, g2⟩)
/-- A store into an array of one's own: stable cells. -/
theorem st_storeE {t1 : TypeId} {x y : Operand} {id kk ii jj : Nat} {rows : List (List SV)} {row xs : List SV} {i : TI} {z : SV} {h' : Heap} (hL : LayOk P L) (hx : evT t x = some (.eptr id kk ii jj)) (hy : evT t y = some (.st z)) (hh : look h id = some (.arr kk rows)) (hr : rows[ii]? = some row)
    (ht : look L t1 = some i) (hz : svCells z = xs) (h1 : (Nat.beq xs.length i.size && Nat.ble (jj + i.size) row.length && oneAll (stAll xs)) = true) (hdel : frc (del h id) some = some h')
    (k : OpsL P ops (j + 1) l ⟨N, n, t, (id, .arr kk (rows.set ii (putAt row jj xs))) :: h'⟩ q) : OpG P ops j ⟨none, .store t1 x y, ty, pos, af, g⟩ l ⟨N, n, t, h⟩ q := by
  rw [frc_eq] at hdel; cases hdel; cases hz
  have k' : OpsL P ops (j + 1) l ⟨N, n, t, (id, .arr kk (rows.set ii (putAt row jj (svCells z)))) :: h⟩ q := OpsL.same (fun id' => by
    rw [look_cons, look_cons, look_del]
    split <;> rfl) k
  refine OpOk.intro_skip fun c a hs => ?_
  simp only [Bool.and_eq_true] at h1
  obtain ⟨⟨ha, hb⟩, hc⟩ := h1
  have ha := Nat.eq_of_beq_eq_true ha
  have hb := Nat.le_of_ble_eq_true hb
  have hne : rows ≠ [] := fun e => by rw [e] at hr; cases hr
  have hlt2 : ii < rows.length := by
    rcases Nat.lt_or_ge ii rows.length with h' | h'
    · exact h'
    · simp [List.getElem?_eq_none h'] at hr
  have hne' : rows.set ii (putAt row jj (svCells z)) ≠ [] := fun e => by
    have := congrArg List.length e
    simp at this; rw [this] at hlt2; simp at hlt2
  obtain ⟨cs, T, fr, hblk, hfr, hlen, hrows⟩ := hs.h.rel id _ hh hne
  obtain ⟨hrl, hrc⟩ := hrows.get ii row hr
  have hyv := S.ev_val hs (x := y) (by rw [evT_eq]; exact hy)
  have hzv := svCells_val (st_inv hyv)
  have hzl := hzv.length
  have hpv : a.eval x = .pointer (some ⟨c.ι id, ii * kk + jj, none⟩) := by
    have hv0 := S.ev_val hs (x := x) (by rw [evT_eq]; exact hx)
    generalize a.eval x = p at hv0
    cases hv0; rfl
  have hmul : (ii + 1) * kk ≤ rows.length * kk := Nat.mul_le_mul_right kk hlt2
  rw [Nat.add_mul, Nat.one_mul] at hmul
  have hfit : ii * kk + jj + 0 + (a.eval y).cells.toList.length ≤ cs.toList.length := by
    rw [hzl, ha, Array.length_toList]; omega
  obtain ⟨w', g1, g2, g3⟩ := run_storeCells_blk (P := P) (a.eval y).cells.toList 0 (ii * kk + jj) cs.toList c.w (by simpa using hblk) (by simpa using hfr) hfit (oneAll_val' (c := c) (stAll_val hzv) hc)
  rw [Nat.add_zero] at g2 g3
  have hlt : c.ι id < c.w.heap.size := hs.h.blk id _ hh hne
  generalize hcs' : (putAt cs.toList (ii * kk + jj) (a.eval y).cells.toList).toArray = cs' at g2 g3
  have hsz' : cs'.size = cs.size := by rw [← hcs']; simp [putAt_length]
  have hw' : w' = setBlk c.w (c.ι id) (.cells cs' T fr) := by
    rcases g2 with g2 | g2
    · rw [g2] at g3
      subst g2
      have e : c.w.heap[c.ι id] = .cells cs' T fr := by simpa [Array.getElem?_eq_getElem hlt] using g3
      unfold setBlk
      rw [← e]
      have e2 : c.w.heap.setIfInBounds (c.ι id) c.w.heap[c.ι id] = c.w.heap := by
        apply Array.ext_getElem?
        intro j
        rw [Array.getElem?_setIfInBounds]
        split
        · rename_i hj; subst hj; simp [hlt]
        · rfl
      rw [e2]
    · exact g2
  have hsh : ∀ sh, c.w.shape? (c.ι id) = some sh → (setBlk c.w (c.ι id) (.cells cs' T fr)).shape? (c.ι id) = some sh := fun sh e => by
    rw [shape_of hblk] at e
    rw [shape_of (setBlk_same hlt), ← e, hsz']
  refine ⟨_, _, c.set (c.ι id) (.cells cs' T fr), ?_, k', ev_set hs.h hh hne hsh, hs.n, hrel_set hs.h hh hne hsh ?_⟩
  · simp only [execOp, Instr.storeAt, hpv, Instr.sureAddr]
    have e1 : (a.eval y).cells.size = i.size := by
      have : (a.eval y).cells.toList.length = (svCells z).length := hzl
      simpa [ha] using this
    simp only [storeVar, Cfg.set]
    simp [run_sizeOf' _ (hL t1 i ht), e1, g1, hw']
  · refine ⟨cs', T, fr, setBlk_same hlt, by rw [hsz']; exact hfr, by rw [hsz', List.length_set]; exact hlen, ?_⟩
    have hgo := go_set hs.h hh hne hsh
    have hcell : ∀ p v, cs'[p]? = some v → (c.set (c.ι id) (.cells cs' T fr)).w.cell? ⟨c.ι id, p, none⟩ = some v := fun p v e => by
      show (setBlk c.w (c.ι id) (.cells cs' T fr)).cell? _ = _
      simp [World.cell?, setBlk_same hlt, e]
    have hold : ∀ p, (¬ (ii * kk + jj ≤ p ∧ p < ii * kk + jj + (svCells z).length)) → ∀ v, c.w.cell? ⟨c.ι id, p, none⟩ = some v → (c.set (c.ι id) (.cells cs' T fr)).w.cell? ⟨c.ι id, p, none⟩ = some v := fun p hp v e => by
      simp [World.cell?, hblk] at e
      refine hcell p v ?_
      have hps : p < cs.size := by
        rcases Nat.lt_or_ge p cs.size with h' | h'
        · exact h'
        · simp [Array.getElem?_eq_none h'] at e
      rw [← hcs', List.getElem?_toArray, putAt_get _ _ _ _ (by simpa using hps), if_neg (by rw [hzl]; exact hp)]
      simpa using e
    refine SRows.mk fun r row' e => ?_
    rw [List.getElem?_set] at e
    split at e
    · rename_i hri
      subst hri
      simp only [hlt2, if_true, Option.some.injEq] at e
      subst e
      refine ⟨by rw [putAt_length]; exact hrl, SCells.of_get fun p x ep => ?_⟩
      have hp : p < row.length := by
        rcases Nat.lt_or_ge p row.length with h' | h'
        · exact h'
        · rw [List.getElem?_eq_none (by rw [putAt_length]; exact h')] at ep; cases ep
      rw [putAt_get _ _ _ _ hp] at ep
      rw [Nat.zero_add]
      split at ep
      · rename_i hin
        obtain ⟨v, u1, u2⟩ : ∃ v, (a.eval y).cells.toList[p - jj]? = some v ∧ SVal c.St c.w x v := by
          exact hzv.get _ _ ep
        refine ⟨v, hcell _ _ ?_, u2.goes hgo.st⟩
        rw [← hcs', List.getElem?_toArray, putAt_get _ _ _ _ (by rw [Array.length_toList]; omega), if_pos (by rw [hzl]; omega), show ii * kk + p - (ii * kk + jj) = p - jj by omega]
        exact u1
      · rename_i hin
        obtain ⟨v, u1, u2⟩ := hrc.get p x ep
        rw [Nat.zero_add] at u1
        exact ⟨v, hold _ (by omega) v u1, u2.goes hgo.st⟩
    · rename_i hri
      obtain ⟨r1, r2⟩ := hrows.get r row' e
      refine ⟨r1, SCells.of_get fun p x ep => ?_⟩
      obtain ⟨v, u1, u2⟩ := r2.get p x ep
      have hp : p < kk := by
        rw [← r1]
        rcases Nat.lt_or_ge p row'.length with h' | h'
        · exact h'
        · simp [List.getElem?_eq_none h'] at ep
      refine ⟨v, hold _ ?_ v u1, u2.goes hgo.st⟩
      rcases Nat.lt_or_gt_of_ne hri with h' | h'
      · have := Nat.mul_le_mul_right kk h'
        rw [Nat.succ_mul] at this
        omega
      · have := Nat.mul_le_mul_right kk h'
        rw [Nat.succ_mul] at this
        omega
end
end Go.Proofs.YtohmbpcjapjkbaaGreatDoorAl
