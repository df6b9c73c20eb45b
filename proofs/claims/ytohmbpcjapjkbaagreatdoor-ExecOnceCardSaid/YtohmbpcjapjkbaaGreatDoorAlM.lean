/- The A-logic, part 13: elements, pieces, interfaces, closures, errors compared. -/
import Derived.Test.YtohmbpcjapjkbaaGreatDoorAlL
set_option linter.all false
namespace Go.Proofs.YtohmbpcjapjkbaaGreatDoorAl
section
variable {P : Program} {ops : Array Oper} {j : Nat} {l : List Oper} {q : S → Prop} {N n : Nat} {t : List (Nat × AV)} {h : Heap} {Q : Exit → S → Prop}
variable {d : Nat} {ty : TypeId} {pos : String} {af : Array Edge} {g : Option (Nat × Bool)} {L : Lay}

theorem run_indexAt {t1 e sz bytes : Nat} {i : TI} {w : World} {kk : IntKind} {m : Int} {a : Addr} {len cap : Nat} (hL : LayOk P L) (ht : look L t1 = some i) (hk : i.k = .slice e sz bytes) (h0 : 0 ≤ m) (h1 : m < len) :
    (Instr.indexAt t1 (.slice (some a) len cap) (.int kk m)).run P w = .ok (.pointer (some (a.add (m.toNat * sz)))) w := by
  obtain ⟨dd, _, _, g1, _, g3, _⟩ := tiOf_parts (hL t1 i ht)
  rw [hk] at g3
  obtain ⟨g4, j', g5, g6, g7⟩ := tk_inv g3
  subst g4
  unfold Instr.indexAt
  simp [asIntOf, run_underlying g1, sizeOf, typeInfo, g5, h0, h1, g6]

/-- An element of a stable slice. -/
theorem st_index {t1 e sz bytes : Nat} {x y : Operand} {i : TI} {rows : List (List SV)} {kk : IntKind} {m : Int} (row : List SV) (hL : LayOk P L) (hx : evT t x = some (.st (.sl sz rows))) (hy : evT t y = some (.st (.int kk m)))
    (ht : look L t1 = some i) (hk : i.k = .slice e sz bytes) (h0 : 0 ≤ m) (hr : rows[m.toNat]? = some row)
    (k : OpsL P ops (j + 1) l ⟨N, n, (d, .st (.sptr row)) :: t, h⟩ q) : OpG P ops j ⟨some d, .indexAddr t1 x y, ty, pos, af, g⟩ l ⟨N, n, t, h⟩ q :=
  OpOk.pure (fun c a hs => by
    have hv := st_inv (S.ev_val hs (by rw [evT_eq]; exact hx))
    have hm := int_inv (S.ev_val hs (by rw [evT_eq]; exact hy))
    have hlt : m.toNat < rows.length := by
      rcases Nat.lt_or_ge m.toNat rows.length with h' | h'
      · exact h'
      · simp [List.getElem?_eq_none h'] at hr
    generalize hp : a.eval x = p at hv
    cases hv with
    | slnil => simp at hlt
    | sl _ b off cap _ hb hrr hc =>
      refine ⟨_, ?_, .st _ _ (.sptr b (off + m.toNat * sz) row hb (hrr.get _ _ hr).2)⟩
      simp only [execOp, hp, hm, Sem.run_bind, run_indexAt hL ht hk h0 (show m < rows.length by omega), add_lit]; rfl) k
/-- An element of an object's slice. -/
theorem st_indexL {t1 e sz bytes : Nat} {x y : Operand} {i : TI} {id off len : Nat} {kk : IntKind} {m : Int} (hL : LayOk P L) (hx : evT t x = some (.lsl id sz off len)) (hy : evT t y = some (.st (.int kk m)))
    (ht : look L t1 = some i) (hk : i.k = .slice e sz bytes) (h0 : 0 ≤ m) (h1 : m < len)
    (k : OpsL P ops (j + 1) l ⟨N, n, (d, .eptr id sz (off + m.toNat) 0) :: t, h⟩ q) : OpG P ops j ⟨some d, .indexAddr t1 x y, ty, pos, af, g⟩ l ⟨N, n, t, h⟩ q :=
  OpOk.pure (fun c a hs => by
    have hv := S.ev_val hs (by rw [evT_eq]; exact hx)
    have hm := int_inv (S.ev_val hs (by rw [evT_eq]; exact hy))
    generalize hp : a.eval x = p at hv
    cases hv with
    | lsl0 => omega
    | lslr => omega
    | lsl _ _ _ _ cap T size hi a1 a2 a3 =>
      refine ⟨.pointer (some ⟨c.ι id, (off + m.toNat) * sz + 0, none⟩), ?_, .eptr _ _ _ _ hi⟩
      simp only [execOp, hp, hm, Sem.run_bind, run_indexAt hL ht hk h0 h1, add_lit]
      rw [Nat.add_mul]; rfl) k
/-- Read through a pointer to an object's element. -/
theorem st_loadE {t1 : TypeId} {x : Operand} {id kk ii jj : Nat} {rows : List (List SV)} {i : TI} {y : AV} (row : List SV) (hL : LayOk P L) (hx : evT t x = some (.eptr id kk ii jj)) (hh : look h id = some (.arr kk rows)) (ht : look L t1 = some i)
    (hr : rows[ii]? = some row) (hz : Nat.ble (jj + i.size) row.length = true) (h1 : (i.agg || Nat.beq i.size 1) = true) (hy : loadedS i (row.drop jj) = some y)
    (k : OpsL P ops (j + 1) l ⟨N, n, (d, y) :: t, h⟩ q) : OpG P ops j ⟨some d, .load t1 x, ty, pos, af, g⟩ l ⟨N, n, t, h⟩ q :=
  OpOk.pure (fun c a hs => by
    have hv := S.ev_val hs (by rw [evT_eq]; exact hx)
    generalize hp : a.eval x = p at hv
    cases hv with
    | eptr _ _ _ _ hi =>
      obtain ⟨cs, T, fr, hb, _, hlen, hrr⟩ := hs.h.rel id _ hh (fun e => by rw [e] at hr; cases hr)
      obtain ⟨r1, r2⟩ := hrr.get ii row hr
      have hc := r2.drop jj
      rw [Nat.zero_add] at hc
      obtain ⟨vs, hvs, hcell⟩ := hc.list
      have hl := hvs.length
      have hz' := Nat.le_of_ble_eq_true hz
      simp only [List.length_drop] at hl
      have hrun := run_loadVar' (P := P) (w := c.w) (b := c.ι id) (off := ii * kk + jj) (vs := vs.take i.size) (hL t1 i ht) (by simp; omega) (fun j v e => by
        rw [List.getElem?_take] at e
        split at e
        · exact hcell j v e
        · cases e) (fun ha => by rw [ha] at h1; exact Nat.eq_of_beq_eq_true (by simpa using h1))
      refine ⟨if i.agg then .agg (vs.take i.size).toArray else (vs.take i.size).headD undef, ?_, ?_⟩
      · simp only [execOp, Instr.loadAt, hp, Instr.sureAddr]
        simp [hrun]
      · unfold loadedS at hy
        split at hy
        · rename_i ha; cases hy; rw [ha]; exact .st _ _ (.agg _ _ (hvs.take _))
        · rename_i ha
          split at hy
          · rename_i z zs hz2
            cases hy
            rw [ha]
            have hone : i.size = 1 := by rw [ha] at h1; exact Nat.eq_of_beq_eq_true (by simpa using h1)
            rw [hz2] at hvs
            cases hvs with
            | cons _ v _ vs' hv1 hv2 => simpa [hone] using AVal.st _ _ hv1
          · cases hy) k

def notIface : TK → Bool
  | .iface => false
  | _ => true
theorem run_makeIface {t1 : TypeId} {i : TI} {w : World} (v : Value) (hL : LayOk P L) (ht : look L t1 = some i) (hk : notIface i.k = true) : (Instr.makeInterface t1 v).run P w = .ok (.iface t1 v) w := by
  obtain ⟨dd, _, _, g1, _, g3, _⟩ := tiOf_parts (hL t1 i ht)
  have : ∀ ms, dd ≠ .interface ms := fun ms e => by
    subst e
    simp only [tkOf, Option.some.injEq] at g3
    rw [← g3] at hk; cases hk
  unfold Instr.makeInterface
  cases dd <;> first | (exact absurd rfl (this _)) | simp [run_underlying g1]
theorem st_iface {t1 : TypeId} {x : Operand} {z : SV} {i : TI} (hL : LayOk P L) (hx : evT t x = some (.st z)) (ht : look L t1 = some i) (hk : notIface i.k = true)
    (k : OpsL P ops (j + 1) l ⟨N, n, (d, .st (.iface t1 z)) :: t, h⟩ q) : OpG P ops j ⟨some d, .makeInterface t1 x, ty, pos, af, g⟩ l ⟨N, n, t, h⟩ q :=
  OpOk.pure (fun c a hs => ⟨.iface t1 (a.eval x), by simp only [execOp, Sem.run_bind, run_makeIface _ hL ht hk]; rfl, .st _ _ (.iface _ _ _ (st_inv (S.ev_val hs (by rw [evT_eq]; exact hx))))⟩) k
theorem st_ifaceR {t1 : TypeId} {x : Operand} {z : AV} {i : TI} (hL : LayOk P L) (hx : evT t x = some z) (ht : look L t1 = some i) (hk : notIface i.k = true)
    (k : OpsL P ops (j + 1) l ⟨N, n, (d, .iface t1 z) :: t, h⟩ q) : OpG P ops j ⟨some d, .makeInterface t1 x, ty, pos, af, g⟩ l ⟨N, n, t, h⟩ q :=
  OpOk.pure (fun c a hs => ⟨.iface t1 (a.eval x), by simp only [execOp, Sem.run_bind, run_makeIface _ hL ht hk]; rfl, .iface _ _ _ (S.ev_val hs (by rw [evT_eq]; exact hx))⟩) k

/-- A closure. -/
theorem st_makeFunc {f : Fn} {first caps : Array Operand} {xs ys : List AV} (h1 : evsT t first.toList = some xs) (h2 : evsT t caps.toList = some ys)
    (k : OpsL P ops (j + 1) l ⟨N, n, (d, .fn f xs ys) :: t, h⟩ q) : OpG P ops j ⟨some d, .makeFunc f first caps, ty, pos, af, g⟩ l ⟨N, n, t, h⟩ q :=
  OpOk.pure (fun c a hs => by
    have v1 := S.evs_val hs (by rw [evsT_eq]; exact h1)
    have v2 := S.evs_val hs (by rw [evsT_eq]; exact h2)
    refine ⟨.func f (first.map a.eval) (caps.map a.eval), rfl, ?_⟩
    have := AVal.fn f _ _ _ _ v1 v2
    rw [← Array.toList_map, ← Array.toList_map, Array.toArray_toList, Array.toArray_toList] at this
    exact this) k

/-! ### errors compared: interface values of one integer type -/
def errEq : SV → SV → Option Bool
  | .nilIface, .iface .. => some false
  | .iface .., .nilIface => some false
  | .iface u (.int k a), .iface v (.int k' b) => match decide (u = v), decide (k = k') with
    | true, true => some (decide (a = b))
    | true, false => none
    | false, _ => some false
  | _, _ => none
/-- The types of the errors that are compared: of one integer kind, comparable. -/
def errTy (L : Lay) : SV → Bool
  | .iface u (.int k _) => match look L u with
    | some i => i.cmp && (match i.k with | .int k' => decide (k = k') | _ => false)
    | none => false
  | .nilIface => true
  | _ => false
theorem run_errInt {t1 u : TypeId} {k : IntKind} {w : World} {ms : Array (String × TypeId)} {a b : Int} (hL : LayOk P L) (g1 : P.underlying t1 = some (.interface ms)) (hty : errTy L (.iface u (.int k a)) = true) :
    (Op.equal t1 (.iface u (.int k a)) (.iface u (.int k b))).run P w = .ok (decide (a = b)) w := by
  simp only [errTy] at hty
  split at hty
  · rename_i iu hiu
    simp only [Bool.and_eq_true] at hty
    obtain ⟨hcmp, hkind⟩ := hty
    obtain ⟨du, ju, _, k1, k2, k3, _, _, k6, _⟩ := tiOf_parts (hL u iu hiu)
    split at hkind
    · rename_i k0 hk0
      simp only [decide_eq_true_eq] at hkind
      subst hkind
      rw [hk0] at k3
      have hdu : du = .int k := tk_inv k3
      subst hdu
      have hc2 : ju.comparable = true := by rw [← k6]; exact hcmp
      have e1 : ∀ n, (Op.equalIn (n + 1) u (.int k a) (.int k b)).run P w = .ok (a == b) w := fun n => by simp [Op.equalIn, run_underlying k1]
      have : (Op.equalIn (9998 + 1 + 1) t1 (.iface u (.int k a)) (.iface u (.int k b))).run P w = .ok (decide (a = b)) w := by
        rw [Op.equalIn]
        simp [run_underlying g1, typeInfo, k2, hc2, e1]
        try (rw [Bool.eq_iff_iff]; simp)
      exact this
    · cases hkind
  · cases hty
theorem run_errTy {t1 u v : TypeId} {w : World} {ms : Array (String × TypeId)} {x y : Value} (g1 : P.underlying t1 = some (.interface ms)) (huv : u ≠ v) :
    (Op.equal t1 (.iface u x) (.iface v y)).run P w = .ok false w :=
  eq_run fun n => by simp [Op.equalIn, run_underlying g1, huv]
theorem eq_ops {t1 : TypeId} {x y : Value} (hx : ∃ u z, x = .iface u z ∨ x = .nilIface) (hy : ∃ u z, y = .iface u z ∨ y = .nilIface) :
    (∀ w, (binOp .eql t1 x y).run P w = ((Op.equal t1 x y).run P w).andThen fun r w' => .ok (.bool r) w') ∧ (∀ w, (binOp .neq t1 x y).run P w = ((Op.equal t1 x y).run P w).andThen fun r w' => .ok (.bool !r) w') := by
  obtain ⟨_, _, hx | hx⟩ := hx <;> obtain ⟨_, _, hy | hy⟩ := hy <;> subst hx <;> subst hy <;>
    exact ⟨fun w => by simp only [binOp, Sem.run_bind]; rfl, fun w => by simp only [binOp, Sem.run_bind]; rfl⟩
theorem run_errEq {t1 : TypeId} {i : TI} {c : Cfg} {X Y : SV} {p v : Value} {b : Bool} (hL : LayOk P L) (ht : look L t1 = some i) (hk : i.k = .iface) (he : errEq X Y = some b) (hty : (errTy L X && errTy L Y) = true) (hX : SVal c.St c.w X p) (hY : SVal c.St c.w Y v) :
    (Op.equal t1 p v).run P c.w = .ok b c.w ∧ (∀ op x y, (eqGuard op t1 x y p v).run P c.w = .ok () c.w) ∧
    (∀ w, (binOp .eql t1 p v).run P w = ((Op.equal t1 p v).run P w).andThen fun r w' => .ok (.bool r) w') ∧
    (∀ w, (binOp .neq t1 p v).run P w = ((Op.equal t1 p v).run P w).andThen fun r w' => .ok (.bool !r) w') := by
  obtain ⟨dd, _, _, g1, _, g3, _⟩ := tiOf_parts (hL t1 i ht)
  rw [hk] at g3
  obtain ⟨ms, g4⟩ := tk_inv g3
  subst g4
  unfold errEq at he
  split at he
  · cases he; cases hX; cases hY
    exact ⟨eq_run fun n => by simp [Op.equalIn, run_underlying g1], fun op x y => by unfold eqGuard; cases op <;> simp, eq_ops ⟨0, .nilFunc, .inr rfl⟩ ⟨_, _, .inl rfl⟩⟩
  · cases he; cases hX; cases hY
    exact ⟨eq_run fun n => by simp [Op.equalIn, run_underlying g1], fun op x y => by unfold eqGuard; cases op <;> simp, eq_ops ⟨_, _, .inl rfl⟩ ⟨0, .nilFunc, .inr rfl⟩⟩
  · rename_i u k a v' k' b'
    have e1 : p = .iface u (.int k a) := by cases hX with | iface _ _ _ h1 => cases h1; rfl
    have e2 : v = .iface v' (.int k' b') := by cases hY with | iface _ _ _ h1 => cases h1; rfl
    subst e1 e2
    refine ⟨?_, fun op x y => by unfold eqGuard; cases op <;> simp, eq_ops ⟨_, _, .inl rfl⟩ ⟨_, _, .inl rfl⟩⟩
    by_cases huv : u = v'
    · subst huv
      by_cases hkk : k = k'
      · subst hkk
        simp only [decide_true, Option.some.injEq] at he
        subst he
        simp only [Bool.and_eq_true] at hty
        exact run_errInt hL g1 hty.1
      · simp [hkk] at he
    · simp only [huv, decide_false, Option.some.injEq] at he
      subst he
      exact run_errTy g1 huv
  · cases he
theorem st_errEq {op : BinOp} {t1 t2 : TypeId} {x y : Operand} {i : TI} {X Y : SV} {b r : Bool} (hL : LayOk P L) (hx : evT t x = some (.st X)) (hy : evT t y = some (.st Y)) (ht : look L t1 = some i) (hk : i.k = .iface) (he : errEq X Y = some b)
    (hty : (errTy L X && errTy L Y) = true) (ho : (match op with | .eql => some b | .neq => some (!b) | _ => none) = some r) (k : OpsL P ops (j + 1) l ⟨N, n, (d, .st (.bool r)) :: t, h⟩ q) : OpG P ops j ⟨some d, .binOp op t1 x y t2, ty, pos, af, g⟩ l ⟨N, n, t, h⟩ q :=
  OpOk.pure (fun c a hs => by
    obtain ⟨h1, h2, h3, h4⟩ := run_errEq (P := P) hL ht hk he hty (st_inv (S.ev_val hs (by rw [evT_eq]; exact hx))) (st_inv (S.ev_val hs (by rw [evT_eq]; exact hy)))
    refine ⟨.bool r, ?_, .st _ _ (.bool _)⟩
    simp only [execOp]
    cases op <;> first | cases ho | skip
    · simp [h2, h3, h1]
    · simp [h2, h4, h1]) k
end
end Go.Proofs.YtohmbpcjapjkbaaGreatDoorAl
