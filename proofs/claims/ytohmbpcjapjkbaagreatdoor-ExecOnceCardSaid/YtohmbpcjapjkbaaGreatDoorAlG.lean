/- The A-logic, part 7: stores, tests, lengths, literals, interfaces, closures. -/
import Derived.Test.YtohmbpcjapjkbaaGreatDoorAlF
set_option linter.all false
namespace Go.Proofs.YtohmbpcjapjkbaaGreatDoorAl

/-- What a kind says. -/
def TkSays (P : Program) (d : TypeDesc) : TK → Prop
  | .bool => d = .bool
  | .string => d = .string
  | .ptr => ∃ e, d = .pointer e
  | .iface => ∃ ms, d = .interface ms
  | .func => ∃ a b c, d = .func a b c
  | .other => True
  | .int k => d = .int k
  | .slice e z b => d = .slice e ∧ ∃ i, P.info? e = some i ∧ i.size = z ∧ i.bytes = b
  | .struct fs => ∃ a, d = .struct a ∧ sizesOf P a.toList = some fs
  | .map k e => d = .map k e
theorem tk_inv {P : Program} {d : TypeDesc} {k : TK} (h : tkOf P d = some k) : TkSays P d k := by
  cases d <;> simp only [tkOf] at h <;> first
    | (cases h; first | rfl | exact trivial | exact ⟨_, rfl⟩ | exact ⟨_, _, _, rfl⟩)
    | (split at h
       · rename_i e; cases h; first | exact ⟨rfl, _, e, rfl, rfl⟩ | exact ⟨_, rfl, e⟩
       · cases h)

/-- Cells laid over others. -/
def putAt {α : Type} : List α → Nat → List α → List α
  | cs, _, [] => cs
  | [], _, _ => []
  | _ :: cs, 0, v :: vs => v :: putAt cs 0 vs
  | c :: cs, n + 1, vs => c :: putAt cs n vs
theorem putAt_length {α : Type} : ∀ (cs : List α) (n : Nat) (vs : List α), (putAt cs n vs).length = cs.length
  | cs, _, [] => by simp [putAt]
  | [], _, _ :: _ => by simp [putAt]
  | _ :: cs, 0, v :: vs => by simp [putAt, putAt_length cs 0 vs]
  | c :: cs, n + 1, v :: vs => by simp [putAt, putAt_length cs n (v :: vs)]
theorem putAt_set {α : Type} : ∀ (cs : List α) (n : Nat) (v : α) (vs : List α), putAt cs n (v :: vs) = putAt (cs.set n v) (n + 1) vs
  | [], n, v, vs => by cases vs <;> simp [putAt]
  | c :: cs, 0, v, [] => by cases cs <;> simp [putAt]
  | c :: cs, 0, v, u :: us => by simp [putAt]
  | c :: cs, n + 1, v, vs => by
    have := putAt_set cs n v vs
    cases vs with
    | nil => simpa [putAt] using this
    | cons u us => simpa [putAt] using this
theorem putAt_val {c : Cfg} : ∀ {cs : List AV} {us : List Value}, AList c cs us → ∀ {xs : List AV} {vs : List Value} (n : Nat), AList c xs vs → AList c (putAt cs n xs) (putAt us n vs)
  | _, _, h, _, _, _, .nil => by simpa [putAt] using h
  | _, _, .nil, _, _, _, .cons _ _ _ _ _ _ => by simpa [putAt] using AList.nil
  | _, _, .cons _ _ _ _ _ hs, _, _, 0, .cons _ _ _ _ hx hxs => by simpa [putAt] using AList.cons _ _ _ _ hx (putAt_val hs 0 hxs)
  | _, _, .cons _ _ _ _ h hs, _, _, n + 1, .cons _ _ _ _ hx hxs => by simpa [putAt] using AList.cons _ _ _ _ h (putAt_val hs n (.cons _ _ _ _ hx hxs))

theorem setBlk_setBlk {w : World} {b : Nat} {o o' : Obj} : setBlk (setBlk w b o) b o' = setBlk w b o' := by
  simp [setBlk, Array.setIfInBounds_setIfInBounds]

/-- Cells stored one behind the other into a block that is not frozen there. -/
theorem run_storeCells_blk {P : Program} {b : Nat} {T : TypeId} {fr : Nat × Nat} : ∀ (vs : List Value) (i o : Nat) (cur : List Value) (w : World),
    w.heap[b]? = some (.cells cur.toArray T fr) → (∀ j, j < cur.length → ¬ (fr.1 ≤ j ∧ j < fr.2)) → o + i + vs.length ≤ cur.length → (∀ v ∈ vs, v.oneCell' = true) →
    ∃ w', (storeCells ⟨b, o, none⟩ vs i).run P w = .ok () w' ∧ (w' = w ∨ w' = setBlk w b (.cells (putAt cur (o + i) vs).toArray T fr)) ∧ w'.heap[b]? = some (.cells (putAt cur (o + i) vs).toArray T fr)
  | [], i, o, cur, w, hb, _, _, _ => ⟨w, rfl, .inl rfl, by cases cur <;> simpa [putAt] using hb⟩
  | v :: vs, i, o, cur, w, hb, hf, hl, h1 => by
    simp only [List.length_cons] at hl
    have hblk : b < w.heap.size := by
      rcases Nat.lt_or_ge b w.heap.size with h' | h'
      · exact h'
      · simp [Array.getElem?_eq_none h'] at hb
    have hcell : w.cell? ⟨b, o + i, none⟩ = some (cur[o + i]'(by omega)) := by
      simp [World.cell?, hb, List.getElem?_eq_getElem (show o + i < cur.length by omega)]
    have hfz : w.frozen? ⟨b, o + i, none⟩ = false := by
      have := hf (o + i) (by omega)
      simp only [World.frozen?, hb]
      cases hd : (decide (fr.1 ≤ o + i) && decide (o + i < fr.2)) with
      | false => rfl
      | true => exact absurd (by simpa using hd) this
    have hset := setCell_eq (off := o + i) hb v
    have hb' : (setBlk w b (.cells ((cur.set (o + i) v)).toArray T fr)).heap[b]? = some (.cells (cur.set (o + i) v).toArray T fr) := setBlk_same hblk
    obtain ⟨w', g1, g2, g3⟩ := run_storeCells_blk vs (i + 1) o (cur.set (o + i) v) _ hb' (by simpa using hf) (by simp; omega) (fun u hu => h1 u (List.mem_cons_of_mem _ hu))
    have hput : putAt cur (o + i) (v :: vs) = putAt (cur.set (o + i) v) (o + (i + 1)) vs := by rw [putAt_set]; rfl
    refine ⟨w', ?_, .inr ?_, ?_⟩
    · show Sem.run P (store (Addr.add ⟨b, o, none⟩ i) v >>= fun _ => storeCells ⟨b, o, none⟩ vs (i + 1)) w = _
      rw [Sem.run_bind, add_lit, run_store P w _ v .plain (h1 v (List.mem_cons_self)), hcell]
      simp only [hfz, Bool.false_eq_true, if_false, Result.andThen_ok]
      rw [hset]
      simpa using g1
    · rw [hput]
      rcases g2 with g2 | g2
      · rw [g2] at g3 ⊢
        have := hb'.symm.trans g3
        simp only [Option.some.injEq, Obj.cells.injEq, Array.mk.injEq] at this
        rw [← this.1]
      · rw [g2, setBlk_setBlk]
    · rw [hput]; exact g3

section
variable {P : Program} {s : S} {K : AV → Heap → Nat → Prop} {d : Option Tmp} {ty : TypeId} {pos : String} {af : Array Edge} {g : Option (Nat × Bool)}
variable {L : Lay}

theorem ok_store_ptr (hL : LayOk P L) {t : TypeId} {x y : Operand} {id off : Nat} {cs xs : List AV} {i : TI} {z : AV} (hx : s.ev x = some (.ptr id off)) (hy : s.ev y = some z) (hh : look s.h id = some (.cells cs))
    (ht : look L t = some i) (hz : avCells z = some xs) (h1 : (Nat.beq xs.length i.size && Nat.ble (off + i.size) cs.length && oneAll xs) = true)
    (k : K .top ((id, .cells (putAt cs off xs)) :: s.h) s.n) : OpOk P ⟨d, .store t x y, ty, pos, af, g⟩ s K := .intro_skip fun c a hs => by
  simp only [Bool.and_eq_true] at h1
  obtain ⟨⟨ha, hb⟩, hc⟩ := h1
  have ha := Nat.eq_of_beq_eq_true ha
  have hb := Nat.le_of_ble_eq_true hb
  obtain ⟨vs, T, fr, hblk, hfr, hv⟩ := hs.h.rel id _ hh trivial
  have hl := hv.length
  have hzv := avCells_val hz (S.ev_val hs hy)
  have hzl := hzv.length
  have hpv : a.eval x = .pointer (some ⟨c.ι id, off, none⟩) := by
    have hv0 := S.ev_val hs hx
    generalize a.eval x = p at hv0
    cases hv0; rfl
  obtain ⟨w', g1, g2, g3⟩ := run_storeCells_blk (P := P) (a.eval y).cells.toList 0 off vs c.w hblk hfr (by rw [hzl]; omega) (oneAll_val' hzv hc)
  have hlt : c.ι id < c.w.heap.size := hs.h.blk id _ hh trivial
  have hw' : w' = setBlk c.w (c.ι id) (.cells (putAt vs off (a.eval y).cells.toList).toArray T fr) := by
    rcases g2 with g2 | g2
    · rw [g2] at g3
      subst g2
      have e : c.w.heap[c.ι id] = .cells (putAt vs (off + 0) (a.eval y).cells.toList).toArray T fr := by simpa [Array.getElem?_eq_getElem hlt] using g3
      unfold setBlk
      rw [Nat.add_zero] at e
      rw [← e]
      have e2 : c.w.heap.setIfInBounds (c.ι id) c.w.heap[c.ι id] = c.w.heap := by
        apply Array.ext_getElem?
        intro j
        rw [Array.getElem?_setIfInBounds]
        split
        · rename_i hj; subst hj; simp [hlt]
        · rfl
      rw [e2]
    · exact g2
  have hsh : ∀ sh, c.w.shape? (c.ι id) = some sh → (setBlk c.w (c.ι id) (.cells (putAt vs off (a.eval y).cells.toList).toArray T fr)).shape? (c.ι id) = some sh := fun sh e => by
    rw [shape_of hblk] at e
    rw [shape_of (setBlk_same hlt), ← e]
    simp [putAt_length]
  refine ⟨_, _, c.set (c.ι id) (.cells (putAt vs off (a.eval y).cells.toList).toArray T fr), ?_, k, ev_set hs.h hh trivial hsh, hs.n, hrel_set hs.h hh trivial hsh ?_⟩
  · simp only [execOp, Instr.storeAt, hpv, Instr.sureAddr]
    have e1 : (a.eval y).cells.size = i.size := by
      have : (a.eval y).cells.toList.length = xs.length := hzl
      simpa [ha] using this
    simp only [storeVar, Cfg.set]
    simp [run_sizeOf' _ (hL t i ht), e1, g1, hw']
  · exact ⟨putAt vs off (a.eval y).cells.toList, T, fr, setBlk_same hlt, by simpa [putAt_length] using hfr,
      (putAt_val hv off hzv).goes (go_set hs.h hh trivial hsh)⟩

/-- Not nil. -/
def notNil : AV → Bool
  | .ptr .. => true
  | .eptr .. => true
  | .iter .. => true
  | .iface .. => true
  | .st (.sptr _) => true
  | .st (.iface ..) => true
  | .st (.fn (.func _) _ _) => true
  | .fn (.func _) _ _ => true
  | _ => false
theorem ok_nilCheck {x : Operand} {y : AV} (hx : s.ev x = some y) (hn : notNil y = true) (k : K y s.h s.n) : OpOk P ⟨d, .nilCheck x, ty, pos, af, g⟩ s K :=
  .pure (fun c a hs => by
    have hv := S.ev_val hs hx
    refine ⟨a.eval x, ?_, hv⟩
    simp only [execOp]
    generalize a.eval x = p at hv
    cases hv with
    | st x v h0 =>
      cases h0 <;> first | (simp; done) | cases hn | skip
      case fn f _ _ _ _ _ _ => cases f <;> first | (simp; done) | cases hn
    | fn f _ _ _ _ _ _ => cases f <;> first | (simp; done) | cases hn
    | top => cases hn
    | lsl => cases hn
    | lsl0 => cases hn
    | lslr => cases hn
    | map => cases hn
    | agg => cases hn
    | tuple => cases hn
    | _ => simp) k

theorem ok_extract {x : Operand} {i : Nat} {xs : List AV} {y : AV} (hx : s.ev x = some (.tuple xs)) (hi : xs[i]? = some y) (k : K y s.h s.n) : OpOk P ⟨d, .extract x i, ty, pos, af, g⟩ s K :=
  .pure (fun c a hs => by
    have hv := S.ev_val hs hx
    generalize hp : a.eval x = p at hv
    cases hv with
    | tuple _ vs h =>
      obtain ⟨v, h1, h2⟩ := h.get i y hi
      exact ⟨v, by simp [execOp, Instr.extract, hp, h1], h2⟩) k

theorem ok_not {t : TypeId} {x : Operand} {b : Bool} (hx : s.ev x = some (.st (.bool b))) (k : K (.st (.bool (!b))) s.h s.n) : OpOk P ⟨d, .unOp .not t x, ty, pos, af, g⟩ s K :=
  .pure (fun c a hs => ⟨.bool !b, by simp [execOp, Op.unary, bool_inv (S.ev_val hs hx)], .st _ _ (.bool _)⟩) k
theorem ok_neg {t : TypeId} {x : Operand} {kk : IntKind} {n : Int} (hx : s.ev x = some (.st (.int kk n))) (k : K (.st (.int kk (kk.wrap (0 - n)))) s.h s.n) : OpOk P ⟨d, .unOp .neg t x, ty, pos, af, g⟩ s K :=
  .pure (fun c a hs => ⟨.int kk (kk.wrap (0 - n)), by simp [execOp, Op.unary, Op.intArith, int_inv (S.ev_val hs hx)], .st _ _ (.int _ _)⟩) k

theorem ok_convI (hL : LayOk P L) {t u : TypeId} {x : Operand} {kk jj : IntKind} {n : Int} {it iu : TI} (hx : s.ev x = some (.st (.int kk n))) (ht : look L t = some it) (hu : look L u = some iu) (hk : iu.k = .int jj)
    (k : K (.st (.int jj (jj.wrap n))) s.h s.n) : OpOk P ⟨d, .convert t u x, ty, pos, af, g⟩ s K :=
  .pure (fun c a hs => by
    obtain ⟨d1, _, _, h1, _⟩ := tiOf_parts (hL t it ht)
    obtain ⟨d2, _, _, h2, _, h3, _⟩ := tiOf_parts (hL u iu hu)
    rw [hk] at h3
    have : d2 = .int jj := by
      cases d2 <;> simp only [tkOf] at h3 <;> first | (cases h3; done) | (cases h3; rfl) | (split at h3 <;> cases h3)
    subst this
    refine ⟨.int jj (jj.wrap n), ?_, .st _ _ (.int _ _)⟩
    simp only [execOp, int_inv (S.ev_val hs hx)]
    simp [convert, run_underlying h1, run_underlying h2, Conv.intToInt]) k

/-- len. -/
def lenAV : AV → Option Int
  | .st (.str s) => some s.size
  | .st (.sl _ rows) => some rows.length
  | .st .nilsl => some 0
  | .st .sl0 => some 0
  | .lsl _ _ _ len => some len
  | _ => none
def lenK : TK → AV → Bool
  | .string, .st (.str _) => true
  | .slice .., .st (.sl ..) => true
  | .slice .., .st .nilsl => true
  | .slice .., .st .sl0 => true
  | .slice .., .lsl .. => true
  | _, _ => false
theorem ok_len (hL : LayOk P L) {t : TypeId} {ts : Array TypeId} {x : Operand} {y : AV} {n : Int} {i : TI} (hts : ts[0]? = some t) (hx : s.ev x = some y) (ht : look L t = some i) (hk : lenK i.k y = true) (hn : lenAV y = some n)
    (k : K (.st (.int .i64 n)) s.h s.n) : OpOk P ⟨d, .call ⟨.builtin .len, #[x], ts⟩, ty, pos, af, g⟩ s K :=
  .pure (fun c a hs => by
    obtain ⟨dd, _, _, h1, _, h3, _⟩ := tiOf_parts (hL t i ht)
    have hv := S.ev_val hs hx
    refine ⟨.int .i64 n, ?_, .st _ _ (.int _ _)⟩
    have hp : (Builtin.len_ ts ty #[a.eval x]).run P c.w = .ok (.int .i64 n) c.w := by
      generalize a.eval x = p at hv
      have h4 := tk_inv h3
      unfold Builtin.len_
      simp only [hts]
      generalize i.k = ik at *
      cases hv with
      | st z v h0 =>
        cases h0 <;> cases ik <;> first | cases hk | skip
        all_goals first
          | (cases hn; have h5 : dd = .string := h4; subst h5; simp [run_underlying h1, goInt]; done)
          | (cases hn; obtain ⟨h5, _⟩ := h4; subst h5; simp [run_underlying h1, goInt]; done)
      | lsl =>
        cases ik <;> first | cases hk | skip
        cases hn; obtain ⟨h5, _⟩ := h4; subst h5; simp [run_underlying h1, goInt]
      | lsl0 =>
        cases ik <;> first | cases hk | skip
        cases hn; obtain ⟨h5, _⟩ := h4; subst h5; simp [run_underlying h1, goInt]
      | lslr =>
        cases ik <;> first | cases hk | skip
        cases hn; obtain ⟨h5, _⟩ := h4; subst h5; simp [run_underlying h1, goInt]
      | _ => cases ik <;> cases hk
    simp [execOp, resolve, invoke, builtin, hp]) k
end
end Go.Proofs.YtohmbpcjapjkbaaGreatDoorAl
