/- The A-logic, part 12: elements, slices, literals, interfaces, closures. -/
import Derived.Test.YtohmbpcjapjkbaaGreatDoorAlK
set_option linter.all false
namespace Go.Proofs.YtohmbpcjapjkbaaGreatDoorAl

/-- Literal parts laid into zero cells. -/
def fillA (places : List (Nat × Nat)) : List AV → List (Nat × AV) → Option (List AV)
  | cells, [] => some cells
  | cells, (i, x) :: r => match places[i]?, avCells x with
    | some (off, size), some xs => cond (Nat.beq xs.length size && Nat.ble (off + size) cells.length) (fillA places (putAt cells off xs) r) none
    | _, _ => none
theorem foldl_putAt : ∀ (vs : List Value) (cells : List Value) (off k : Nat), ((vs.zipIdx k).foldl (fun cs (c, j) => cs.setIfInBounds (off + j) c) cells.toArray) = (putAt cells (off + k) vs).toArray
  | [], cells, off, k => by cases cells <;> simp [putAt]
  | v :: vs, cells, off, k => by
    rw [List.zipIdx_cons, List.foldl_cons, putAt_set]
    have := foldl_putAt vs (cells.set (off + k) v) off (k + 1)
    rw [← Nat.add_assoc] at this
    simpa using this
inductive Parts (c : Cfg) : List (Nat × AV) → List (Nat × Value) → Prop
  | nil : Parts c [] []
  | cons (i : Nat) (x : AV) (v : Value) (r : List (Nat × AV)) (s : List (Nat × Value)) : AVal c x v → Parts c r s → Parts c ((i, x) :: r) ((i, v) :: s)
theorem fill_run {c : Cfg} {places : List (Nat × Nat)} {pl : Nat → Option (Nat × Nat)} (hpl : ∀ i, pl i = places[i]?) : ∀ {parts : List (Nat × AV)} {vals : List (Nat × Value)} {cells out : List AV} {cv : List Value},
    fillA places cells parts = some out → AList c cells cv → Parts c parts vals →
    ∃ ov, Instr.fill pl cv.toArray vals = some ov.toArray ∧ AList c out ov
  | [], [], cells, out, cv, h, hc, _ => by cases h; exact ⟨cv, rfl, hc⟩
  | (i, x) :: r, (_, v) :: vr, cells, out, cv, h, hc, .cons _ _ _ _ _ e2 hr => by
    simp only [fillA] at h
    split at h
    · rename_i off size xs h1 h2
      cases hb : (Nat.beq xs.length size && Nat.ble (off + size) cells.length) with
      | false => rw [hb] at h; cases h
      | true =>
        rw [hb] at h
        simp only [cond_true] at h
        simp only [Bool.and_eq_true] at hb
        have b1 := Nat.eq_of_beq_eq_true hb.1
        have b2 := Nat.le_of_ble_eq_true hb.2
        have hv := avCells_val h2 e2
        have hl := hv.length
        have hcl := hc.length
        obtain ⟨ov, g1, g2⟩ := fill_run hpl h (putAt_val hc off hv) hr
        refine ⟨ov, ?_, g2⟩
        simp only [Instr.fill, hpl, h1]
        rw [if_neg]
        · rw [← g1]
          congr 1
          have := foldl_putAt v.cells.toList cv off 0
          rw [Nat.add_zero] at this
          rw [← this, ← Array.foldl_toList]
          simp
        · simp only [Array.length_toList] at hl
          simp
          refine ⟨by omega, by omega⟩
    · cases h

/-- The parts of a literal, off the temporaries. -/
def partsT (t : List (Nat × AV)) : List (Nat × Operand) → Option (List (Nat × AV))
  | [] => some []
  | (i, x) :: r => match evT t x, partsT t r with
    | some y, some ys => some ((i, y) :: ys)
    | _, _ => none
theorem partsT_val {c : Cfg} {N n : Nat} {t : List (Nat × AV)} {h : Heap} {a : Act} (hs : SRel c ⟨N, n, t, h⟩ a) : ∀ {ps : List (Nat × Operand)} {out : List (Nat × AV)}, partsT t ps = some out →
    Parts c out (ps.map fun p => (p.1, a.eval p.2))
  | [], out, e => by cases e; exact .nil
  | (i, x) :: r, out, e => by
    simp only [partsT] at e
    split at e
    · rename_i y ys h1 h2
      cases e
      exact .cons _ _ _ _ _ (S.ev_val hs (by rw [evT_eq]; exact h1)) (partsT_val hs h2)
    · cases e

section
variable {P : Program} {ops : Array Oper} {j : Nat} {l : List Oper} {q : S → Prop} {N n : Nat} {t : List (Nat × AV)} {h : Heap} {Q : Exit → S → Prop}
variable {d : Nat} {ty : TypeId} {pos : String} {af : Array Edge} {g : Option (Nat × Bool)} {L : Lay}

theorem run_places {P : Program} {w : World} : ∀ {fs : List Field} {r : List (Nat × Nat)}, sizesOf P fs = some r → (fs.mapM (fun f => (do pure (f.offset, ← sizeOf f.type) : Sem (Nat × Nat)))).run P w = .ok r w
  | [], r, h => by cases h; rfl
  | f :: fs, r, h => by
    simp only [sizesOf] at h
    split at h
    · rename_i i r' h1 h2
      cases h
      have := run_places (w := w) h2
      simp only [List.mapM_cons, Sem.run_bind, sizeOf, typeInfo]
      simp only [sizeOf, typeInfo] at this
      simp [h1]
      simp at this
      simp [this]
    · cases h

/-- A struct's literal. -/
theorem st_build {t1 : TypeId} {parts : Array (Nat × Operand)} {i : TI} {fs : List (Nat × Nat)} {ps : List (Nat × AV)} {out : List AV} (hL : LayOk P L) (ht : look L t1 = some i) (hk : i.k = .struct fs) (hp : partsT t parts.toList = some ps)
    (ho : fillA fs (stAll (svCells i.zero)) ps = some out) (k : OpsL P ops (j + 1) l ⟨N, n, (d, mkAgg out) :: t, h⟩ q) : OpG P ops j ⟨some d, .build t1 parts, ty, pos, af, g⟩ l ⟨N, n, t, h⟩ q :=
  OpOk.pure (fun c a hs => by
    obtain ⟨z, hz, hz'⟩ := run_zero' c.w (hL t1 i ht)
    obtain ⟨dd, _, _, h1, _, h3, _⟩ := tiOf_parts (hL t1 i ht)
    rw [hk] at h3
    obtain ⟨fa, h4, h5⟩ := tk_inv h3
    subst h4
    have hv : AList c (stAll (svCells i.zero)) z.cells.toList := stAll_val (svCells_val (svOf_val hz'))
    obtain ⟨ov, g1, g2⟩ := fill_run (pl := fun i => (fs.toArray)[i]?) (fun i => by simp) ho hv (partsT_val hs hp)
    refine ⟨.agg ov.toArray, ?_, mkAgg_val g2⟩
    have hpl := run_places (P := P) (w := c.w) h5
    have hpl' : (fa.mapM (fun f => (do pure (f.offset, ← sizeOf f.type) : Sem (Nat × Nat)))).run P c.w = .ok fs.toArray c.w := by
      rw [show fa = fa.toList.toArray from by simp, List.mapM_toArray]
      simp only [Sem.run_map]
      rw [hpl]
      rfl
    simp only [execOp, Instr.build, Sem.run_bind, hz, Result.andThen_ok, run_underlying h1, hpl']
    have g1' : Instr.fill (fun x => fs.toArray[x]?) z.cells ((parts.map fun x => (x.1, a.eval x.2)).toList) = some ov.toArray := by
      rw [← g1]; simp
    rw [g1']
    rfl) k

/-! ### literal slices -/
/-- Rows of cells, off a row of cells. -/
def chop (k : Nat) : Nat → List AV → Option (List (List SV))
  | 0, _ => some []
  | m + 1, cs => match unSt (cs.take k), chop k m (cs.drop k) with
    | some r, some rs => some (r :: rs)
    | _, _ => none
def zeros (z : List AV) : Nat → List AV
  | 0 => []
  | m + 1 => z ++ zeros z m
def placesOf (k : Nat) : Nat → Nat → List (Nat × Nat)
  | _, 0 => []
  | i, m + 1 => (i * k, k) :: placesOf k (i + 1) m
theorem placesOf_get (k : Nat) : ∀ (i m jj : Nat), (placesOf k i m)[jj]? = if jj < m then some ((i + jj) * k, k) else none
  | i, 0, jj => by simp [placesOf]
  | i, m + 1, 0 => by simp [placesOf]
  | i, m + 1, jj + 1 => by
    rw [placesOf, List.getElem?_cons_succ, placesOf_get k (i + 1) m jj]
    simp only [Nat.add_lt_add_iff_right]
    rw [show i + 1 + jj = i + (jj + 1) from by omega]

/-- The same, of places that go on for ever. -/
theorem fill_run' {c : Cfg} {kk : Nat} : ∀ {parts : List (Nat × AV)} {vals : List (Nat × Value)} {cells out : List AV} {cv : List Value} {m : Nat}, fillA (placesOf kk 0 m) cells parts = some out → AList c cells cv → Parts c parts vals →
    ∃ ov, Instr.fill (fun i => some (i * kk, kk)) cv.toArray vals = some ov.toArray ∧ AList c out ov
  | [], [], cells, out, cv, m, h, hc, _ => by cases h; exact ⟨cv, rfl, hc⟩
  | (i, x) :: r, (_, v) :: vr, cells, out, cv, m, h, hc, .cons _ _ _ _ _ e2 hr => by
    simp only [fillA] at h
    split at h
    · rename_i off size xs h1 h2
      rw [placesOf_get] at h1
      split at h1
      · cases h1
        cases hb : (Nat.beq xs.length kk && Nat.ble ((0 + i) * kk + kk) cells.length) with
        | false => rw [hb] at h; cases h
        | true =>
          rw [hb] at h
          simp only [cond_true] at h
          simp only [Bool.and_eq_true] at hb
          have b1 := Nat.eq_of_beq_eq_true hb.1
          have b2 := Nat.le_of_ble_eq_true hb.2
          have hv := avCells_val h2 e2
          have hl := hv.length
          have hcl := hc.length
          obtain ⟨ov, g1, g2⟩ := fill_run' h (putAt_val hc ((0 + i) * kk) hv) hr
          refine ⟨ov, ?_, g2⟩
          simp only [Instr.fill]
          rw [if_neg]
          · rw [← g1]
            congr 1
            have := foldl_putAt v.cells.toList cv (i * kk) 0
            rw [Nat.add_zero] at this
            rw [Nat.zero_add, ← this, ← Array.foldl_toList]
            simp
          · simp only [Array.length_toList] at hl
            rw [Nat.zero_add] at b2
            simp
            refine ⟨by omega, by omega⟩
      · cases h1
    · cases h

theorem zeros_val {c : Cfg} {z : List AV} {zv : Array Value} (h : AList c z zv.toList) : ∀ m, AList c (zeros z m) ((Array.range (m * zv.size)).map (fun x => zv[x % zv.size]!)).toList := by
  have key : ∀ m, (((Array.range (m * zv.size)).map (fun x => zv[x % zv.size]!)).toList) = (List.replicate m zv.toList).flatten := by
    intro m
    induction m with
    | zero => simp
    | succ m ih =>
      rw [List.replicate_succ', List.flatten_append, ← ih]
      simp only [Array.toList_map, Array.toList_range]
      rw [Nat.add_mul, Nat.one_mul, List.range_add, List.map_append]
      congr 1
      apply List.ext_getElem
      · simp
      · intro i h1 h2
        simp only [List.length_map, List.length_range] at h1
        simp
        rw [Nat.mod_eq_of_lt h1]
        simp [h1]
  intro m
  rw [key]
  induction m with
  | zero => exact .nil
  | succ m ih => rw [List.replicate_succ, List.flatten_cons]; exact h.append ih

theorem chop_val {c : Cfg} {b k : Nat} : ∀ (m : Nat) {cs : List AV} {vs : List Value} {off : Nat} {rows : List (List SV)}, chop k m cs = some rows → AList c cs vs → m * k ≤ cs.length →
    (∀ i v, vs[i]? = some v → c.w.cell? ⟨b, off + i, none⟩ = some v) → SRows c.St c.w k b off rows ∧ rows.length = m
  | 0, cs, vs, off, rows, h, _, _, _ => by cases h; exact ⟨.nil _ _ _, rfl⟩
  | m + 1, cs, vs, off, rows, h, hc, hl, hv => by
    simp only [chop] at h
    split at h
    · rename_i r rs h1 h2
      cases h
      rw [Nat.add_mul] at hl
      have e1 := unSt_val (hc.take k) h1
      have hr : r.length = k := by
        have a1 := e1.length
        have a2 := hc.length
        simp at a1; omega
      obtain ⟨g1, g2⟩ := chop_val m (off := off + k) h2 (hc.drop k) (by simp; omega) (fun i v e => by
        rw [List.getElem?_drop] at e
        have := hv (k + i) v e
        rw [← this]; congr 2; omega)
      refine ⟨.cons _ _ _ _ _ hr ?_ g1, by simp [g2]⟩
      have key : ∀ {xs : List SV} {us : List Value} {o : Nat}, SList c.St c.w xs us → (∀ i v, us[i]? = some v → c.w.cell? ⟨b, o + i, none⟩ = some v) → SCells c.St c.w b o xs := by
        intro xs
        induction xs with
        | nil => intro us o _ _; exact .nil _ _
        | cons x xs ih =>
          intro us o hx hu
          cases hx with
          | cons _ v _ vs hv1 hv2 => exact .cons _ _ _ v _ (by simpa using hu 0 v rfl) hv1 (ih hv2 fun i u e => by have := hu (i + 1) u (by simpa using e); rw [← this]; congr 2; omega)
      exact key e1 fun i v e => by
        rw [List.getElem?_take] at e
        split at e
        · exact hv i v e
        · cases e
    · cases h

theorem ok_lit_run {t1 e sz bytes len : Nat} {parts : Array (Nat × Operand)} {i ie : TI} {ps : List (Nat × AV)} {out : List AV} (hL : LayOk P L) (ht : look L t1 = some i) (hk : i.k = .slice e sz bytes) (hte : look L e = some ie)
    (hp : partsT t parts.toList = some ps) (hlen : (Nat.ble (len * sz) 16777216 && Nat.beq (svCells ie.zero).length sz) = true) (ho : fillA (placesOf sz 0 len) (zeros (stAll (svCells ie.zero)) len) ps = some out) {c : Cfg} {a : Act} (hs : SRel c ⟨N, n, t, h⟩ a) :
    ∃ ov, AList c out ov ∧ (Instr.buildSlice t1 len (parts.map fun x => (x.1, a.eval x.2))).run P c.w = .ok (.slice (some ⟨c.w.heap.size, 0, none⟩) len len) (c.w.alloc (.cells ov.toArray e)) := by
  simp only [Bool.and_eq_true] at hlen
  have l1 := Nat.le_of_ble_eq_true hlen.1
  have l2 := Nat.eq_of_beq_eq_true hlen.2
  obtain ⟨dd, _, _, h1, _, h3, _⟩ := tiOf_parts (hL t1 i ht)
  rw [hk] at h3
  obtain ⟨h4, j', h5, h6, h7⟩ := tk_inv h3
  subst h4
  obtain ⟨z, hz, hz'⟩ := run_zero' c.w (hL e ie hte)
  have hzv : AList c (stAll (svCells ie.zero)) z.cells.toList := stAll_val (svCells_val (svOf_val hz'))
  have hzs : z.cells.size = sz := by
    have h8 := (svCells_val (St := c.St) (w := c.w) (svOf_val hz')).length
    simp only [Array.length_toList] at h8; omega
  have hcv := zeros_val hzv len
  rw [hzs] at hcv
  obtain ⟨ov, g1, g2⟩ := fill_run' ho hcv (partsT_val hs hp)
  refine ⟨ov, g2, ?_⟩
  unfold Instr.buildSlice
  simp only [Sem.run_bind, run_underlying h1, Result.andThen_ok]
  have hsz : (sizeOf e).run P c.w = .ok sz c.w := by simp [sizeOf, typeInfo, h5, h6]
  simp only [hsz, Result.andThen_ok]
  rw [if_neg (by omega)]
  rw [Array.toArray_toList] at g1
  have hps : (parts.map fun x => (x.1, a.eval x.2)).toList = parts.toList.map fun p => (p.1, a.eval p.2) := by simp
  by_cases h0 : len * sz = 0
  · have e0 : ∀ f : Nat → Value, (Array.range (len * sz)).map f = #[] := fun f => by rw [h0]; simp
    rw [e0] at g1
    simp only [h0, if_true]
    simp only [h0] at e0
    simp only [Sem.run_bind, Sem.run_pure, Result.andThen_ok, e0, hps, g1]
    simp [newRow]
  · simp only [h0, if_false, Sem.run_bind, hz, Result.andThen_ok, Sem.run_pure, hzs, hps, g1]
    simp [newRow]

/-- A literal of stable elements, that nobody writes. -/
theorem st_lit {t1 e sz bytes len : Nat} {parts : Array (Nat × Operand)} {i ie : TI} {ps : List (Nat × AV)} {out : List AV} {rows : List (List SV)} (hL : LayOk P L) (ht : look L t1 = some i) (hk : i.k = .slice e sz bytes) (hte : look L e = some ie)
    (hp : partsT t parts.toList = some ps) (hlen : (Nat.ble (len * sz) 16777216 && Nat.beq (svCells ie.zero).length sz) = true) (ho : fillA (placesOf sz 0 len) (zeros (stAll (svCells ie.zero)) len) ps = some out)
    (hr : chop sz len out = some rows) (hol : Nat.ble (len * sz) out.length = true) (k : OpsL P ops (j + 1) l ⟨N, n, (d, .st (.sl sz rows)) :: t, h⟩ q) : OpG P ops j ⟨some d, .buildSlice t1 len parts, ty, pos, af, g⟩ l ⟨N, n, t, h⟩ q :=
  OpOk.intro fun c a hs => by
    obtain ⟨ov, g1, g2⟩ := ok_lit_run hL ht hk hte hp hlen ho hs
    refine ⟨_, _, _, .slice (some ⟨c.w.heap.size, 0, none⟩) len len, c.allocSt (.cells ov.toArray e), ?_, k, ev_allocSt hs.h, hs.n, hrel_allocSt hs.h, ?_⟩
    · simp only [execOp, Sem.run_bind, g2, Cfg.allocSt]; rfl
    · have hst : (c.allocSt (.cells ov.toArray e)).St c.w.heap.size := .inr rfl
      have hg := g1.goes (go_allocSt hs.h (.cells ov.toArray e))
      obtain ⟨r1, r2⟩ := chop_val (c := c.allocSt (.cells ov.toArray e)) (b := c.w.heap.size) (off := 0) len hr hg (Nat.le_of_ble_eq_true hol) (fun i v e' => by
        show (c.w.alloc _).cell? _ = _
        simp only [World.cell?, heap_alloc_new]
        simpa using e')
      have := SVal.sl (St := (c.allocSt (.cells ov.toArray e)).St) (w := (c.allocSt (.cells ov.toArray e)).w) sz c.w.heap.size 0 len rows hst r1 (by omega)
      rw [r2] at this
      exact .st _ _ this
/-- A literal of no elements. -/
theorem st_lit0 {t1 e sz bytes : Nat} {i ie : TI} (hL : LayOk P L) (ht : look L t1 = some i) (hk : i.k = .slice e sz bytes) (hte : look L e = some ie) (hz : Nat.beq (svCells ie.zero).length sz = true)
    (k : OpsL P ops (j + 1) l ⟨N, n, (d, .st .sl0) :: t, h⟩ q) : OpG P ops j ⟨some d, .buildSlice t1 0 #[], ty, pos, af, g⟩ l ⟨N, n, t, h⟩ q :=
  OpOk.intro fun c a hs => by
    obtain ⟨ov, g1, g2⟩ := ok_lit_run (len := 0) (parts := #[]) (ps := []) (out := []) hL ht hk hte rfl (by simp [hz, Nat.zero_mul]) rfl hs
    refine ⟨_, _, _, .slice (some ⟨c.w.heap.size, 0, none⟩) 0 0, c.allocSt (.cells ov.toArray e), ?_, k, ev_allocSt hs.h, hs.n, hrel_allocSt hs.h, .st _ _ (.sl0 _)⟩
    simp only [Array.map_empty] at g2
    simp only [execOp, Sem.run_bind, Array.map_empty, g2, Cfg.allocSt]; rfl
end
end Go.Proofs.YtohmbpcjapjkbaaGreatDoorAl
