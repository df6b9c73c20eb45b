/- The A-logic, part 6: variables: made, read, written; fields; lengths; conversions of integers. -/
import Derived.Test.YtohmbpcjapjkbaaGreatDoorAlE
set_option linter.all false
namespace Go.Proofs.YtohmbpcjapjkbaaGreatDoorAl

section
variable {P : Program} {t : TypeId} {i : TI} (w : World)
theorem run_isAgg' (h : tiOf P t = some i) : (isAgg t).run P w = .ok i.agg w := by
  obtain ⟨d, j, z, h1, _, _, _, h5, _⟩ := tiOf_parts h
  rw [h5]
  unfold isAgg
  cases d <;> simp [run_underlying h1, aggDesc]
theorem run_sizeOf' (h : tiOf P t = some i) : (sizeOf t).run P w = .ok i.size w := by
  obtain ⟨d, j, z, _, h2, _, h4, _⟩ := tiOf_parts h
  simp [sizeOf, typeInfo, h2, h4]
theorem run_zero' (h : tiOf P t = some i) : ∃ z, (zeroValue t).run P w = .ok z w ∧ svOf z = some i.zero := by
  obtain ⟨d, j, z, _, h2, _, _, _, _, h6, h7⟩ := tiOf_parts h
  exact ⟨z, by simp [zeroValue, typeInfo, h2, h6], h7⟩
end

/-- What a value's cells are. -/
def svCells : SV → List SV
  | .agg cs => cs
  | x => [x]
def stAll : List SV → List AV
  | [] => []
  | x :: xs => .st x :: stAll xs
def avCells : AV → Option (List AV)
  | .st x => some (stAll (svCells x))
  | .agg cs => some cs
  | .top => none
  | .tuple _ => none
  | x => some [x]
theorem stAll_val {c : Cfg} : ∀ {xs : List SV} {vs : List Value}, SList c.St c.w xs vs → AList c (stAll xs) vs
  | _, _, .nil => .nil
  | _, _, .cons _ _ _ _ h hs => .cons _ _ _ _ (.st _ _ h) (stAll_val hs)
theorem svCells_val {St : Nat → Prop} {w : World} {x : SV} {v : Value} (h : SVal St w x v) : SList St w (svCells x) v.cells.toList := by
  have h0 := h
  cases h <;> first | exact .cons _ _ _ _ h0 .nil | (simpa [svCells, Value.cells])
theorem avCells_val {c : Cfg} {x : AV} {cs : List AV} {v : Value} (h : avCells x = some cs) (hx : AVal c x v) : AList c cs v.cells.toList := by
  cases hx with
  | st x v hs => cases h; exact stAll_val (svCells_val hs)
  | agg cells vs hs => cases h; simpa [Value.cells] using hs
  | top => cases h
  | tuple => cases h
  | ptr id off hi => cases h; exact .cons _ _ _ _ (.ptr _ _ hi) .nil
  | eptr id k i j hi => cases h; exact .cons _ _ _ _ (.eptr _ _ _ _ hi) .nil
  | lsl id k off len cap T size a1 a2 a3 a4 => cases h; exact .cons _ _ _ _ (.lsl _ _ _ _ _ _ _ a1 a2 a3 a4) .nil
  | lsl0 id k a hi => cases h; exact .cons _ _ _ _ (.lsl0 _ _ _ hi) .nil
  | lslr id k cap T size hi h2 h3 => cases h; exact .cons _ _ _ _ (.lslr _ _ _ _ _ hi h2 h3) .nil
  | map id hi => cases h; exact .cons _ _ _ _ (.map _ hi) .nil
  | iter id hi => cases h; exact .cons _ _ _ _ (.iter _ hi) .nil
  | fn f first caps vf vc h1 h2 => cases h; exact .cons _ _ _ _ (.fn _ _ _ _ _ h1 h2) .nil
  | iface t x v h1 => cases h; exact .cons _ _ _ _ (.iface _ _ _ h1) .nil

def SV.one : SV → Bool
  | .agg _ => false
  | _ => true
def AV.one : AV → Bool
  | .st x => x.one
  | .agg _ => false
  | .tuple _ => false
  | .top => false
  | _ => true
def oneAll : List AV → Bool
  | [] => true
  | x :: xs => x.one && oneAll xs
theorem one_val {c : Cfg} {x : AV} {v : Value} (h : x.one = true) (hx : AVal c x v) : v.oneCell' = true := by
  cases hx with
  | st x v hs => cases hs <;> first | rfl | cases h
  | agg => cases h
  | top => cases h
  | tuple => cases h
  | _ => rfl
theorem oneAll_val' {c : Cfg} : ∀ {xs : List AV} {vs : List Value}, AList c xs vs → oneAll xs = true → ∀ v ∈ vs, v.oneCell' = true
  | _, _, .nil, _ => by simp
  | _, _, .cons x v xs vs hx hs, h => by
    simp only [oneAll, Bool.and_eq_true] at h
    intro u hu
    rcases List.mem_cons.1 hu with rfl | hu
    · exact one_val h.1 hx
    · exact oneAll_val' hs h.2 u hu

/-- Cells as one value. -/
def unSt : List AV → Option (List SV)
  | [] => some []
  | .st x :: xs => match unSt xs with
    | some ys => some (x :: ys)
    | none => none
  | _ :: _ => none
def mkAgg (cs : List AV) : AV :=
  match unSt cs with
  | some xs => .st (.agg xs)
  | none => .agg cs
theorem unSt_val {c : Cfg} : ∀ {cs : List AV} {vs : List Value}, AList c cs vs → ∀ {xs : List SV}, unSt cs = some xs → SList c.St c.w xs vs
  | _, _, .nil, _, h => by cases h; exact .nil
  | _, _, .cons x v cs vs hx hs, _, h => by
    cases x with
    | st y =>
      simp only [unSt] at h
      split at h
      · rename_i ys h1; cases h; exact .cons _ _ _ _ (st_inv hx) (unSt_val hs h1)
      · cases h
    | _ => cases h
theorem mkAgg_val {c : Cfg} {cs : List AV} {vs : List Value} (h : AList c cs vs) : AVal c (mkAgg cs) (.agg vs.toArray) := by
  unfold mkAgg
  split
  · rename_i xs h1; exact .st _ _ (.agg _ _ (unSt_val h h1))
  · exact .agg _ _ h

theorem AList.drop {c : Cfg} : ∀ {xs : List AV} {vs : List Value} (n : Nat), AList c xs vs → AList c (xs.drop n) (vs.drop n)
  | _, _, 0, h => by simpa using h
  | _, _, n + 1, .nil => by simpa using AList.nil
  | _, _, n + 1, .cons _ _ _ _ _ hs => by simpa using hs.drop n
theorem AList.take {c : Cfg} : ∀ {xs : List AV} {vs : List Value} (n : Nat), AList c xs vs → AList c (xs.take n) (vs.take n)
  | _, _, 0, _ => by simpa using AList.nil
  | _, _, n + 1, .nil => by simpa using AList.nil
  | _, _, n + 1, .cons _ _ _ _ h hs => by simpa using AList.cons _ _ _ _ h (hs.take n)
theorem AList.append {c : Cfg} : ∀ {xs ys : List AV} {vs us : List Value}, AList c xs vs → AList c ys us → AList c (xs ++ ys) (vs ++ us)
  | _, _, _, _, .nil, k => k
  | _, _, _, _, .cons _ _ _ _ h hs, k => .cons _ _ _ _ h (hs.append k)
theorem SList.take {St : Nat → Prop} {w : World} : ∀ {xs : List SV} {vs : List Value} (n : Nat), SList St w xs vs → SList St w (xs.take n) (vs.take n)
  | _, _, 0, _ => by simpa using SList.nil
  | _, _, n + 1, .nil => by simpa using SList.nil
  | _, _, n + 1, .cons _ _ _ _ h hs => by simpa using SList.cons _ _ _ _ h (hs.take n)

theorem add_lit (b off j : Nat) : (⟨b, off, none⟩ : Addr).add j = ⟨b, off + j, none⟩ := by
  unfold Addr.add
  split
  · rename_i h; subst h; rfl
  · rfl

/-- Reading a variable whose cells are there. -/
theorem run_loadVar' {P : Program} {t : TypeId} {i : TI} {w : World} {b off : Nat} {vs : List Value} (h : tiOf P t = some i) (hl : vs.length = i.size)
    (hc : ∀ j v, vs[j]? = some v → w.cell? ⟨b, off + j, none⟩ = some v) (h1 : i.agg = false → i.size = 1) :
    (loadVar t ⟨b, off, none⟩).run P w = .ok (if i.agg then .agg vs.toArray else vs.headD undef) w := by
  unfold loadVar
  simp only [Sem.run_bind, run_isAgg' w h, Result.andThen_ok]
  by_cases ha : i.agg = true
  · simp only [ha, if_true, Sem.run_bind, run_sizeOf' w h, Result.andThen_ok, ← hl]
    rw [run_loadCells_list w ⟨b, off, none⟩ vs (fun j v e => by rw [add_lit]; exact hc j v e)]
    rfl
  · have ha' : i.agg = false := by simpa using ha
    have hs := h1 ha'
    match vs, hl with
    | [v], _ =>
      have h0 : w.cell? ⟨b, off, none⟩ = some v := by simpa using hc 0 v rfl
      simp [ha', h0]
    | [], hl => simp at hl; omega
    | _ :: _ :: _, hl => simp at hl; omega

section
variable {P : Program} {s : S} {K : AV → Heap → Nat → Prop} {d : Option Tmp} {ty : TypeId} {pos : String} {af : Array Edge} {g : Option (Nat × Bool)}
variable {L : Lay}

theorem OpOk.intro {o : Oper} (h : ∀ c a, SRel c s a → ∃ x h' n' v c', (execOp a.eval o).run P c.w = .ok (.value v) c'.w ∧ K x h' n' ∧ Ev c s.h c' h' ∧ c'.n = n' ∧ HRel c' h' ∧ AVal c' x v) :
    OpOk P o s K := by
  intro c a hs next Q hn
  obtain ⟨x, h', n', v, c', h1, h2, h3, h4, h5, h6⟩ := h c a hs
  unfold Oper.wp
  rw [h1]
  exact hn x h' n' v c' h2 h3 h4 h5 h6
theorem OpOk.intro_skip {o : Oper} (h : ∀ c a, SRel c s a → ∃ h' n' c', (execOp a.eval o).run P c.w = .ok .skip c'.w ∧ K .top h' n' ∧ Ev c s.h c' h' ∧ c'.n = n' ∧ HRel c' h') :
    OpOk P o s K := by
  intro c a hs next Q hn
  obtain ⟨h', n', c', h1, h2, h3, h4, h5⟩ := h c a hs
  unfold Oper.wp
  rw [h1]
  exact hn .top h' n' undef c' h2 h3 h4 h5 (.top _)

/-- A new variable with given cells. -/
theorem alloc_cells {c : Cfg} {h : Heap} (hr : HRel c h) {cs : List AV} {vs : List Value} (hv : AList c cs vs) (T : TypeId) :
    HRel (c.alloc (.cells vs.toArray T)) ((c.n, .cells cs) :: h) :=
  hrel_alloc hr ⟨vs, T, (0, 0), heap_alloc_new, fun j _ hj => by omega, hv.goes (go_alloc hr _)⟩


theorem ok_alloc (hL : LayOk P L) {t : TypeId} {i : TI} (ht : look L t = some i) (k : K (.ptr s.n 0) ((s.n, .cells (stAll (svCells i.zero))) :: s.h) (s.n + 1)) :
    OpOk P ⟨d, .alloc t, ty, pos, af, g⟩ s K := .intro fun c a hs => by
  obtain ⟨z, hz, hz'⟩ := run_zero' c.w (hL t i ht)
  have hv : AList c (stAll (svCells i.zero)) z.cells.toList := stAll_val (svCells_val (svOf_val hz'))
  refine ⟨_, _, _, .pointer (some ⟨c.w.heap.size, 0, none⟩), c.alloc (.cells z.cells t), ?_, k, ?_, ?_, ?_, ?_⟩
  · simp [execOp, Instr.alloc, hz, newVar, newRow, Cfg.alloc]
  · rw [← hs.n]; exact ev_alloc hs.h
  · simp [Cfg.alloc, hs.n]
  · rw [← hs.n]; simpa using alloc_cells hs.h hv t
  · rw [← hs.n]
    have : (c.alloc (.cells z.cells t)).ι c.n = c.w.heap.size := by simp [Cfg.alloc]
    rw [← this]; exact .ptr _ _ (Nat.lt_succ_self _)

theorem ok_box {t : TypeId} {x : Operand} {y : AV} {cs : List AV} (hx : s.ev x = some y) (hc : avCells y = some cs) (k : K (.ptr s.n 0) ((s.n, .cells cs) :: s.h) (s.n + 1)) :
    OpOk P ⟨d, .box t x, ty, pos, af, g⟩ s K := .intro fun c a hs => by
  have hv := avCells_val hc (S.ev_val hs hx)
  refine ⟨_, _, _, .pointer (some ⟨c.w.heap.size, 0, none⟩), c.alloc (.cells (a.eval x).cells t), ?_, k, ?_, ?_, ?_, ?_⟩
  · simp [execOp, Instr.box, newVar, newRow, Cfg.alloc]
  · rw [← hs.n]; exact ev_alloc hs.h
  · simp [Cfg.alloc, hs.n]
  · rw [← hs.n]; simpa using alloc_cells hs.h hv t
  · rw [← hs.n]
    have : (c.alloc (.cells (a.eval x).cells t)).ι c.n = c.w.heap.size := by simp [Cfg.alloc]
    rw [← this]; exact .ptr _ _ (Nat.lt_succ_self _)

/-- The value of a stable variable whose cells are these. -/
def loadedS (i : TI) (cs : List SV) : Option AV :=
  match i.agg with
  | true => some (.st (.agg (cs.take i.size)))
  | false => match cs with
    | x :: _ => some (.st x)
    | [] => none
/-- The value of a variable whose cells are these. -/
def loaded (i : TI) (cs : List AV) : Option AV :=
  match i.agg with
  | true => some (mkAgg (cs.take i.size))
  | false => match cs with
    | x :: _ => some x
    | [] => none

theorem ok_load_ptr (hL : LayOk P L) {t : TypeId} {x : Operand} {id off : Nat} {cs : List AV} {i : TI} {y : AV} (hx : s.ev x = some (.ptr id off)) (hh : look s.h id = some (.cells cs)) (ht : look L t = some i)
    (hz : Nat.ble (off + i.size) cs.length = true) (h1 : (i.agg || Nat.beq i.size 1) = true) (hy : loaded i (cs.drop off) = some y) (k : K y s.h s.n) : OpOk P ⟨d, .load t x, ty, pos, af, g⟩ s K :=
  .pure (fun c a hs => by
    obtain ⟨vs, T, fr, hb, _, hv⟩ := hs.h.rel id _ hh trivial
    have hl := hv.length
    have hz' : off + i.size ≤ cs.length := Nat.le_of_ble_eq_true hz
    have hrun := run_loadVar' (w := c.w) (b := c.ι id) (off := off) (vs := (vs.drop off).take i.size) (hL t i ht) (by simp; omega) (fun j v e => by
      rw [List.getElem?_take] at e
      split at e
      · rw [List.getElem?_drop] at e
        simp [World.cell?, hb, e]
      · cases e) (fun ha => by rw [ha] at h1; exact Nat.eq_of_beq_eq_true (by simpa using h1))
    have hpv : a.eval x = .pointer (some ⟨c.ι id, off, none⟩) := by
      have hv0 := S.ev_val hs hx
      generalize a.eval x = p at hv0
      cases hv0; rfl
    refine ⟨if i.agg then .agg ((vs.drop off).take i.size).toArray else ((vs.drop off).take i.size).headD undef, ?_, ?_⟩
    · simp only [execOp, Instr.loadAt, hpv, Instr.sureAddr]
      simp [hrun]
    · unfold loaded at hy
      split at hy
      · rename_i ha; cases hy; rw [ha]; exact mkAgg_val ((hv.drop off).take i.size)
      · rename_i ha
        split at hy
        · rename_i z zs hz2
          cases hy
          rw [ha]
          have h2 := hv.drop off
          rw [hz2] at h2
          have hone : i.size = 1 := by rw [ha] at h1; exact Nat.eq_of_beq_eq_true (by simpa using h1)
          generalize vs.drop off = us at h2
          cases h2 with
          | cons _ v _ vs' hv1 hv2 => simpa [hone] using hv1
        · cases hy) k

theorem ok_load_sptr (hL : LayOk P L) {t : TypeId} {x : Operand} {cs : List SV} {i : TI} {y : AV} (hx : s.ev x = some (.st (.sptr cs))) (ht : look L t = some i)
    (hz : Nat.ble i.size cs.length = true) (h1 : (i.agg || Nat.beq i.size 1) = true) (hy : loadedS i cs = some y) (k : K y s.h s.n) :
    OpOk P ⟨d, .load t x, ty, pos, af, g⟩ s K :=
  .pure (fun c a hs => by
    have hv := st_inv (S.ev_val hs hx)
    generalize hp : a.eval x = p at hv
    cases hv with
    | sptr b off cells hb hc =>
      obtain ⟨vs, hvs, hcell⟩ := hc.list
      have hl := hvs.length
      have hz' : i.size ≤ cs.length := Nat.le_of_ble_eq_true hz
      have hrun := run_loadVar' (w := c.w) (b := b) (off := off) (vs := vs.take i.size) (hL t i ht) (by simp; omega) (fun j v e => by
        rw [List.getElem?_take] at e
        split at e
        · exact hcell j v e
        · cases e) (fun ha => by rw [ha] at h1; exact Nat.eq_of_beq_eq_true (by simpa using h1))
      refine ⟨if i.agg then .agg (vs.take i.size).toArray else (vs.take i.size).headD undef, ?_, ?_⟩
      · simp only [execOp, Instr.loadAt, hp, Instr.sureAddr]
        simp [hrun]
      · unfold loadedS at hy
        split at hy
        · rename_i ha; cases hy; rw [ha]; exact .st _ _ (.agg _ _ (hvs.take _))
        · rename_i ha
          split at hy
          · cases hy
            rw [ha]
            have hone : i.size = 1 := by rw [ha] at h1; exact Nat.eq_of_beq_eq_true (by simpa using h1)
            cases hvs with
            | cons _ v _ vs' hv1 hv2 => simpa [hone] using AVal.st _ _ hv1
          · cases hy) k

/-- A field's place. -/
def offOf (i : TI) (f : Nat) : Option Nat :=
  match i.k with
  | .struct fs => match fs[f]? with
    | some (o, z) => cond (Nat.beq z 0) none (some o)
    | none => none
  | _ => none
theorem sizesOf_get {P : Program} : ∀ {fs : List Field} {r : List (Nat × Nat)}, sizesOf P fs = some r → ∀ (f : Nat) o z, r[f]? = some (o, z) →
    ∃ fd j, fs[f]? = some fd ∧ P.info? fd.type = some j ∧ fd.offset = o ∧ j.size = z
  | [], r, h, f, o, z, e => by cases h; simp at e
  | fd :: fs, r, h, f, o, z, e => by
    simp only [sizesOf] at h
    split at h
    · rename_i j r' h1 h2
      cases h
      cases f with
      | zero => simp at e; exact ⟨fd, j, rfl, h1, e.1, e.2⟩
      | succ f => simp at e; simpa using sizesOf_get h2 f o z e
    · cases h
theorem run_fieldAt {t : TypeId} {i : TI} {f o : Nat} (h : tiOf P t = some i) (ho : offOf i f = some o) (b off : Nat) (w : World) :
    (Instr.fieldAt t (.pointer (some ⟨b, off, none⟩)) f).run P w = .ok (.pointer (some ⟨b, off + o, none⟩)) w := by
  obtain ⟨dd, j, z, h1, _, h3, _⟩ := tiOf_parts h
  unfold offOf at ho
  split at ho
  · rename_i fs hk
    split at ho
    · rename_i o' z' hf
      cases hz : Nat.beq z' 0 with
      | true => rw [hz] at ho; cases ho
      | false =>
        rw [hz] at ho; cases ho
        rw [hk] at h3
        cases dd with
        | struct fields =>
          simp only [tkOf] at h3
          split at h3
          · rename_i r hr
            cases h3
            obtain ⟨fd, j', g1, g2, g3, g4⟩ := sizesOf_get hr f _ _ hf
            have g1' : fields[f]? = some fd := by simpa using g1
            have hne : j'.size ≠ 0 := by
              rw [g4]; intro e; rw [e] at hz; cases hz
            simp [Instr.fieldAt, run_underlying h1, g1', Instr.sureAddr, fieldPlace, sizeOf, typeInfo, g2, hne, add_lit, g3]
          · cases h3
        | _ => simp only [tkOf] at h3; first | (cases h3; done) | (split at h3 <;> cases h3)
    · cases ho
  · cases ho

theorem ok_field_ptr (hL : LayOk P L) {t : TypeId} {x : Operand} {f id off o : Nat} {i : TI} (hx : s.ev x = some (.ptr id off)) (ht : look L t = some i) (ho : offOf i f = some o) (k : K (.ptr id (off + o)) s.h s.n) :
    OpOk P ⟨d, .fieldAddr t x f, ty, pos, af, g⟩ s K :=
  .pure (fun c a hs => by
    have hv := S.ev_val hs hx
    generalize hp : a.eval x = p at hv
    cases hv with
    | ptr _ _ hi => exact ⟨_, by simp only [execOp, hp]; simp [run_fieldAt (hL t i ht) ho], .ptr _ _ hi⟩) k
theorem ok_field_eptr (hL : LayOk P L) {t : TypeId} {x : Operand} {f id kk ii jj o : Nat} {i : TI} (hx : s.ev x = some (.eptr id kk ii jj)) (ht : look L t = some i) (ho : offOf i f = some o) (k : K (.eptr id kk ii (jj + o)) s.h s.n) :
    OpOk P ⟨d, .fieldAddr t x f, ty, pos, af, g⟩ s K :=
  .pure (fun c a hs => by
    have hv := S.ev_val hs hx
    generalize hp : a.eval x = p at hv
    cases hv with
    | eptr _ _ _ _ hi =>
      refine ⟨.pointer (some ⟨c.ι id, ii * kk + (jj + o), none⟩), ?_, .eptr _ _ _ _ hi⟩
      simp only [execOp, hp]
      simp [run_fieldAt (hL t i ht) ho, Nat.add_assoc]) k
theorem ok_field_sptr (hL : LayOk P L) {t : TypeId} {x : Operand} {f o : Nat} {cs : List SV} {i : TI} (hx : s.ev x = some (.st (.sptr cs))) (ht : look L t = some i) (ho : offOf i f = some o) (k : K (.st (.sptr (cs.drop o))) s.h s.n) :
    OpOk P ⟨d, .fieldAddr t x f, ty, pos, af, g⟩ s K :=
  .pure (fun c a hs => by
    have hv := st_inv (S.ev_val hs hx)
    generalize hp : a.eval x = p at hv
    cases hv with
    | sptr b off _ hb hc => exact ⟨_, by simp only [execOp, hp]; simp [run_fieldAt (hL t i ht) ho], .st _ _ (.sptr _ _ _ hb (hc.drop o))⟩) k

end
end Go.Proofs.YtohmbpcjapjkbaaGreatDoorAl
