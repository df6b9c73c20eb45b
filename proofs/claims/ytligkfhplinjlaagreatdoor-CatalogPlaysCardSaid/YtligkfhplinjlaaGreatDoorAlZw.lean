/- The A-logic: arrays whose rows hold arrays of ours. -/
import Derived.Test.YtligkfhplinjlaaGreatDoorAlZe
import Derived.Test.YtligkfhplinjlaaGreatDoorAlZa
set_option linter.all false
namespace Go.Proofs.YtligkfhplinjlaaGreatDoorAl
theorem ACells.get {c : Cfg} : ∀ {b off : Nat} {xs : List AV}, ACells c b off xs → ∀ (p : Nat) x, xs[p]? = some x → ∃ v, c.w.cell? ⟨b, off + p, none⟩ = some v ∧ AVal c x v
  | _, _, _, .cons b off x v xs h1 h2 h3, 0, x', e => by simp at e; subst e; exact ⟨v, by simpa using h1, h2⟩
  | _, _, _, .cons b off x v xs h1 h2 h3, p + 1, x', e => by
    obtain ⟨u, g1, g2⟩ := h3.get p x' (by simpa using e)
    exact ⟨u, by rw [← g1]; congr 2; omega, g2⟩
theorem ACells.of_get {c : Cfg} {b : Nat} : ∀ {xs : List AV} {off : Nat}, (∀ (p : Nat) x, xs[p]? = some x → ∃ v, c.w.cell? ⟨b, off + p, none⟩ = some v ∧ AVal c x v) → ACells c b off xs
  | [], _, _ => .nil _ _
  | x :: xs, off, h => by
    obtain ⟨v, h1, h2⟩ := h 0 x rfl
    exact .cons _ _ _ v _ (by simpa using h1) h2 (ACells.of_get fun p y e => by
      obtain ⟨v, g1, g2⟩ := h (p + 1) y (by simpa using e)
      exact ⟨v, by rw [← g1]; congr 2; omega, g2⟩)
theorem stAll_get : ∀ (xs : List SV) (p : Nat), (stAll xs)[p]? = xs[p]?.map .st
  | [], p => by simp [stAll]
  | x :: xs, 0 => by simp [stAll]
  | x :: xs, p + 1 => by simpa [stAll] using stAll_get xs p
theorem stAll_len : ∀ xs : List SV, (stAll xs).length = xs.length
  | [] => rfl
  | _ :: xs => by simp [stAll, stAll_len xs]
theorem SCells.st {c : Cfg} {b off : Nat} {xs : List SV} (h : SCells c.St c.w b off xs) : ACells c b off (stAll xs) :=
  .of_get fun p x e => by
    rw [stAll_get] at e
    cases hx : xs[p]? with
    | none => rw [hx] at e; cases e
    | some y =>
      rw [hx] at e; cases e
      obtain ⟨v, g1, g2⟩ := h.get p y hx
      exact ⟨v, g1, .st _ _ g2⟩
section
variable {P : Program} {ops : Array Oper} {j : Nat} {l : List Oper} {q : S → Prop} {N n : Nat} {t : Tm} {h : Heap} {L : Lay}
variable {d : Nat} {ty : TypeId} {pos : String} {af : Array Edge} {g : Option (Nat × Bool)}
/-- An array of stable rows, seen as one whose rows may hold anything. -/
theorem Wk.toR {k : Nat} {rows : List (List SV)} (id : Nat) (hl : look h id = some (.arr k rows)) (hne : rows ≠ []) {h1 : Heap} (e1 : del h id = h1) : Wk ⟨N, n, t, h⟩ ⟨N, n, t, (id, .rows k (rows.map stAll)) :: h1⟩ := by
  subst e1
  intro c a hs
  have key : ∀ i o, look ((id, AO.rows k (rows.map stAll)) :: del h id) i = some o → (i = id ∧ o = .rows k (rows.map stAll)) ∨ (i ≠ id ∧ look h i = some o) := fun i o e => by
    rw [look_cons, look_del] at e
    split at e
    · rename_i hi; cases e; exact .inl ⟨hi.symm, rfl⟩
    · rename_i hi
      exact .inr ⟨fun e' => hi e'.symm, by simpa [hi] using e⟩
  have old : ∀ i o, look ((id, AO.rows k (rows.map stAll)) :: del h id) i = some o → o.real → ∃ o', look h i = some o' ∧ o'.real := fun i o e r => by
    rcases key i o e with ⟨rfl, rfl⟩ | ⟨_, h2⟩
    · exact ⟨_, hl, hne⟩
    · exact ⟨o, h2, r⟩
  refine ⟨c, ⟨hs.defers, hs.n, hs.t, ?_⟩, ⟨rfl, rfl, fun _ hb => hb, fun b hb => .inl hb, fun i o e r => ?_⟩⟩
  · refine ⟨fun i o e => ?_, fun i o e r => ?_, fun i o e r => ?_, fun i o e r => ?_, fun i i' o o' e r e' r' => ?_, hs.h.st, fun i b o e => ?_⟩
    · rcases key i o e with ⟨rfl, rfl⟩ | ⟨_, h2⟩
      · exact hs.h.lt _ _ hl
      · exact hs.h.lt _ _ h2
    · obtain ⟨o', g1, g2⟩ := old i o e r; exact hs.h.blk i o' g1 g2
    · obtain ⟨o', g1, g2⟩ := old i o e r; exact hs.h.own i o' g1 g2
    · rcases key i o e with ⟨rfl, rfl⟩ | ⟨_, h2⟩
      · obtain ⟨cs, T, fr, g1, g2, g3, g4⟩ := hs.h.rel _ _ hl hne
        refine ⟨cs, T, fr, g1, g2, by rw [List.length_map]; exact g3, fun r row e' => ?_⟩
        rw [List.getElem?_map] at e'
        cases hr : rows[r]? with
        | none => rw [hr] at e'; cases e'
        | some row0 =>
          rw [hr] at e'; cases e'
          obtain ⟨u1, u2⟩ := g4.get r row0 hr
          rw [Nat.zero_add] at u2
          exact ⟨by rw [stAll_len]; exact u1, u2.st⟩
      · exact hs.h.rel i o h2 r
    · obtain ⟨p, g1, g2⟩ := old i o e r
      obtain ⟨p', g3, g4⟩ := old i' o' e' r'
      exact hs.h.inj i i' p p' g1 g2 g3 g4
    · rcases key i _ e with ⟨_, h1⟩ | ⟨_, h2⟩
      · cases h1
      · exact hs.h.fact i b o h2
  · obtain ⟨o', g1, g2⟩ := old i o e r
    exact ⟨i, o', g1, g2, rfl⟩
theorem ACells.list {c : Cfg} : ∀ {b off : Nat} {xs : List AV}, ACells c b off xs → ∃ vs, AList c xs vs ∧ ∀ i v, vs[i]? = some v → c.w.cell? ⟨b, off + i, none⟩ = some v
  | _, _, _, .nil b off => ⟨[], .nil, by simp⟩
  | _, _, _, .cons b off x v xs hc h hs => by
    obtain ⟨vs, h1, h2⟩ := hs.list
    refine ⟨v :: vs, .cons _ _ _ _ h h1, fun i u e => ?_⟩
    cases i with
    | zero => simp at e; subst e; simpa using hc
    | succ i =>
      have := h2 i u (by simpa using e)
      rw [← this]; congr 2; omega
/-- Read through a pointer to an element, whatever the rows hold. -/
theorem st_loadR {t1 : TypeId} {x : Operand} {id kk ii jj : Nat} {rows : List (List AV)} {i : TI} {y : AV} (row : List AV) (hL : LayOk P L) (hx : evT t x = some (.eptr id kk ii jj)) (hh : look h id = some (.rows kk rows)) (ht : look L t1 = some i)
    (hr : rows[ii]? = some row) (hz : Nat.ble (jj + i.size) row.length = true) (h1 : (i.agg || Nat.beq i.size 1) = true) (hy : loaded i (row.drop jj) = some y)
    (k : OpsL P ops (j + 1) l ⟨N, n, (d, y) :: t, h⟩ q) : OpG P ops j ⟨some d, .load t1 x, ty, pos, af, g⟩ l ⟨N, n, t, h⟩ q :=
  OpOk.pure (fun c a hs => by
    obtain ⟨cs, T, fr, hb, _, hlen, hrr⟩ := hs.h.rel id _ hh trivial
    obtain ⟨r1, r2⟩ := hrr ii row hr
    obtain ⟨vs, hv, hcell⟩ := r2.list
    have hl := hv.length
    have hz' := Nat.le_of_ble_eq_true hz
    have hrun := run_loadVar' (P := P) (w := c.w) (b := c.ι id) (off := ii * kk + jj) (vs := (vs.drop jj).take i.size) (hL t1 i ht) (by simp; omega) (fun j v e => by
      rw [List.getElem?_take] at e
      split at e
      · rw [List.getElem?_drop] at e
        have := hcell (jj + j) v e
        rw [← this]; congr 2; omega
      · cases e) (fun ha => by rw [ha] at h1; exact Nat.eq_of_beq_eq_true (by simpa using h1))
    have hpv : a.eval x = .pointer (some ⟨c.ι id, ii * kk + jj, none⟩) := by
      have hv0 := S.ev_val hs (x := x) (by rw [evT_eq]; exact hx)
      generalize a.eval x = p at hv0
      cases hv0; rfl
    refine ⟨if i.agg then .agg ((vs.drop jj).take i.size).toArray else ((vs.drop jj).take i.size).headD undef, ?_, ?_⟩
    · simp only [execOp, Instr.loadAt, hpv, Instr.sureAddr]
      simp [hrun]
    · unfold loaded at hy
      split at hy
      · rename_i ha; cases hy; rw [ha]; exact mkAgg_val ((hv.drop jj).take i.size)
      · rename_i ha
        split at hy
        · rename_i z zs hz2
          cases hy
          rw [ha]
          have h2 := hv.drop jj
          rw [hz2] at h2
          have hone : i.size = 1 := by rw [ha] at h1; exact Nat.eq_of_beq_eq_true (by simpa using h1)
          generalize vs.drop jj = us at h2
          cases h2 with
          | cons _ v _ vs' hv1 hv2 => simpa [hone] using hv1
        · cases hy) k
/-- A store into an array of ours, whatever is stored. -/
theorem st_storeR {t1 : TypeId} {x y : Operand} {id kk ii jj : Nat} {rows : List (List AV)} {row xs : List AV} {i : TI} {z : AV} {h' : Heap} (hL : LayOk P L) (hx : evT t x = some (.eptr id kk ii jj)) (hy : evT t y = some z) (hh : look h id = some (.rows kk rows)) (hr : rows[ii]? = some row)
    (ht : look L t1 = some i) (hz : avCells z = some xs) (h1 : (Nat.beq xs.length i.size && Nat.ble (jj + i.size) row.length && oneAll xs) = true) (hdel : frc (del h id) some = some h')
    (k : OpsL P ops (j + 1) l ⟨N, n, t, (id, .rows kk (rows.set ii (putAt row jj xs))) :: h'⟩ q) : OpG P ops j ⟨none, .store t1 x y, ty, pos, af, g⟩ l ⟨N, n, t, h⟩ q := by
  rw [frc_eq] at hdel; cases hdel
  have k' : OpsL P ops (j + 1) l ⟨N, n, t, (id, .rows kk (rows.set ii (putAt row jj xs))) :: h⟩ q := OpsL.same (fun id' => by
    rw [look_cons, look_cons, look_del]
    split <;> rfl) k
  refine OpOk.intro_skip fun c a hs => ?_
  simp only [Bool.and_eq_true] at h1
  obtain ⟨⟨ha, hb⟩, hc⟩ := h1
  have ha := Nat.eq_of_beq_eq_true ha
  have hb := Nat.le_of_ble_eq_true hb
  have hlt2 : ii < rows.length := by
    rcases Nat.lt_or_ge ii rows.length with h' | h'
    · exact h'
    · simp [List.getElem?_eq_none h'] at hr
  have hreal : (AO.rows kk rows).real := trivial
  obtain ⟨cs, T, fr, hblk, hfr, hlen, hrows⟩ := hs.h.rel id _ hh hreal
  obtain ⟨hrl, hrc⟩ := hrows ii row hr
  have hyv := S.ev_val hs (x := y) (by rw [evT_eq]; exact hy)
  have hzv := avCells_val hz hyv
  have hzl := hzv.length
  have hpv : a.eval x = .pointer (some ⟨c.ι id, ii * kk + jj, none⟩) := by
    have hv0 := S.ev_val hs (x := x) (by rw [evT_eq]; exact hx)
    generalize a.eval x = p at hv0
    cases hv0; rfl
  have hmul : (ii + 1) * kk ≤ rows.length * kk := Nat.mul_le_mul_right kk hlt2
  rw [Nat.add_mul, Nat.one_mul] at hmul
  have hfit : ii * kk + jj + 0 + (a.eval y).cells.toList.length ≤ cs.toList.length := by
    rw [hzl, ha, Array.length_toList]; omega
  obtain ⟨w', g1, g2, g3⟩ := run_storeCells_blk (P := P) (a.eval y).cells.toList 0 (ii * kk + jj) cs.toList c.w (by simpa using hblk) (by simpa using hfr) hfit (oneAll_val' (c := c) hzv hc)
  rw [Nat.add_zero] at g2 g3
  have hlt : c.ι id < c.w.heap.size := hs.h.blk id _ hh hreal
  generalize hcs' : (putAt cs.toList (ii * kk + jj) (a.eval y).cells.toList).toArray = cs' at g2 g3
  have hsz' : cs'.size = cs.size := by rw [← hcs']; simp [putAt_length]
  have hw' : w' = setBlk c.w (c.ι id) (.cells cs' T fr) := by
    rcases g2 with g2 | g2
    · rw [g2] at g3
      subst g2
      have e : c.w.heap[c.ι id] = .cells cs' T fr := by simpa [Array.getElem?_eq_getElem hlt] using g3
      unfold setBlk
      rw [← e]
      have e2 : c.w.heap.setIfInBounds (c.ι id) c.w.heap[c.ι id] = c.w.heap := by
        apply Array.ext_getElem?
        intro j
        rw [Array.getElem?_setIfInBounds]
        split
        · rename_i hj; subst hj; simp [hlt]
        · rfl
      rw [e2]
    · exact g2
  have hsh : ∀ sh, c.w.shape? (c.ι id) = some sh → (setBlk c.w (c.ι id) (.cells cs' T fr)).shape? (c.ι id) = some sh := fun sh e => by
    rw [shape_of hblk] at e
    rw [shape_of (setBlk_same hlt), ← e, hsz']
  refine ⟨_, _, c.set (c.ι id) (.cells cs' T fr), ?_, k', ev_set hs.h hh hreal hsh, hs.n, hrel_set hs.h hh hreal hsh ?_⟩
  · simp only [execOp, Instr.storeAt, hpv, Instr.sureAddr]
    have e1 : (a.eval y).cells.size = i.size := by
      have : (a.eval y).cells.toList.length = xs.length := hzl
      simpa [ha] using this
    simp only [storeVar, Cfg.set]
    simp [run_sizeOf' _ (hL t1 i ht), e1, g1, hw']
  · refine ⟨cs', T, fr, setBlk_same hlt, by rw [hsz']; exact hfr, by rw [hsz', List.length_set]; exact hlen, ?_⟩
    have hgo := go_set hs.h hh hreal hsh
    have hcell : ∀ p v, cs'[p]? = some v → (c.set (c.ι id) (.cells cs' T fr)).w.cell? ⟨c.ι id, p, none⟩ = some v := fun p v e => by
      show (setBlk c.w (c.ι id) (.cells cs' T fr)).cell? _ = _
      simp [World.cell?, setBlk_same hlt, e]
    have hold : ∀ p, (¬ (ii * kk + jj ≤ p ∧ p < ii * kk + jj + xs.length)) → ∀ v, c.w.cell? ⟨c.ι id, p, none⟩ = some v → (c.set (c.ι id) (.cells cs' T fr)).w.cell? ⟨c.ι id, p, none⟩ = some v := fun p hp v e => by
      simp [World.cell?, hblk] at e
      refine hcell p v ?_
      have hps : p < cs.size := by
        rcases Nat.lt_or_ge p cs.size with h' | h'
        · exact h'
        · simp [Array.getElem?_eq_none h'] at e
      rw [← hcs', List.getElem?_toArray, putAt_get _ _ _ _ (by simpa using hps), if_neg (by rw [hzl]; exact hp)]
      simpa using e
    intro r row' e
    rw [List.getElem?_set] at e
    split at e
    · rename_i hri
      subst hri
      simp only [hlt2, if_true, Option.some.injEq] at e
      subst e
      refine ⟨by rw [putAt_length]; exact hrl, ACells.of_get fun p x ep => ?_⟩
      have hp : p < row.length := by
        rcases Nat.lt_or_ge p row.length with h' | h'
        · exact h'
        · rw [List.getElem?_eq_none (by rw [putAt_length]; exact h')] at ep; cases ep
      rw [putAt_get _ _ _ _ hp] at ep
      split at ep
      · rename_i hin
        obtain ⟨v, u1, u2⟩ : ∃ v, (a.eval y).cells.toList[p - jj]? = some v ∧ AVal c x v := hzv.get _ _ ep
        refine ⟨v, hcell _ _ ?_, u2.goes hgo⟩
        rw [← hcs', List.getElem?_toArray, putAt_get _ _ _ _ (by rw [Array.length_toList]; omega), if_pos (by rw [hzl]; omega), show ii * kk + p - (ii * kk + jj) = p - jj by omega]
        exact u1
      · rename_i hin
        obtain ⟨v, u1, u2⟩ := hrc.get p x ep
        exact ⟨v, hold _ (by omega) v u1, u2.goes hgo⟩
    · rename_i hri
      obtain ⟨r1, r2⟩ := hrows r row' e
      refine ⟨r1, ACells.of_get fun p x ep => ?_⟩
      obtain ⟨v, u1, u2⟩ := r2.get p x ep
      have hp : p < kk := by
        rw [← r1]
        rcases Nat.lt_or_ge p row'.length with h' | h'
        · exact h'
        · simp [List.getElem?_eq_none h'] at ep
      refine ⟨v, hold _ ?_ v u1, u2.goes hgo⟩
      rcases Nat.lt_or_gt_of_ne hri with h' | h'
      · have := Nat.mul_le_mul_right kk h'
        rw [Nat.succ_mul] at this
        omega
      · have := Nat.mul_le_mul_right kk h'
        rw [Nat.succ_mul] at this
        omega
/-- Row by row: what the rows are once an array is frozen. -/
def FrzRow (id k : Nat) (rows : List (List SV)) (rs2 : List (List AV)) (rows2 : List (List SV)) : Prop :=
  rows2.length = rs2.length ∧ ∀ (r : Nat) row', rows2[r]? = some row' → ∃ rv, rs2[r]? = some rv ∧ row'.length = rv.length ∧ ∀ (p : Nat) x, row'[p]? = some x → ∃ y, rv[p]? = some y ∧ y.occ id (whole k rows.length) ∧ y.frz id k rows = .st x
/-- An array is frozen whose slices lie in another one's rows: those rows are stable again. -/
theorem Wk.frzR {k k2 : Nat} {rows rows2 : List (List SV)} {rs2 : List (List AV)} (id id2 : Nat) (lt : List Nat) (hl : look h id = some (.arr k rows)) (hl2 : look h id2 = some (.rows k2 rs2)) (hF : FrzRow id k rows rs2 rows2)
    {t1 t2 : Tm} {h1 h2 : Heap} (e1 : keepL lt t = t1) (e2 : del (del h id) id2 = h1) (ht : occT id (whole k rows.length) t1) (hh : occH id (whole k rows.length) h1) (e3 : frzT id k rows t1 = t2) (e4 : frzH id k rows h1 = h2) :
    Wk ⟨N, n, t, h⟩ ⟨N, n, t2, (id2, .arr k2 rows2) :: h2⟩ := by
  subst e1 e2 e3 e4
  intro c a hs
  have hr : rows ≠ [] → SRows (c.froze id rows).St c.w k (c.ι id) 0 rows := fun hne => by
    obtain ⟨cs, T, fr, g1, g2, g3, g4⟩ := hs.h.rel id _ hl hne
    exact g4.goes (go_froze c id rows).st rfl
  have hne : id ≠ id2 := fun e => by rw [e, hl2] at hl; cases hl
  have dom : ∀ i o, look ((id2, AO.arr k2 rows2) :: frzH id k rows (del (del h id) id2)) i = some o → (i = id2 ∧ o = .arr k2 rows2) ∨ (i ≠ id ∧ i ≠ id2 ∧ ∃ o', look h i = some o' ∧ o = o'.frz id k rows ∧ o'.occ id (whole k rows.length)) := fun i o e => by
    rw [look_cons] at e
    split at e
    · rename_i hi; cases e; exact .inl ⟨hi.symm, rfl⟩
    · rename_i hi
      obtain ⟨y, g1, g2⟩ := look_frzH e
      have g3 := occH_look hh i y g1
      rw [look_del] at g1
      split at g1
      · cases g1
      · rw [look_del] at g1
        split at g1
        · cases g1
        · rename_i hi2
          exact .inr ⟨fun x => hi2 x.symm, fun x => hi x.symm, y, g1, g2, g3⟩
  have old : ∀ i o, look ((id2, AO.arr k2 rows2) :: frzH id k rows (del (del h id) id2)) i = some o → o.real → i ≠ id ∧ ∃ o', look h i = some o' ∧ o'.real := fun i o e r => by
    rcases dom i o e with ⟨rfl, rfl⟩ | ⟨g0, _, y, g1, rfl, _⟩
    · exact ⟨hne.symm, _, hl2, trivial⟩
    · exact ⟨g0, y, g1, real_frz.1 r⟩
  refine ⟨c.froze id rows, ⟨hs.defers, hs.n, ⟨hs.t.size, fun i x e => ?_⟩, ?_⟩, ⟨rfl, rfl, fun _ hb => .inl hb, fun b hb => ?_, fun i o e r => ?_⟩⟩
  · obtain ⟨y, g1, rfl⟩ := look_frzT e
    obtain ⟨v, g2, g3⟩ := hs.t.get i y ((keepL_sub lt t).look i y g1)
    exact ⟨v, g2, g3.frz hr (occT_look ht i y g1)⟩
  · refine ⟨fun i o e => ?_, fun i o e r => ?_, fun i o e r hb => ?_, fun i o e r => ?_, fun i i' o o' e r e' r' hij => ?_, fun b hb => ?_, fun i b o e => ?_⟩
    · rcases dom i o e with ⟨rfl, rfl⟩ | ⟨_, _, y, g1, _⟩
      · exact hs.h.lt _ _ hl2
      · exact hs.h.lt i y g1
    · obtain ⟨_, y, g1, g2⟩ := old i o e r; exact hs.h.blk i y g1 g2
    · obtain ⟨g0, y, g1, g2⟩ := old i o e r
      rcases hb with hb | ⟨hne', hb⟩
      · exact hs.h.own i y g1 g2 hb
      · exact g0 (hs.h.inj i id y _ g1 g2 hl hne' hb)
    · rcases dom i o e with ⟨rfl, rfl⟩ | ⟨_, _, y, g1, rfl, g2⟩
      · obtain ⟨cs, T, fr, u1, u2, u3, u4⟩ := hs.h.rel _ _ hl2 trivial
        refine ⟨cs, T, fr, u1, u2, by rw [hF.1]; exact u3, SRows.mk fun r' row' er => ?_⟩
        obtain ⟨rv, v1, v2, v3⟩ := hF.2 r' row' er
        obtain ⟨w1, w2⟩ := u4 r' rv v1
        refine ⟨by rw [v2]; exact w1, SCells.of_get fun p x ep => ?_⟩
        obtain ⟨y, y1, y2, y3⟩ := v3 p x ep
        obtain ⟨v, z1, z2⟩ := w2.get p y y1
        have z3 := z2.frz hr y2
        rw [y3] at z3
        exact ⟨v, by rw [Nat.zero_add]; exact z1, st_inv z3⟩
      · exact (hs.h.rel i y g1 (real_frz.1 r)).frz hr g2
    · obtain ⟨_, y, g1, g2⟩ := old i o e r
      obtain ⟨_, y', g1', g2'⟩ := old i' o' e' r'
      exact hs.h.inj i i' y y' g1 g2 g1' g2' hij
    · rcases hb with hb | ⟨hne', hb⟩
      · exact hs.h.st b hb
      · have h0 : b = c.ι id := hb
        rw [h0]; exact hs.h.blk id _ hl hne'
    · rcases dom i _ e with ⟨_, h1⟩ | ⟨_, _, y, g1, e1, _⟩
      · cases h1
      · cases y <;> cases e1
        exact ⟨.inl (hs.h.fact i b o g1).1, (hs.h.fact i b o g1).2⟩
  · rcases hb with hb | ⟨hne', hb⟩
    · exact .inl hb
    · exact .inr ⟨id, _, hl, hne', hb.symm⟩
  · obtain ⟨_, y, g1, g2⟩ := old i o e r
    exact ⟨i, y, g1, g2, rfl⟩
/-- One cell of one row holds the array's slice. -/
theorem FrzRow.one {id k : Nat} {rows rows0 : List (List SV)} {ii jj : Nat} {row : List SV} (hr : rows0[ii]? = some row) :
    FrzRow id k rows ((rows0.map stAll).set ii (putAt (stAll row) jj [.lsl id k 0 rows.length])) (rows0.set ii (putAt row jj [.sl k rows])) := by
  have hlt : ii < rows0.length := by
    rcases Nat.lt_or_ge ii rows0.length with h' | h'
    · exact h'
    · simp [List.getElem?_eq_none h'] at hr
  have hst : ∀ (x : SV), (AV.st x).occ id (whole k rows.length) ∧ (AV.st x).frz id k rows = .st x := fun x => ⟨trivial, rfl⟩
  refine ⟨by simp, fun r row' e => ?_⟩
  rw [List.getElem?_set] at e
  rw [List.getElem?_set]
  split at e
  · rename_i hri
    subst hri
    cases e
    rw [if_pos rfl, if_pos (by simpa using hlt)]
    refine ⟨_, rfl, by rw [putAt_length, putAt_length, stAll_len], fun p x ep => ?_⟩
    have hp : p < row.length := by
      rcases Nat.lt_or_ge p row.length with h' | h'
      · exact h'
      · rw [List.getElem?_eq_none (by rw [putAt_length]; exact h')] at ep; cases ep
    rw [putAt_get _ _ _ _ hp] at ep
    rw [putAt_get _ _ _ _ (by rw [stAll_len]; exact hp)]
    split at ep
    · rename_i hin
      simp only [List.length_cons, List.length_nil] at hin
      rw [if_pos (by simp only [List.length_cons, List.length_nil]; omega)]
      have e0 : p - jj = 0 := by omega
      rw [e0] at ep ⊢
      cases ep
      refine ⟨_, rfl, ?_, ?_⟩
      · simp only [AV.occ, Nat.beq_refl, cond_true]; exact ⟨rfl, rfl, rfl⟩
      · simp only [AV.frz, Nat.beq_refl, cond_true]
    · rename_i hin
      rw [if_neg (by simpa using hin), stAll_get, ep]
      exact ⟨_, rfl, hst x⟩
  · rename_i hri
    rw [if_neg hri, List.getElem?_map, e]
    refine ⟨_, rfl, (stAll_len _).symm, fun p x ep => ?_⟩
    rw [stAll_get, ep]
    exact ⟨_, rfl, hst x⟩
end
end Go.Proofs.YtligkfhplinjlaaGreatDoorAl
namespace Go.Proofs.YtligkfhplinjlaaGreatDoorAl
section
variable {P : Program} {N n : Nat} {t : Tm} {h : Heap}
/-- Less is said of an array's rows. -/
theorem Wk.leA {k : Nat} {rows rows' : List (List SV)} (id : Nat) (hl : look h id = some (.arr k rows)) (hlen : rows'.length = rows.length)
    (hle : ∀ (i : Nat) r', rows'[i]? = some r' → ∃ r, rows[i]? = some r ∧ r'.length = r.length ∧ ∀ (p : Nat) y, r'[p]? = some y → ∃ x, r[p]? = some x ∧ ∀ St w v, SVal St w x v → SVal St w y v) {h1 : Heap} (e1 : del h id = h1) : Wk ⟨N, n, t, h⟩ ⟨N, n, t, (id, .arr k rows') :: h1⟩ := by
  subst e1
  intro c a hs
  have key : ∀ i o, look ((id, AO.arr k rows') :: del h id) i = some o → (i = id ∧ o = .arr k rows') ∨ (i ≠ id ∧ look h i = some o) := fun i o e => by
    rw [look_cons, look_del] at e
    split at e
    · rename_i hi; cases e; exact .inl ⟨hi.symm, rfl⟩
    · rename_i hi
      exact .inr ⟨fun e' => hi e'.symm, by simpa [hi] using e⟩
  have hne : rows' ≠ [] → rows ≠ [] := fun h0 e => h0 (List.eq_nil_of_length_eq_zero (by rw [hlen, e]; rfl))
  have old : ∀ i o, look ((id, AO.arr k rows') :: del h id) i = some o → o.real → ∃ o', look h i = some o' ∧ o'.real := fun i o e r => by
    rcases key i o e with ⟨rfl, rfl⟩ | ⟨_, h2⟩
    · exact ⟨_, hl, hne r⟩
    · exact ⟨o, h2, r⟩
  refine ⟨c, ⟨hs.defers, hs.n, hs.t, ?_⟩, ⟨rfl, rfl, fun _ hb => hb, fun b hb => .inl hb, fun i o e r => ?_⟩⟩
  · refine ⟨fun i o e => ?_, fun i o e r => ?_, fun i o e r => ?_, fun i o e r => ?_, fun i i' o o' e r e' r' => ?_, hs.h.st, fun i b o e => ?_⟩
    · rcases key i o e with ⟨rfl, rfl⟩ | ⟨_, h2⟩
      · exact hs.h.lt _ _ hl
      · exact hs.h.lt _ _ h2
    · obtain ⟨o', g1, g2⟩ := old i o e r; exact hs.h.blk i o' g1 g2
    · obtain ⟨o', g1, g2⟩ := old i o e r; exact hs.h.own i o' g1 g2
    · rcases key i o e with ⟨rfl, rfl⟩ | ⟨_, h2⟩
      · obtain ⟨cs, T, fr, g1, g2, g3, g4⟩ := hs.h.rel _ _ hl (hne r)
        refine ⟨cs, T, fr, g1, g2, by rw [hlen]; exact g3, SRows.mk fun q r' e' => ?_⟩
        obtain ⟨r0, u1, u2, u3⟩ := hle q r' e'
        obtain ⟨v1, v2⟩ := g4.get q r0 u1
        refine ⟨by rw [u2]; exact v1, SCells.of_get fun p y ep => ?_⟩
        obtain ⟨x, x1, x2⟩ := u3 p y ep
        obtain ⟨v, w1, w2⟩ := v2.get p x x1
        exact ⟨v, w1, x2 _ _ _ w2⟩
      · exact hs.h.rel i o h2 r
    · obtain ⟨p, g1, g2⟩ := old i o e r
      obtain ⟨p', g3, g4⟩ := old i' o' e' r'
      exact hs.h.inj i i' p p' g1 g2 g3 g4
    · rcases key i _ e with ⟨_, h1⟩ | ⟨_, h2⟩
      · cases h1
      · exact hs.h.fact i b o h2
  · obtain ⟨o', g1, g2⟩ := old i o e r
    exact ⟨i, o', g1, g2, rfl⟩
end
end Go.Proofs.YtligkfhplinjlaaGreatDoorAl
