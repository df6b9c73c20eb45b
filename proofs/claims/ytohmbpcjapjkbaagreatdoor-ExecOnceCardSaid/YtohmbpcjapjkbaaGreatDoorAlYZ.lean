/- The A-logic: its later rules. -/
import Derived.Test.YtohmbpcjapjkbaaGreatDoorAlZj
import Derived.Test.YtohmbpcjapjkbaaGreatDoorAlZo
import Derived.Test.YtohmbpcjapjkbaaGreatDoorAlZl
import Derived.Test.YtohmbpcjapjkbaaGreatDoorAlZe
import Derived.Test.YtohmbpcjapjkbaaGreatDoorAlZa
import Derived.Test.YtohmbpcjapjkbaaGreatDoorAlZb
import Derived.Test.YtohmbpcjapjkbaaGreatDoorAlP
import Derived.RowKit
import Derived.Test.YtohmbpcjapjkbaaGreatDoorAlZk
import Derived.Laws.IdiomStrings
import Derived.Test.YtohmbpcjapjkbaaGreatDoorAlI
set_option linter.all false
namespace Go.Proofs.YtohmbpcjapjkbaaGreatDoorAl
section
variable {P : Program} {ops : Array Oper} {q : S → Prop} {N n d : Nat} {t : Tm} {h : Heap} {ty : TypeId} {pos : String} {af : Array Edge} {g : Option (Nat × Bool)}
variable {done : List Mini} {i : Nat} {A D : List Nat} {le : List Entry} {op : Op} {F : Heap} {fn : List Nat} {x : AV}
theorem OpSpec.wk {r : Rec} {t2 : Tm} {F2 : Heap} (hw : Wk ⟨N, r.nin, r.tin, r.F⟩ ⟨N, r.nin, t2, F2⟩) (k : OpSpec P ops N { r with tin := t2, F := F2 }) : OpSpec P ops N r := fun c a hs K Qx hK => by
  obtain ⟨c1, h1, h2⟩ := hw c a hs
  have h3 : Ev c r.F c1 F2 := (Ev.refl c r.F).wk h2 (by rw [hs.n, h1.n]; exact Nat.le_refl _)
  rw [← h2.w]
  exact k c1 a h1 K Qx fun v c' u1 u2 u3 u4 => hK v c' u1 u2 (h3.trans u3) u4
theorem dwW {fp T : List Nat} {hout h' F2 : Heap} {n' : Nat} {t2 : Tm} (ho : ops[i]? = some ⟨some d, op, ty, pos, af, g⟩) (hg : gst ops g (delT D t) = some true) (hd : Nat.blt d N = true) (hfp : frc (fpX (delT D t) op) some = some fp)
    (hF : frc (keepL fp h) some = some F) (hw : Wk ⟨N, n, delT D t, F⟩ ⟨N, n, t2, F2⟩) (hg2 : gst ops g t2 = some true) (hs : OpG P #[] 0 ⟨some d, op, ty, pos, af, g⟩ [] ⟨N, n, t2, F2⟩ (fun s' => s' = ⟨N, n', (d, x) :: t2, hout⟩)) (hn : Nat.ble n n' = true)
    (hT : frc (hout.map (·.1) ++ fp) some = some T) (hm : sepB A (F.map (·.1)) x T hout done = true) (hf : frc (F.map (·.1)) some = some fn) (hh : frc (hout ++ delAll T h) some = some h')
    (k : DW P ops N q (⟨i, n, n', T, fn⟩ :: done) le ⟨N, n', (d, x) :: t, h'⟩) : DW P ops N q done ((i, A, D) :: le) ⟨N, n, t, h⟩ := by
  rw [frc_eq] at hfp hF hT hf hh; cases hfp; cases hF; cases hT; cases hf; cases hh
  refine ⟨⟨i, some d, A, delT D t, _, n, x, hout, n', _⟩, ⟨N, n', (d, x) :: t, _⟩, ⟨rfl, rfl, by simp [dstOf, ho], rfl, rfl, rfl, Nat.le_of_ble_eq_true hn, fun id o e => Sub.look (keepL_sub _ _) id o e, fun d' y e => ?_, fun id o' e => ?_, fun id hid => ?_, hd, ?_⟩, sep_all hm, k⟩
  · simp only at e
    rw [look_cons] at e
    split at e
    · rename_i h1; subst h1; cases e; exact .inl ⟨rfl, rfl⟩
    · rename_i h1; exact .inr ⟨fun e' => h1 (Option.some.inj e'), e⟩
  · simp only at e
    rw [look_app_eq] at e
    split at e
    · rename_i o hlo
      cases e
      exact .inl ⟨List.mem_append_left _ (List.mem_map_of_mem (f := (·.1)) (look_mem hlo)), hlo⟩
    · rename_i hlo
      rw [look_delAll'] at e
      split at e
      · cases e
      · rename_i h1; exact .inr ⟨h1, e⟩
  · simp only at hid ⊢
    have h1 : look hout id = none := by
      cases hlo : look hout id with
      | none => rfl
      | some o => exact absurd (List.mem_append_left _ (List.mem_map_of_mem (f := (·.1)) (look_mem hlo))) hid
    have h2 : look (keepL (fpX (delT D t) op) h) id = none := by
      cases hlo : look (keepL (fpX (delT D t) op) h) id with
      | none => rfl
      | some o =>
        have key : ∀ (is : List Nat), look (keepL is h) id = some o → id ∈ is := by
          intro is
          induction is with
          | nil => intro e; cases e
          | cons a r ih =>
            intro e
            simp only [keepL] at e
            split at e
            · rw [look_cons] at e
              split at e
              · rename_i h3; subst h3; simp
              · exact List.mem_cons_of_mem _ (ih e)
            · exact List.mem_cons_of_mem _ (ih e)
        exact absurd (List.mem_append_right _ (key _ hlo)) hid
    rw [h1, h2]
  · exact OpSpec.wk (r := ⟨i, some d, A, delT D t, _, n, x, hout, n', _⟩) hw (spec_run (r := ⟨i, some d, A, t2, F2, n, x, hout, n', hout.map (·.1) ++ fpX (delT D t) op⟩) ho hg2 hd rfl (fun d' e => by cases e; rw [look_cons, if_pos rfl]) (fun e => by cases e) hs)
/-- A call whose first argument is a slice of an array of ours: the array is frozen with it, and gone for us. -/
theorem dwA {fp T : List Nat} {hout h' : Heap} {n' : Nat} {fo : Operand} {args : Array Operand} {ts : Array TypeId} {f id kk off len : Nat} {ys : List AV} {rows : List (List SV)} {t1 t2 : Tm} {h1 h2 : Heap}
    (ho : ops[i]? = some ⟨some d, .call ⟨.value fo, args, ts⟩, ty, pos, af, g⟩) (hg : gst ops g (delT D t) = some true) (hd : Nat.blt d N = true) (hfp : frc (fpX (delT D t) (.call ⟨.value fo, args, ts⟩)) some = some fp)
    (hF : frc (keepL fp h) some = some F) (hf0 : callT (delT D t) fo args.toList = some (f, .lsl id kk off len :: ys)) (hl : look F id = some (.arr kk rows))
    (e1 : frc (keepL (keys (delT D t)) (delT D t)) some = some t1) (e2 : frc (del F id) some = some h1) (ht : occT id (whole kk rows.length) t1) (hhh : occH id (whole kk rows.length) h1) (e3 : frcT (frzT id kk rows t1) some = some t2) (e4 : frc (frzH id kk rows h1) some = some h2)
    (hg2 : gst ops g t2 = some true) (hs : OpG P #[] 0 ⟨some d, .call ⟨.value fo, args, ts⟩, ty, pos, af, g⟩ [] ⟨N, n, t2, h2⟩ (fun s' => s' = ⟨N, n', (d, x) :: t2, hout⟩)) (hn : Nat.ble n n' = true)
    (hT : frc (hout.map (·.1) ++ fp) some = some T) (hm : sepB A (F.map (·.1)) x T hout done = true) (hf : frc (F.map (·.1)) some = some fn) (hh : frc (hout ++ delAll T h) some = some h')
    (k : DW P ops N q (⟨i, n, n', T, fn⟩ :: done) le ⟨N, n', (d, x) :: t, h'⟩) : DW P ops N q done ((i, A, D) :: le) ⟨N, n, t, h⟩ := by
  rw [frc_eq] at e1 e2 e4; rw [frcT_eq] at e3; cases e1; cases e2; cases e3; cases e4
  exact dwW ho hg hd hfp hF (Wk.frz id (keys (delT D t)) hl rfl rfl ht hhh rfl rfl) hg2 hs hn hT hm hf hh k
end
end Go.Proofs.YtohmbpcjapjkbaaGreatDoorAl
namespace Go.Proofs.YtohmbpcjapjkbaaGreatDoorAl
theorem ACells.get {c : Cfg} : ∀ {b off : Nat} {xs : List AV}, ACells c b off xs → ∀ (p : Nat) x, xs[p]? = some x → ∃ v, c.w.cell? ⟨b, off + p, none⟩ = some v ∧ AVal c x v
  | _, _, _, .cons b off x v xs h1 h2 h3, 0, x', e => by simp at e; subst e; exact ⟨v, by simpa using h1, h2⟩
  | _, _, _, .cons b off x v xs h1 h2 h3, p + 1, x', e => by
    obtain ⟨u, g1, g2⟩ := h3.get p x' (by simpa using e)
    exact ⟨u, by rw [← g1]; congr 2; omega, g2⟩
theorem ACells.of_get {c : Cfg} {b : Nat} : ∀ {xs : List AV} {off : Nat}, (∀ (p : Nat) x, xs[p]? = some x → ∃ v, c.w.cell? ⟨b, off + p, none⟩ = some v ∧ AVal c x v) → ACells c b off xs
  | [], _, _ => .nil _ _
  | x :: xs, off, h => by
    obtain ⟨v, h1, h2⟩ := h 0 x rfl
    exact .cons _ _ _ v _ (by simpa using h1) h2 (ACells.of_get fun p y e => by
      obtain ⟨v, g1, g2⟩ := h (p + 1) y (by simpa using e)
      exact ⟨v, by rw [← g1]; congr 2; omega, g2⟩)
theorem stAll_get : ∀ (xs : List SV) (p : Nat), (stAll xs)[p]? = xs[p]?.map .st
  | [], p => by simp [stAll]
  | x :: xs, 0 => by simp [stAll]
  | x :: xs, p + 1 => by simpa [stAll] using stAll_get xs p
theorem stAll_len : ∀ xs : List SV, (stAll xs).length = xs.length
  | [] => rfl
  | _ :: xs => by simp [stAll, stAll_len xs]
theorem SCells.st {c : Cfg} {b off : Nat} {xs : List SV} (h : SCells c.St c.w b off xs) : ACells c b off (stAll xs) :=
  .of_get fun p x e => by
    rw [stAll_get] at e
    cases hx : xs[p]? with
    | none => rw [hx] at e; cases e
    | some y =>
      rw [hx] at e; cases e
      obtain ⟨v, g1, g2⟩ := h.get p y hx
      exact ⟨v, g1, .st _ _ g2⟩
section
variable {P : Program} {ops : Array Oper} {j : Nat} {l : List Oper} {q : S → Prop} {N n : Nat} {t : Tm} {h : Heap} {L : Lay}
variable {d : Nat} {ty : TypeId} {pos : String} {af : Array Edge} {g : Option (Nat × Bool)}
/-- An array of stable rows, seen as one whose rows may hold anything. -/
theorem Wk.toR {k : Nat} {rows : List (List SV)} (id : Nat) (hl : look h id = some (.arr k rows)) (hne : rows ≠ []) {h1 : Heap} (e1 : del h id = h1) : Wk ⟨N, n, t, h⟩ ⟨N, n, t, (id, .rows k (rows.map stAll)) :: h1⟩ := by
  subst e1
  intro c a hs
  have key : ∀ i o, look ((id, AO.rows k (rows.map stAll)) :: del h id) i = some o → (i = id ∧ o = .rows k (rows.map stAll)) ∨ (i ≠ id ∧ look h i = some o) := fun i o e => by
    rw [look_cons, look_del] at e
    split at e
    · rename_i hi; cases e; exact .inl ⟨hi.symm, rfl⟩
    · rename_i hi
      exact .inr ⟨fun e' => hi e'.symm, by simpa [hi] using e⟩
  have old : ∀ i o, look ((id, AO.rows k (rows.map stAll)) :: del h id) i = some o → o.real → ∃ o', look h i = some o' ∧ o'.real := fun i o e r => by
    rcases key i o e with ⟨rfl, rfl⟩ | ⟨_, h2⟩
    · exact ⟨_, hl, hne⟩
    · exact ⟨o, h2, r⟩
  refine ⟨c, ⟨hs.defers, hs.n, hs.t, ?_⟩, ⟨rfl, rfl, fun _ hb => hb, fun b hb => .inl hb, fun i o e r => ?_⟩⟩
  · refine ⟨fun i o e => ?_, fun i o e r => ?_, fun i o e r => ?_, fun i o e r => ?_, fun i i' o o' e r e' r' => ?_, hs.h.st, fun i b o e => ?_⟩
    · rcases key i o e with ⟨rfl, rfl⟩ | ⟨_, h2⟩
      · exact hs.h.lt _ _ hl
      · exact hs.h.lt _ _ h2
    · obtain ⟨o', g1, g2⟩ := old i o e r; exact hs.h.blk i o' g1 g2
    · obtain ⟨o', g1, g2⟩ := old i o e r; exact hs.h.own i o' g1 g2
    · rcases key i o e with ⟨rfl, rfl⟩ | ⟨_, h2⟩
      · obtain ⟨cs, T, fr, g1, g2, g3, g4⟩ := hs.h.rel _ _ hl hne
        refine ⟨cs, T, fr, g1, g2, by rw [List.length_map]; exact g3, fun r row e' => ?_⟩
        rw [List.getElem?_map] at e'
        cases hr : rows[r]? with
        | none => rw [hr] at e'; cases e'
        | some row0 =>
          rw [hr] at e'; cases e'
          obtain ⟨u1, u2⟩ := g4.get r row0 hr
          rw [Nat.zero_add] at u2
          exact ⟨by rw [stAll_len]; exact u1, u2.st⟩
      · exact hs.h.rel i o h2 r
    · obtain ⟨p, g1, g2⟩ := old i o e r
      obtain ⟨p', g3, g4⟩ := old i' o' e' r'
      exact hs.h.inj i i' p p' g1 g2 g3 g4
    · rcases key i _ e with ⟨_, h1⟩ | ⟨_, h2⟩
      · cases h1
      · exact hs.h.fact i b o h2
  · obtain ⟨o', g1, g2⟩ := old i o e r
    exact ⟨i, o', g1, g2, rfl⟩
theorem ACells.list {c : Cfg} : ∀ {b off : Nat} {xs : List AV}, ACells c b off xs → ∃ vs, AList c xs vs ∧ ∀ i v, vs[i]? = some v → c.w.cell? ⟨b, off + i, none⟩ = some v
  | _, _, _, .nil b off => ⟨[], .nil, by simp⟩
  | _, _, _, .cons b off x v xs hc h hs => by
    obtain ⟨vs, h1, h2⟩ := hs.list
    refine ⟨v :: vs, .cons _ _ _ _ h h1, fun i u e => ?_⟩
    cases i with
    | zero => simp at e; subst e; simpa using hc
    | succ i =>
      have := h2 i u (by simpa using e)
      rw [← this]; congr 2; omega
/-- Read through a pointer to an element, whatever the rows hold. -/
theorem st_loadR {t1 : TypeId} {x : Operand} {id kk ii jj : Nat} {rows : List (List AV)} {i : TI} {y : AV} (row : List AV) (hL : LayOk P L) (hx : evT t x = some (.eptr id kk ii jj)) (hh : look h id = some (.rows kk rows)) (ht : look L t1 = some i)
    (hr : rows[ii]? = some row) (hz : Nat.ble (jj + i.size) row.length = true) (h1 : (i.agg || Nat.beq i.size 1) = true) (hy : loaded i (row.drop jj) = some y)
    (k : OpsL P ops (j + 1) l ⟨N, n, (d, y) :: t, h⟩ q) : OpG P ops j ⟨some d, .load t1 x, ty, pos, af, g⟩ l ⟨N, n, t, h⟩ q :=
  OpOk.pure (fun c a hs => by
    obtain ⟨cs, T, fr, hb, _, hlen, hrr⟩ := hs.h.rel id _ hh trivial
    obtain ⟨r1, r2⟩ := hrr ii row hr
    obtain ⟨vs, hv, hcell⟩ := r2.list
    have hl := hv.length
    have hz' := Nat.le_of_ble_eq_true hz
    have hrun := run_loadVar' (P := P) (w := c.w) (b := c.ι id) (off := ii * kk + jj) (vs := (vs.drop jj).take i.size) (hL t1 i ht) (by simp; omega) (fun j v e => by
      rw [List.getElem?_take] at e
      split at e
      · rw [List.getElem?_drop] at e
        have := hcell (jj + j) v e
        rw [← this]; congr 2; omega
      · cases e) (fun ha => by rw [ha] at h1; exact Nat.eq_of_beq_eq_true (by simpa using h1))
    have hpv : a.eval x = .pointer (some ⟨c.ι id, ii * kk + jj, none⟩) := by
      have hv0 := S.ev_val hs (x := x) (by rw [evT_eq]; exact hx)
      generalize a.eval x = p at hv0
      cases hv0; rfl
    refine ⟨if i.agg then .agg ((vs.drop jj).take i.size).toArray else ((vs.drop jj).take i.size).headD undef, ?_, ?_⟩
    · simp only [execOp, Instr.loadAt, hpv, Instr.sureAddr]
      simp [hrun]
    · unfold loaded at hy
      split at hy
      · rename_i ha; cases hy; rw [ha]; exact mkAgg_val ((hv.drop jj).take i.size)
      · rename_i ha
        split at hy
        · rename_i z zs hz2
          cases hy
          rw [ha]
          have h2 := hv.drop jj
          rw [hz2] at h2
          have hone : i.size = 1 := by rw [ha] at h1; exact Nat.eq_of_beq_eq_true (by simpa using h1)
          generalize vs.drop jj = us at h2
          cases h2 with
          | cons _ v _ vs' hv1 hv2 => simpa [hone] using hv1
        · cases hy) k
/-- A store into an array of ours, whatever is stored. -/
theorem st_storeR {t1 : TypeId} {x y : Operand} {id kk ii jj : Nat} {rows : List (List AV)} {row xs : List AV} {i : TI} {z : AV} {h' : Heap} (hL : LayOk P L) (hx : evT t x = some (.eptr id kk ii jj)) (hy : evT t y = some z) (hh : look h id = some (.rows kk rows)) (hr : rows[ii]? = some row)
    (ht : look L t1 = some i) (hz : avCells z = some xs) (h1 : (Nat.beq xs.length i.size && Nat.ble (jj + i.size) row.length && oneAll xs) = true) (hdel : frc (del h id) some = some h')
    (k : OpsL P ops (j + 1) l ⟨N, n, t, (id, .rows kk (rows.set ii (putAt row jj xs))) :: h'⟩ q) : OpG P ops j ⟨none, .store t1 x y, ty, pos, af, g⟩ l ⟨N, n, t, h⟩ q := by
  rw [frc_eq] at hdel; cases hdel
  have k' : OpsL P ops (j + 1) l ⟨N, n, t, (id, .rows kk (rows.set ii (putAt row jj xs))) :: h⟩ q := OpsL.same (fun id' => by
    rw [look_cons, look_cons, look_del]
    split <;> rfl) k
  refine OpOk.intro_skip fun c a hs => ?_
  simp only [Bool.and_eq_true] at h1
  obtain ⟨⟨ha, hb⟩, hc⟩ := h1
  have ha := Nat.eq_of_beq_eq_true ha
  have hb := Nat.le_of_ble_eq_true hb
  have hlt2 : ii < rows.length := by
    rcases Nat.lt_or_ge ii rows.length with h' | h'
    · exact h'
    · simp [List.getElem?_eq_none h'] at hr
  have hreal : (AO.rows kk rows).real := trivial
  obtain ⟨cs, T, fr, hblk, hfr, hlen, hrows⟩ := hs.h.rel id _ hh hreal
  obtain ⟨hrl, hrc⟩ := hrows ii row hr
  have hyv := S.ev_val hs (x := y) (by rw [evT_eq]; exact hy)
  have hzv := avCells_val hz hyv
  have hzl := hzv.length
  have hpv : a.eval x = .pointer (some ⟨c.ι id, ii * kk + jj, none⟩) := by
    have hv0 := S.ev_val hs (x := x) (by rw [evT_eq]; exact hx)
    generalize a.eval x = p at hv0
    cases hv0; rfl
  have hmul : (ii + 1) * kk ≤ rows.length * kk := Nat.mul_le_mul_right kk hlt2
  rw [Nat.add_mul, Nat.one_mul] at hmul
  have hfit : ii * kk + jj + 0 + (a.eval y).cells.toList.length ≤ cs.toList.length := by
    rw [hzl, ha, Array.length_toList]; omega
  obtain ⟨w', g1, g2, g3⟩ := run_storeCells_blk (P := P) (a.eval y).cells.toList 0 (ii * kk + jj) cs.toList c.w (by simpa using hblk) (by simpa using hfr) hfit (oneAll_val' (c := c) hzv hc)
  rw [Nat.add_zero] at g2 g3
  have hlt : c.ι id < c.w.heap.size := hs.h.blk id _ hh hreal
  generalize hcs' : (putAt cs.toList (ii * kk + jj) (a.eval y).cells.toList).toArray = cs' at g2 g3
  have hsz' : cs'.size = cs.size := by rw [← hcs']; simp [putAt_length]
  have hw' : w' = setBlk c.w (c.ι id) (.cells cs' T fr) := by
    rcases g2 with g2 | g2
    · rw [g2] at g3
      subst g2
      have e : c.w.heap[c.ι id] = .cells cs' T fr := by simpa [Array.getElem?_eq_getElem hlt] using g3
      unfold setBlk
      rw [← e]
      have e2 : c.w.heap.setIfInBounds (c.ι id) c.w.heap[c.ι id] = c.w.heap := by
        apply Array.ext_getElem?
        intro j
        rw [Array.getElem?_setIfInBounds]
        split
        · rename_i hj; subst hj; simp [hlt]
        · rfl
      rw [e2]
    · exact g2
  have hsh : ∀ sh, c.w.shape? (c.ι id) = some sh → (setBlk c.w (c.ι id) (.cells cs' T fr)).shape? (c.ι id) = some sh := fun sh e => by
    rw [shape_of hblk] at e
    rw [shape_of (setBlk_same hlt), ← e, hsz']
  refine ⟨_, _, c.set (c.ι id) (.cells cs' T fr), ?_, k', ev_set hs.h hh hreal hsh, hs.n, hrel_set hs.h hh hreal hsh ?_⟩
  · simp only [execOp, Instr.storeAt, hpv, Instr.sureAddr]
    have e1 : (a.eval y).cells.size = i.size := by
      have : (a.eval y).cells.toList.length = xs.length := hzl
      simpa [ha] using this
    simp only [storeVar, Cfg.set]
    simp [run_sizeOf' _ (hL t1 i ht), e1, g1, hw']
  · refine ⟨cs', T, fr, setBlk_same hlt, by rw [hsz']; exact hfr, by rw [hsz', List.length_set]; exact hlen, ?_⟩
    have hgo := go_set hs.h hh hreal hsh
    have hcell : ∀ p v, cs'[p]? = some v → (c.set (c.ι id) (.cells cs' T fr)).w.cell? ⟨c.ι id, p, none⟩ = some v := fun p v e => by
      show (setBlk c.w (c.ι id) (.cells cs' T fr)).cell? _ = _
      simp [World.cell?, setBlk_same hlt, e]
    have hold : ∀ p, (¬ (ii * kk + jj ≤ p ∧ p < ii * kk + jj + xs.length)) → ∀ v, c.w.cell? ⟨c.ι id, p, none⟩ = some v → (c.set (c.ι id) (.cells cs' T fr)).w.cell? ⟨c.ι id, p, none⟩ = some v := fun p hp v e => by
      simp [World.cell?, hblk] at e
      refine hcell p v ?_
      have hps : p < cs.size := by
        rcases Nat.lt_or_ge p cs.size with h' | h'
        · exact h'
        · simp [Array.getElem?_eq_none h'] at e
      rw [← hcs', List.getElem?_toArray, putAt_get _ _ _ _ (by simpa using hps), if_neg (by rw [hzl]; exact hp)]
      simpa using e
    intro r row' e
    rw [List.getElem?_set] at e
    split at e
    · rename_i hri
      subst hri
      simp only [hlt2, if_true, Option.some.injEq] at e
      subst e
      refine ⟨by rw [putAt_length]; exact hrl, ACells.of_get fun p x ep => ?_⟩
      have hp : p < row.length := by
        rcases Nat.lt_or_ge p row.length with h' | h'
        · exact h'
        · rw [List.getElem?_eq_none (by rw [putAt_length]; exact h')] at ep; cases ep
      rw [putAt_get _ _ _ _ hp] at ep
      split at ep
      · rename_i hin
        obtain ⟨v, u1, u2⟩ : ∃ v, (a.eval y).cells.toList[p - jj]? = some v ∧ AVal c x v := hzv.get _ _ ep
        refine ⟨v, hcell _ _ ?_, u2.goes hgo⟩
        rw [← hcs', List.getElem?_toArray, putAt_get _ _ _ _ (by rw [Array.length_toList]; omega), if_pos (by rw [hzl]; omega), show ii * kk + p - (ii * kk + jj) = p - jj by omega]
        exact u1
      · rename_i hin
        obtain ⟨v, u1, u2⟩ := hrc.get p x ep
        exact ⟨v, hold _ (by omega) v u1, u2.goes hgo⟩
    · rename_i hri
      obtain ⟨r1, r2⟩ := hrows r row' e
      refine ⟨r1, ACells.of_get fun p x ep => ?_⟩
      obtain ⟨v, u1, u2⟩ := r2.get p x ep
      have hp : p < kk := by
        rw [← r1]
        rcases Nat.lt_or_ge p row'.length with h' | h'
        · exact h'
        · simp [List.getElem?_eq_none h'] at ep
      refine ⟨v, hold _ ?_ v u1, u2.goes hgo⟩
      rcases Nat.lt_or_gt_of_ne hri with h' | h'
      · have := Nat.mul_le_mul_right kk h'
        rw [Nat.succ_mul] at this
        omega
      · have := Nat.mul_le_mul_right kk h'
        rw [Nat.succ_mul] at this
        omega
/-- Row by row: what the rows are once an array is frozen. -/
def FrzRow (id k : Nat) (rows : List (List SV)) (rs2 : List (List AV)) (rows2 : List (List SV)) : Prop :=
  rows2.length = rs2.length ∧ ∀ (r : Nat) row', rows2[r]? = some row' → ∃ rv, rs2[r]? = some rv ∧ row'.length = rv.length ∧ ∀ (p : Nat) x, row'[p]? = some x → ∃ y, rv[p]? = some y ∧ y.occ id (whole k rows.length) ∧ y.frz id k rows = .st x
/-- An array is frozen whose slices lie in another one's rows: those rows are stable again. -/
theorem Wk.frzR {k k2 : Nat} {rows rows2 : List (List SV)} {rs2 : List (List AV)} (id id2 : Nat) (lt : List Nat) (hl : look h id = some (.arr k rows)) (hl2 : look h id2 = some (.rows k2 rs2)) (hF : FrzRow id k rows rs2 rows2)
    {t1 t2 : Tm} {h1 h2 : Heap} (e1 : keepL lt t = t1) (e2 : del (del h id) id2 = h1) (ht : occT id (whole k rows.length) t1) (hh : occH id (whole k rows.length) h1) (e3 : frzT id k rows t1 = t2) (e4 : frzH id k rows h1 = h2) :
    Wk ⟨N, n, t, h⟩ ⟨N, n, t2, (id2, .arr k2 rows2) :: h2⟩ := by
  subst e1 e2 e3 e4
  intro c a hs
  have hr : rows ≠ [] → SRows (c.froze id rows).St c.w k (c.ι id) 0 rows := fun hne => by
    obtain ⟨cs, T, fr, g1, g2, g3, g4⟩ := hs.h.rel id _ hl hne
    exact g4.goes (go_froze c id rows).st rfl
  have hne : id ≠ id2 := fun e => by rw [e, hl2] at hl; cases hl
  have dom : ∀ i o, look ((id2, AO.arr k2 rows2) :: frzH id k rows (del (del h id) id2)) i = some o → (i = id2 ∧ o = .arr k2 rows2) ∨ (i ≠ id ∧ i ≠ id2 ∧ ∃ o', look h i = some o' ∧ o = o'.frz id k rows ∧ o'.occ id (whole k rows.length)) := fun i o e => by
    rw [look_cons] at e
    split at e
    · rename_i hi; cases e; exact .inl ⟨hi.symm, rfl⟩
    · rename_i hi
      obtain ⟨y, g1, g2⟩ := look_frzH e
      have g3 := occH_look hh i y g1
      rw [look_del] at g1
      split at g1
      · cases g1
      · rw [look_del] at g1
        split at g1
        · cases g1
        · rename_i hi2
          exact .inr ⟨fun x => hi2 x.symm, fun x => hi x.symm, y, g1, g2, g3⟩
  have old : ∀ i o, look ((id2, AO.arr k2 rows2) :: frzH id k rows (del (del h id) id2)) i = some o → o.real → i ≠ id ∧ ∃ o', look h i = some o' ∧ o'.real := fun i o e r => by
    rcases dom i o e with ⟨rfl, rfl⟩ | ⟨g0, _, y, g1, rfl, _⟩
    · exact ⟨hne.symm, _, hl2, trivial⟩
    · exact ⟨g0, y, g1, real_frz.1 r⟩
  refine ⟨c.froze id rows, ⟨hs.defers, hs.n, ⟨hs.t.size, fun i x e => ?_⟩, ?_⟩, ⟨rfl, rfl, fun _ hb => .inl hb, fun b hb => ?_, fun i o e r => ?_⟩⟩
  · obtain ⟨y, g1, rfl⟩ := look_frzT e
    obtain ⟨v, g2, g3⟩ := hs.t.get i y ((keepL_sub lt t).look i y g1)
    exact ⟨v, g2, g3.frz hr (occT_look ht i y g1)⟩
  · refine ⟨fun i o e => ?_, fun i o e r => ?_, fun i o e r hb => ?_, fun i o e r => ?_, fun i i' o o' e r e' r' hij => ?_, fun b hb => ?_, fun i b o e => ?_⟩
    · rcases dom i o e with ⟨rfl, rfl⟩ | ⟨_, _, y, g1, _⟩
      · exact hs.h.lt _ _ hl2
      · exact hs.h.lt i y g1
    · obtain ⟨_, y, g1, g2⟩ := old i o e r; exact hs.h.blk i y g1 g2
    · obtain ⟨g0, y, g1, g2⟩ := old i o e r
      rcases hb with hb | ⟨hne', hb⟩
      · exact hs.h.own i y g1 g2 hb
      · exact g0 (hs.h.inj i id y _ g1 g2 hl hne' hb)
    · rcases dom i o e with ⟨rfl, rfl⟩ | ⟨_, _, y, g1, rfl, g2⟩
      · obtain ⟨cs, T, fr, u1, u2, u3, u4⟩ := hs.h.rel _ _ hl2 trivial
        refine ⟨cs, T, fr, u1, u2, by rw [hF.1]; exact u3, SRows.mk fun r' row' er => ?_⟩
        obtain ⟨rv, v1, v2, v3⟩ := hF.2 r' row' er
        obtain ⟨w1, w2⟩ := u4 r' rv v1
        refine ⟨by rw [v2]; exact w1, SCells.of_get fun p x ep => ?_⟩
        obtain ⟨y, y1, y2, y3⟩ := v3 p x ep
        obtain ⟨v, z1, z2⟩ := w2.get p y y1
        have z3 := z2.frz hr y2
        rw [y3] at z3
        exact ⟨v, by rw [Nat.zero_add]; exact z1, st_inv z3⟩
      · exact (hs.h.rel i y g1 (real_frz.1 r)).frz hr g2
    · obtain ⟨_, y, g1, g2⟩ := old i o e r
      obtain ⟨_, y', g1', g2'⟩ := old i' o' e' r'
      exact hs.h.inj i i' y y' g1 g2 g1' g2' hij
    · rcases hb with hb | ⟨hne', hb⟩
      · exact hs.h.st b hb
      · have h0 : b = c.ι id := hb
        rw [h0]; exact hs.h.blk id _ hl hne'
    · rcases dom i _ e with ⟨_, h1⟩ | ⟨_, _, y, g1, e1, _⟩
      · cases h1
      · cases y <;> cases e1
        exact ⟨.inl (hs.h.fact i b o g1).1, (hs.h.fact i b o g1).2⟩
  · rcases hb with hb | ⟨hne', hb⟩
    · exact .inl hb
    · exact .inr ⟨id, _, hl, hne', hb.symm⟩
  · obtain ⟨_, y, g1, g2⟩ := old i o e r
    exact ⟨i, y, g1, g2, rfl⟩
/-- One cell of one row holds the array's slice. -/
theorem FrzRow.one {id k : Nat} {rows rows0 : List (List SV)} {ii jj : Nat} {row : List SV} (hr : rows0[ii]? = some row) :
    FrzRow id k rows ((rows0.map stAll).set ii (putAt (stAll row) jj [.lsl id k 0 rows.length])) (rows0.set ii (putAt row jj [.sl k rows])) := by
  have hlt : ii < rows0.length := by
    rcases Nat.lt_or_ge ii rows0.length with h' | h'
    · exact h'
    · simp [List.getElem?_eq_none h'] at hr
  have hst : ∀ (x : SV), (AV.st x).occ id (whole k rows.length) ∧ (AV.st x).frz id k rows = .st x := fun x => ⟨trivial, rfl⟩
  refine ⟨by simp, fun r row' e => ?_⟩
  rw [List.getElem?_set] at e
  rw [List.getElem?_set]
  split at e
  · rename_i hri
    subst hri
    cases e
    rw [if_pos rfl, if_pos (by simpa using hlt)]
    refine ⟨_, rfl, by rw [putAt_length, putAt_length, stAll_len], fun p x ep => ?_⟩
    have hp : p < row.length := by
      rcases Nat.lt_or_ge p row.length with h' | h'
      · exact h'
      · rw [List.getElem?_eq_none (by rw [putAt_length]; exact h')] at ep; cases ep
    rw [putAt_get _ _ _ _ hp] at ep
    rw [putAt_get _ _ _ _ (by rw [stAll_len]; exact hp)]
    split at ep
    · rename_i hin
      simp only [List.length_cons, List.length_nil] at hin
      rw [if_pos (by simp only [List.length_cons, List.length_nil]; omega)]
      have e0 : p - jj = 0 := by omega
      rw [e0] at ep ⊢
      cases ep
      refine ⟨_, rfl, ?_, ?_⟩
      · simp only [AV.occ, Nat.beq_refl, cond_true]; exact ⟨rfl, rfl, rfl⟩
      · simp only [AV.frz, Nat.beq_refl, cond_true]
    · rename_i hin
      rw [if_neg (by simpa using hin), stAll_get, ep]
      exact ⟨_, rfl, hst x⟩
  · rename_i hri
    rw [if_neg hri, List.getElem?_map, e]
    refine ⟨_, rfl, (stAll_len _).symm, fun p x ep => ?_⟩
    rw [stAll_get, ep]
    exact ⟨_, rfl, hst x⟩
end
end Go.Proofs.YtohmbpcjapjkbaaGreatDoorAl
namespace Go.Proofs.YtohmbpcjapjkbaaGreatDoorAl
section
variable {P : Program} {N n : Nat} {t : Tm} {h : Heap}
/-- Less is said of an array's rows. -/
theorem Wk.leA {k : Nat} {rows rows' : List (List SV)} (id : Nat) (hl : look h id = some (.arr k rows)) (hlen : rows'.length = rows.length)
    (hle : ∀ (i : Nat) r', rows'[i]? = some r' → ∃ r, rows[i]? = some r ∧ r'.length = r.length ∧ ∀ (p : Nat) y, r'[p]? = some y → ∃ x, r[p]? = some x ∧ ∀ St w v, SVal St w x v → SVal St w y v) {h1 : Heap} (e1 : del h id = h1) : Wk ⟨N, n, t, h⟩ ⟨N, n, t, (id, .arr k rows') :: h1⟩ := by
  subst e1
  intro c a hs
  have key : ∀ i o, look ((id, AO.arr k rows') :: del h id) i = some o → (i = id ∧ o = .arr k rows') ∨ (i ≠ id ∧ look h i = some o) := fun i o e => by
    rw [look_cons, look_del] at e
    split at e
    · rename_i hi; cases e; exact .inl ⟨hi.symm, rfl⟩
    · rename_i hi
      exact .inr ⟨fun e' => hi e'.symm, by simpa [hi] using e⟩
  have hne : rows' ≠ [] → rows ≠ [] := fun h0 e => h0 (List.eq_nil_of_length_eq_zero (by rw [hlen, e]; rfl))
  have old : ∀ i o, look ((id, AO.arr k rows') :: del h id) i = some o → o.real → ∃ o', look h i = some o' ∧ o'.real := fun i o e r => by
    rcases key i o e with ⟨rfl, rfl⟩ | ⟨_, h2⟩
    · exact ⟨_, hl, hne r⟩
    · exact ⟨o, h2, r⟩
  refine ⟨c, ⟨hs.defers, hs.n, hs.t, ?_⟩, ⟨rfl, rfl, fun _ hb => hb, fun b hb => .inl hb, fun i o e r => ?_⟩⟩
  · refine ⟨fun i o e => ?_, fun i o e r => ?_, fun i o e r => ?_, fun i o e r => ?_, fun i i' o o' e r e' r' => ?_, hs.h.st, fun i b o e => ?_⟩
    · rcases key i o e with ⟨rfl, rfl⟩ | ⟨_, h2⟩
      · exact hs.h.lt _ _ hl
      · exact hs.h.lt _ _ h2
    · obtain ⟨o', g1, g2⟩ := old i o e r; exact hs.h.blk i o' g1 g2
    · obtain ⟨o', g1, g2⟩ := old i o e r; exact hs.h.own i o' g1 g2
    · rcases key i o e with ⟨rfl, rfl⟩ | ⟨_, h2⟩
      · obtain ⟨cs, T, fr, g1, g2, g3, g4⟩ := hs.h.rel _ _ hl (hne r)
        refine ⟨cs, T, fr, g1, g2, by rw [hlen]; exact g3, SRows.mk fun q r' e' => ?_⟩
        obtain ⟨r0, u1, u2, u3⟩ := hle q r' e'
        obtain ⟨v1, v2⟩ := g4.get q r0 u1
        refine ⟨by rw [u2]; exact v1, SCells.of_get fun p y ep => ?_⟩
        obtain ⟨x, x1, x2⟩ := u3 p y ep
        obtain ⟨v, w1, w2⟩ := v2.get p x x1
        exact ⟨v, w1, x2 _ _ _ w2⟩
      · exact hs.h.rel i o h2 r
    · obtain ⟨p, g1, g2⟩ := old i o e r
      obtain ⟨p', g3, g4⟩ := old i' o' e' r'
      exact hs.h.inj i i' p p' g1 g2 g3 g4
    · rcases key i _ e with ⟨_, h1⟩ | ⟨_, h2⟩
      · cases h1
      · exact hs.h.fact i b o h2
  · obtain ⟨o', g1, g2⟩ := old i o e r
    exact ⟨i, o', g1, g2, rfl⟩
end
end Go.Proofs.YtohmbpcjapjkbaaGreatDoorAl
namespace Go.Proofs.YtohmbpcjapjkbaaGreatDoorAl
section
variable {P : Program} {c : Cfg} {h : Heap} {k e tx t ty : Nat} {ii : TypeInfo} {z x v0 : Value} {rows rows2 : List (List SV)} {news : List Value}
/-- An array whose cells were written: it has a new name. -/
theorem arr_written (hr : HRel c h) {id : Nat} (hl : look h id = some (.arr k rows)) (h0 : rows ≠ []) {W : World} {cs cs' : Array Value} {T : TypeId} {fr : Nat × Nat} {rows' : List (List SV)}
    (hblk : c.w.heap[c.ι id]? = some (.cells cs T fr)) (hnew : W.heap[c.ι id]? = some (.cells cs' T fr)) (hsz : cs'.size = cs.size) (hother : ∀ b, c.ι id ≠ b → W.heap[b]? = c.w.heap[b]?)
    (hos : W.os = c.w.os ∧ W.tape = c.w.tape ∧ W.output = c.w.output ∧ W.heap.size = c.w.heap.size) (hle : rows'.length * k ≤ cs'.size) (hrows : Goes c.St c.St c.w W → SRows c.St W k (c.ι id) 0 rows') :
    ∃ c' : Cfg, c'.w = W ∧ c'.n = c.n + 1 ∧ c'.ι c.n = c.ι id ∧ HRel c' ((c.n, .arr k rows') :: del h id) ∧ Ev c h c' ((c.n, .arr k rows') :: del h id) := by
  obtain ⟨cs0, T', fr', hblk', hfr, _, _⟩ := hr.rel id _ hl h0
  rw [hblk] at hblk'
  cases hblk'
  have hlt : c.ι id < c.w.heap.size := hr.blk id _ hl h0
  have hshape : ∀ b s, c.w.shape? b = some s → W.shape? b = some s := fun b s hs => by
    by_cases hb : c.ι id = b
    · subst hb; rw [shape_of hblk] at hs; rw [shape_of hnew, hsz, ← hs]
    · rw [← hs]; simp only [World.shape?, hother b hb]
  let c' : Cfg := ⟨fun j => if j = c.n then c.ι id else c.ι j, c.n + 1, c.St, W⟩
  have hgo : Goes c.St c.St c.w W := ⟨fun _ h => h, fun b hb => hother b fun e => hr.own id _ hl h0 (e ▸ hb)⟩
  have iold : ∀ j, j < c.n → c'.ι j = c.ι j := fun j hj => if_neg (Nat.ne_of_lt hj)
  have inew : c'.ι c.n = c.ι id := if_pos rfl
  have g : CGo c c' := ⟨Nat.le_succ _, iold, hgo, hshape⟩
  have part : ∀ i y, look ((c.n, AO.arr k rows') :: del h id) i = some y → (i = c.n ∧ y = .arr k rows') ∨ (i ≠ c.n ∧ look h i = some y ∧ i ≠ id ∧ c'.ι i = c.ι i) := fun i y e => by
    rw [look_cons] at e
    split at e
    · rename_i hi'; cases e; exact .inl ⟨hi'.symm, rfl⟩
    · rename_i hi'
      obtain ⟨e1, e2⟩ := look_delO (o := some id) e
      exact .inr ⟨fun x => hi' x.symm, e1, fun x => e2 (by rw [x]), iold i (hr.lt i y e1)⟩
  have hne : ∀ i y, look h i = some y → y.real → i ≠ id → c.ι i ≠ c.ι id := fun i y e r hi' he => hi' (hr.inj i id y _ e r hl h0 he)
  refine ⟨c', rfl, rfl, inew, ⟨fun i y e => ?_, fun i y e r => ?_, fun i y e r => ?_, fun i y e r => ?_, fun i j y y' e r e' r' hij => ?_, fun b hb => ?_, fun i b o e => ?_⟩, ?_⟩
  · rcases part i y e with ⟨rfl, _⟩ | ⟨_, h1, _⟩
    · exact Nat.lt_succ_self _
    · exact Nat.lt_succ_of_lt (hr.lt i y h1)
  · show c'.ι i < W.heap.size
    rw [hos.2.2.2]
    rcases part i y e with ⟨rfl, _⟩ | ⟨_, h1, _, h3⟩
    · rw [inew]; exact hlt
    · rw [h3]; exact hr.blk i y h1 r
  · rcases part i y e with ⟨rfl, _⟩ | ⟨_, h1, _, h3⟩
    · rw [inew]; exact hr.own id _ hl h0
    · rw [h3]; exact hr.own i y h1 r
  · rcases part i y e with ⟨rfl, rfl⟩ | ⟨_, h1, h2, h3⟩
    · rw [inew]
      exact ⟨cs', T, fr, hnew, fun j hj => hfr j (by omega), hle, hrows hgo⟩
    · rw [h3]; exact (hr.rel i y h1 r).goes g (hother _ fun x => hne i y h1 r h2 x.symm)
  · rcases part i y e with ⟨rfl, _⟩ | ⟨n1, h1, h2, h3⟩ <;> rcases part j y' e' with ⟨rfl, _⟩ | ⟨n1', h1', h2', h3'⟩
    · rfl
    · rw [inew, h3'] at hij; exact absurd hij.symm (hne j y' h1' r' h2')
    · rw [inew, h3] at hij; exact absurd hij (hne i y h1 r h2)
    · rw [h3, h3'] at hij; exact hr.inj i j y y' h1 r h1' r' hij
  · show b < W.heap.size
    rw [hos.2.2.2]; exact hr.st b hb
  · rcases part i _ e with ⟨_, h⟩ | ⟨_, h1, _⟩
    · cases h
    · exact Fct.goes g (hr.fact i b o h1)
  · refine ⟨g, hos.1, hos.2.1, hos.2.2.1, Nat.le_of_eq hos.2.2.2.symm, fun b _ hb => hother b (hb id _ hl h0), fun _ h => .inl h, fun i y e r => ?_⟩
    rcases part i y e with ⟨rfl, _⟩ | ⟨_, h1, _, h3⟩
    · exact .inr ⟨id, _, hl, h0, inew.symm⟩
    · exact .inr ⟨i, y, h1, r, h3.symm⟩
/-- append to a slice without elements that may have room. -/
theorem app_first (hr : HRel c h) {id sCap : Nat} {T : TypeId} {size : Nat} (hl : look h id = some (.arr k rows)) (h0 : rows ≠ []) (hne2 : rows2 ≠ []) (ht : P.underlying t = some (.slice e)) (hi : P.info? e = some ii) (hz : ii.zero = some z) (hk : ii.size = k) (hzs : z.cells.size = k)
    (hsh : c.w.shape? (c.ι id) = some (T, size)) (hsz : sCap * k ≤ size) (hs : Src P k tx x rows2.length news c.w) (hn : SList c.St c.w rows2.flatten news) (hrk2 : ∀ row ∈ rows2, row.length = k)
    (h63 : rows2.length ≤ 140737488355328) (h48 : rows2.length * ii.bytes ≤ 140737488355328) :
    ∃ v w', (Builtin.append_ #[t, tx] ty #[.slice (some ⟨c.ι id, 0, none⟩) 0 sCap, x]).run P c.w = .ok v w' ∧ AppOk c h k rows2 (some id) v w' := by
  rcases Nat.lt_or_ge sCap rows2.length with hg | hg
  · have := app_grow (P := P) (ty := ty) (rows := []) (olds := []) (c := c) (h := h) hr (some id) (base := some ⟨c.ι id, 0, none⟩) (sCap := sCap) ht hi hz hk hzs (firstCells_zero k _ _ _) .nil (by simp) (by simp) hs hn hrk2 (by simpa using hg) (by simpa using h63) (by simpa using h48)
    simpa using this
  · subst hk
    obtain ⟨cs, T', fr, hblk, hfr, hle, hrows⟩ := hr.rel id _ hl h0
    have hsh' := shape_of hblk
    rw [hsh] at hsh'
    cases hsh'
    have hlt : c.ι id < c.w.heap.size := hr.blk id _ hl h0
    have hfit : news.length ≤ cs.size := by
      rw [hs.newsLen]
      exact Nat.le_trans (Nat.mul_le_mul_right _ hg) hsz
    have hcell : ∀ j, j < cs.size → c.w.cell? ⟨c.ι id, j, none⟩ = cs[j]? := fun j hj => by simp [World.cell?, hblk]
    have hthere : ∀ j, j < news.length → (c.w.cell? ⟨c.ι id, 0 + 0 * ii.size + j, none⟩).isSome = true := fun j hj => by
      rw [hcell _ (by omega)]
      simp; omega
    have hrun := run_append_room_src (P := P) (ty := ty) c.w t tx e ii ht hi (c.ι id) 0 0 sCap x rows2.length news hs (by omega) hthere (fun j hj => by
      have := hfr (0 + 0 * ii.size + j) (by omega)
      simp only [World.frozen?, hblk]
      simp only [Bool.and_eq_false_iff, decide_eq_false_iff_not]
      omega)
    refine ⟨_, _, hrun, ?_⟩
    obtain ⟨cs', hw, hcs'⟩ := setCells_blk news (0 + 0 * ii.size) cs c.w hblk
    have hnew : (c.w.setCells (c.ι id) (0 + 0 * ii.size) news).heap[c.ι id]? = some (.cells cs' T fr) := by rw [hw]; exact setBlk_same hlt
    have hother : ∀ b, c.ι id ≠ b → (c.w.setCells (c.ι id) (0 + 0 * ii.size) news).heap[b]? = c.w.heap[b]? := fun b hb => by rw [hw]; exact setBlk_other hb
    have hin := World.cell?_setCells_in (c.ι id) news (0 + 0 * ii.size) c.w hthere
    have hos : (c.w.setCells (c.ι id) (0 + 0 * ii.size) news).os = c.w.os ∧ (c.w.setCells (c.ι id) (0 + 0 * ii.size) news).tape = c.w.tape ∧ (c.w.setCells (c.ι id) (0 + 0 * ii.size) news).output = c.w.output ∧ (c.w.setCells (c.ι id) (0 + 0 * ii.size) news).heap.size = c.w.heap.size := by rw [hw]; exact ⟨rfl, rfl, rfl, setBlk_size⟩
    generalize c.w.setCells (c.ι id) (0 + 0 * ii.size) news = W at *
    obtain ⟨c', e1, e2, e3, e4, e5⟩ := arr_written (rows' := rows2) hr hl h0 hblk hnew hcs' hother hos (by rw [hcs']; exact Nat.le_trans (Nat.mul_le_mul_right _ hg) hsz) (fun hgo => SRows.of_flat hrk2 (hn.goes hgo) fun j v hv => by
      obtain ⟨hj, hv'⟩ := List.getElem?_eq_some_iff.1 hv
      have := hin j hj
      rw [← hv', ← this]; congr 2; omega)
    refine ⟨c', e1, e2, e4, e5, ?_⟩
    have := AVal.lsl (c := c') c.n ii.size 0 rows2.length sCap T cs'.size (by rw [e2]; exact Nat.lt_succ_self _) ⟨hg, fun h => absurd (List.length_eq_zero_iff.1 h) hne2⟩ (by rw [e3, e1]; exact shape_of hnew) (by rw [Nat.zero_add, hcs']; exact hsz)
    rw [e3, Nat.zero_mul] at this
    rw [Nat.zero_add]
    exact this
end
section
variable {P : Program} {ops : Array Oper} {j : Nat} {l : List Oper} {q : S → Prop} {N n : Nat} {t : List (Nat × AV)} {h : Heap} {d : Nat} {ty : TypeId} {pos : String} {af : Array Edge} {g : Option (Nat × Bool)} {L : Lay}
theorem st_appendR {t1 tx e sz bytes e' sz' bytes' id : Nat} {x y : Operand} {Y : AV} {rows rows2 : List (List SV)} {i ix ie : TI} {h' : Heap} (hL : LayOk P L) (hx : evT t x = some (.lsl id sz 1 0)) (hy : evT t y = some Y)
    (ht : look L t1 = some i) (hk : i.k = .slice e sz bytes) (htx : look L tx = some ix) (hkx : ix.k = .slice e' sz' bytes') (hte : look L e = some ie) (hz : Nat.beq (svCells ie.zero).length sz = true)
    (hb : look h id = some (.arr sz rows)) (h0 : rows ≠ []) (hne2 : rows2 ≠ []) (hs : SrcIs h sz Y rows2) (hd : del h id = h') (hone : ∀ row ∈ rows2, ∀ y ∈ row, SV.one y = true) (h63 : rows2.length ≤ 140737488355328) (h48 : rows2.length * bytes ≤ 140737488355328)
    (k : OpsL P ops (j + 1) l ⟨N, n + 1, (d, .lsl n sz 0 rows2.length) :: t, (n, .arr sz rows2) :: h'⟩ q) : OpG P ops j ⟨some d, .call ⟨.builtin .append, #[x, y], #[t1, tx]⟩, ty, pos, af, g⟩ l ⟨N, n, t, h⟩ q :=
  OpOk.intro fun c a hsr => by
    subst hd
    obtain ⟨dd, _, _, g1, _, g3, _⟩ := tiOf_parts (hL t1 i ht)
    rw [hk] at g3
    obtain ⟨g4, ii, g5, g6, g7⟩ := tk_inv g3
    subst g4
    obtain ⟨dx, _, _, f1, _, f3, _⟩ := tiOf_parts (hL tx ix htx)
    rw [hkx] at f3
    obtain ⟨f4, _⟩ := tk_inv f3
    subst f4
    obtain ⟨_, jj, zz, _, e2, _, _, _, _, e6, e7⟩ := tiOf_parts (hL e ie hte)
    rw [g5] at e2; cases e2
    have hzs : zz.cells.size = sz := by
      have hl := (svCells_val (St := c.St) (w := c.w) (svOf_val e7)).length
      rw [Nat.eq_of_beq_eq_true hz] at hl
      simpa using hl
    obtain ⟨news, s1, s2, s3⟩ := src_of hsr.h (S.ev_val hsr (by rw [evT_eq]; exact hy)) hs.rows hone f1
    have hv := S.ev_val hsr (x := x) (by rw [evT_eq]; exact hx)
    generalize hp : a.eval x = p at hv
    have key : ∃ v w', (Builtin.append_ #[t1, tx] ty #[p, a.eval y]).run P c.w = .ok v w' ∧ AppOk c h sz rows2 (some id) v w' := by
      cases hv with
      | lslr _ _ cap T size hi h2 h3 => exact app_first hsr.h hb h0 hne2 g1 g5 e6 g6 hzs h2 h3 s1 s2 s3 h63 (by rw [g7]; exact h48)
      | lsl _ _ _ _ cap T size a1 a2 a3 a4 =>
        have hc0 : cap = 0 := a2.2 rfl
        subst hc0
        have hpos : 0 < rows2.length := List.length_pos_iff.2 hne2
        have := app_grow (P := P) (ty := ty) (rows := []) (olds := []) (c := c) (h := h) hsr.h (some id) (base := some ⟨c.ι id, 1 * sz, none⟩) (sCap := 0) g1 g5 e6 g6 hzs (firstCells_zero sz _ _ _) .nil (by simp) (by simp) s1 s2 s3 (by simpa using hpos) (by simpa using h63) (by rw [g7]; simpa using h48)
        simpa using this
    obtain ⟨v, w', hrun, c', rfl, hn', hrel, hev, hv⟩ := key
    have hcn : c.n = n := hsr.n
    rw [hcn] at hrel hev hv
    refine ⟨_, _, n + 1, v, c', ?_, k, hev, by rw [hn', hcn], hrel, hv⟩
    simp [execOp, resolve, invoke, builtin, hp, hrun]
/-- A temporary's value, said in other words. -/
theorem Wk.tmp {N n : Nat} {t t' : List (Nat × AV)} {h : Heap} (ht : ∀ (c : Cfg) (i : Nat) (y : AV), look t' i = some y → ∃ x, look t i = some x ∧ ∀ v, AVal c x v → AVal c y v) : Wk ⟨N, n, t, h⟩ ⟨N, n, t', h⟩ := fun c a hs => by
  refine ⟨c, ⟨hs.defers, hs.n, ⟨hs.t.size, fun i y e => ?_⟩, hs.h⟩, .refl _ _⟩
  obtain ⟨x, h1, h2⟩ := ht c i y e
  obtain ⟨v, h3, h4⟩ := hs.t.get i x h1
  exact ⟨v, h3, h2 v h4⟩
theorem room_st {c : Cfg} {id k : Nat} {v : Value} (h : AVal c (.lsl id k 1 0) v) : AVal c (.st (.sl k [])) v := by
  cases h with
  | lslr _ _ cap T size hi h2 h3 => exact .st _ _ (.slnil _ _ _)
  | lsl _ _ _ _ cap T size a1 a2 a3 a4 => exact .st _ _ (.slnil _ _ _)
end
end Go.Proofs.YtohmbpcjapjkbaaGreatDoorAl
namespace Go.Proofs.YtohmbpcjapjkbaaGreatDoorAl
/-- A call that makes what it returns, and changes nothing that is older. -/
theorem ACalls.raw0 {P : Program} {f : Nat} {svs : List SV} {x : AV}
    (h : ∀ (St : Nat → Prop) (w : World) (vals : List Value), (∀ b, St b → b < w.heap.size) → SList St w svs vals → Calls P f vals.toArray w fun e w' => (∃ v, e = .returned v ∧ ∀ c, AVal c x v) ∧ RowKit.Below w.heap.size w w') :
    ACalls P f 0 (stAll svs) [] fun r h => r = x ∧ h = [] := by
  intro c vals hn hr hv
  have hs : SList c.St c.w svs vals := stAll_inv hv
  refine (h c.St c.w vals hr.st hs).mono fun e w' ⟨⟨v, he, hx⟩, hb⟩ => ?_
  have hgo : CGo c { c with w := w' } := ⟨Nat.le_refl _, fun _ _ => rfl, ⟨fun _ h => h, fun k hk => hb.block k (hr.st k hk)⟩, fun k s hs => by
    have hk : k < c.w.heap.size := by
      rcases Nat.lt_or_ge k c.w.heap.size with h' | h'
      · exact h'
      · simp [World.shape?, Array.getElem?_eq_none h'] at hs
    show w'.shape? k = _
    rw [← hs]; simp only [World.shape?, hb.block k hk]⟩
  exact ⟨x, [], { c with w := w' }, v, ⟨rfl, rfl⟩, he, rfl, hx _, ⟨fun _ _ e => (by cases e), fun _ _ e => (by cases e), fun _ _ e => (by cases e), fun _ _ e => (by cases e), fun _ _ _ _ e => (by cases e), fun k hk => Nat.lt_of_lt_of_le (hr.st k hk) hb.size, fun _ _ _ e => (by cases e)⟩,
    ⟨hgo, hb.os, hb.tape, hb.output, hb.size, fun k hk _ => hb.block k hk, fun k hk => .inl hk, fun _ _ e => (by cases e)⟩⟩
end Go.Proofs.YtohmbpcjapjkbaaGreatDoorAl
namespace Go.Proofs.YtohmbpcjapjkbaaGreatDoorAl
/-- A slice in a new block. -/
def NewSl (c : Cfg) (w' : World) (k : Nat) (rows : List (List SV)) (v : Value) : Prop :=
  (v = .slice none 0 0 ∧ rows = []) ∨ ∃ (g cap : Nat) (cs : Array Value) (T : TypeId) (fr : Nat × Nat), v = .slice (some ⟨g, 0, none⟩) rows.length cap ∧ rows ≠ [] ∧ c.w.heap.size ≤ g ∧ w'.heap[g]? = some (.cells cs T fr) ∧
    (∀ j, j < cs.size → ¬ (fr.1 ≤ j ∧ j < fr.2)) ∧ rows.length ≤ cap ∧ cap * k ≤ cs.size ∧ SRows c.St w' k g 0 rows
theorem hrel_new {c : Cfg} {h : Heap} {w' : World} {k : Nat} {rows : List (List SV)} (hr : HRel c h) (hb : RowKit.Below c.w.heap.size c.w w') (g : Nat)
    (hg : rows ≠ [] → c.w.heap.size ≤ g ∧ ∃ (cs : Array Value) (T : TypeId) (fr : Nat × Nat), w'.heap[g]? = some (.cells cs T fr) ∧ (∀ j, j < cs.size → ¬ (fr.1 ≤ j ∧ j < fr.2)) ∧ rows.length * k ≤ cs.size ∧ SRows c.St w' k g 0 rows) :
    HRel ⟨fun j => if j = c.n then g else c.ι j, c.n + 1, c.St, w'⟩ ((c.n, .arr k rows) :: h) ∧ Ev c h ⟨fun j => if j = c.n then g else c.ι j, c.n + 1, c.St, w'⟩ ((c.n, .arr k rows) :: h) := by
  have hshape : ∀ b s, c.w.shape? b = some s → w'.shape? b = some s := fun b s hs => by
    have hk : b < c.w.heap.size := by
      rcases Nat.lt_or_ge b c.w.heap.size with h' | h'
      · exact h'
      · simp [World.shape?, Array.getElem?_eq_none h'] at hs
    rw [← hs]; simp only [World.shape?, hb.block b hk]
  generalize hc : (⟨fun j => if j = c.n then g else c.ι j, c.n + 1, c.St, w'⟩ : Cfg) = c'
  have hcw : c'.w = w' := by rw [← hc]
  have hcn : c'.n = c.n + 1 := by rw [← hc]
  have hcS : c'.St = c.St := by rw [← hc]
  have iold : ∀ j, j < c.n → c'.ι j = c.ι j := fun j hj => by rw [← hc]; exact if_neg (Nat.ne_of_lt hj)
  have inew : c'.ι c.n = g := by rw [← hc]; exact if_pos rfl
  have hgo : Goes c.St c'.St c.w c'.w := by rw [hcS, hcw]; exact ⟨fun _ h => h, fun b hb' => hb.block b (hr.st b hb')⟩
  have gg : CGo c c' := ⟨by rw [hcn]; exact Nat.le_succ _, iold, hgo, by rw [hcw]; exact hshape⟩
  clear hc
  have part : ∀ i y, look ((c.n, AO.arr k rows) :: h) i = some y → (i = c.n ∧ y = .arr k rows) ∨ (i ≠ c.n ∧ look h i = some y ∧ c'.ι i = c.ι i) := fun i y e => by
    rw [look_cons] at e
    split at e
    · rename_i hi'; cases e; exact .inl ⟨hi'.symm, rfl⟩
    · rename_i hi'
      exact .inr ⟨fun x => hi' x.symm, e, iold i (hr.lt i y e)⟩
  refine ⟨⟨fun i y e => ?_, fun i y e r => ?_, fun i y e r => ?_, fun i y e r => ?_, fun i j y y' e r e' r' hij => ?_, fun b hb' => ?_, fun i b o e => ?_⟩, ?_⟩
  · rw [hcn]
    rcases part i y e with ⟨rfl, _⟩ | ⟨_, h1, _⟩
    · exact Nat.lt_succ_self _
    · exact Nat.lt_succ_of_lt (hr.lt i y h1)
  · rw [hcw]
    rcases part i y e with ⟨rfl, rfl⟩ | ⟨_, h1, h3⟩
    · rw [inew]
      obtain ⟨_, cs, T, fr, g1, _⟩ := hg r
      rcases Nat.lt_or_ge g w'.heap.size with h' | h'
      · exact h'
      · rw [Array.getElem?_eq_none h'] at g1; cases g1
    · rw [h3]; exact Nat.lt_of_lt_of_le (hr.blk i y h1 r) hb.size
  · rw [hcS]
    rcases part i y e with ⟨rfl, rfl⟩ | ⟨_, h1, h3⟩
    · rw [inew]
      exact fun hs => absurd (hr.st g hs) (Nat.not_lt.2 (hg r).1)
    · rw [h3]; exact hr.own i y h1 r
  · rcases part i y e with ⟨rfl, rfl⟩ | ⟨_, h1, h3⟩
    · rw [inew]
      obtain ⟨_, cs, T, fr, g1, g2, g3, g4⟩ := hg r
      exact ⟨cs, T, fr, by rw [hcw]; exact g1, g2, g3, by rw [hcS, hcw]; exact g4⟩
    · rw [h3]; exact (hr.rel i y h1 r).goes gg (by rw [hcw]; exact hb.block _ (hr.blk i y h1 r))
  · rcases part i y e with ⟨rfl, rfl⟩ | ⟨n1, h1, h3⟩ <;> rcases part j y' e' with ⟨rfl, rfl⟩ | ⟨n1', h1', h3'⟩
    · rfl
    · rw [inew, h3'] at hij
      have := hr.blk j y' h1' r'
      have := (hg r).1
      omega
    · rw [inew, h3] at hij
      have := hr.blk i y h1 r
      have := (hg r').1
      omega
    · rw [h3, h3'] at hij; exact hr.inj i j y y' h1 r h1' r' hij
  · rw [hcS] at hb'
    rw [hcw]
    exact Nat.lt_of_lt_of_le (hr.st b hb') hb.size
  · rcases part i _ e with ⟨_, h⟩ | ⟨_, h1, _⟩
    · cases h
    · exact Fct.goes gg (hr.fact i b o h1)
  · refine ⟨gg, by rw [hcw]; exact hb.os, by rw [hcw]; exact hb.tape, by rw [hcw]; exact hb.output, by rw [hcw]; exact hb.size, fun b hb' _ => by rw [hcw]; exact hb.block b hb', fun b hb' => .inl (by rw [← hcS]; exact hb'), fun i y e r => ?_⟩
    rcases part i y e with ⟨rfl, rfl⟩ | ⟨_, h1, h3⟩
    · rw [inew]; exact .inl (hg r).1
    · exact .inr ⟨i, y, h1, r, h3.symm⟩
/-- A call that leaves what is older, and makes one slice. -/
theorem ACalls.rawN {P : Program} {f m k : Nat} {args : List AV} {h0 : Heap} {rows : List (List SV)}
    (h : ∀ (c : Cfg) (vals : List Value), c.n = m → HRel c h0 → AList c args vals → Calls P f vals.toArray c.w fun e w' => (∃ v, e = .returned v ∧ NewSl c w' k rows v) ∧ RowKit.Below c.w.heap.size c.w w') :
    ACalls P f m args h0 fun r h => r = .lsl m k 0 rows.length ∧ h = (m, .arr k rows) :: h0 := by
  intro c vals hn hr hv
  subst hn
  refine (h c vals rfl hr hv).mono fun e w' ⟨⟨v, he, hv'⟩, hb⟩ => ?_
  rcases hv' with ⟨rfl, rfl⟩ | ⟨g, cap, cs, T, fr, rfl, hne, g1, g2, g3, g4, g5, g6⟩
  · obtain ⟨k1, k2⟩ := hrel_new (k := k) (rows := []) hr hb 0 (fun h => absurd rfl h)
    exact ⟨_, _, _, _, ⟨rfl, rfl⟩, he, rfl, .lsl0 _ _ _ (Nat.lt_succ_self _), k1, k2⟩
  · have hmul : rows.length * k ≤ cap * k := Nat.mul_le_mul_right k g4
    obtain ⟨k1, k2⟩ := hrel_new (k := k) (rows := rows) hr hb g (fun _ => ⟨g1, cs, T, fr, g2, g3, Nat.le_trans hmul g5, g6⟩)
    refine ⟨_, _, _, _, ⟨rfl, rfl⟩, he, rfl, ?_, k1, k2⟩
    have hi : (fun j => if j = c.n then g else c.ι j) c.n = g := if_pos rfl
    have := AVal.lsl (c := ⟨fun j => if j = c.n then g else c.ι j, c.n + 1, c.St, w'⟩) c.n k 0 rows.length cap T cs.size (Nat.lt_succ_self _) ⟨g4, fun h => absurd (List.length_eq_zero_iff.1 h) hne⟩ (by rw [show (⟨fun j => if j = c.n then g else c.ι j, c.n + 1, c.St, w'⟩ : Cfg).ι c.n = g from hi]; exact shape_of g2) (by rw [Nat.zero_add]; exact g5)
    rw [show (⟨fun j => if j = c.n then g else c.ι j, c.n + 1, c.St, w'⟩ : Cfg).ι c.n = g from hi, Nat.zero_mul] at this
    exact this
section
variable {P : Program} {ops : Array Oper} {j : Nat} {l : List Oper} {q : S → Prop} {N n : Nat} {t : Tm} {h : Heap} {d : Nat} {ty : TypeId} {pos : String} {af : Array Edge} {g : Option (Nat × Bool)}
/-- A call that brings new objects; which objects it is handed is said. -/
theorem st_callG {fo : Operand} {args : Array Operand} {ts : Array TypeId} {f m : Nat} {args0 ys : List AV} {h0 h1 h2 : Heap} {x x' : AV} (nl : List Nat) (B : Nat) (hc : ACalls P f m args0 h0 fun r h' => r = x ∧ h' = h1) (hb : HasBody P f)
    (hargs : callT t fo args.toList = some (f, ys)) (hm : nl.length = m) (hy : renL (nam nl n) args0 = ys)
    (hb0 : (belL m args0 && belH m h0 && okNames n nl && Nat.ble m (m + B) && x.bel (m + B) && belH (m + B) h1) = true) (hx : x.ren (nam nl n) = x') (hh : Sub (renH (nam nl n) h0) h) (h3 : frc (renH (nam nl n) h1 ++ delAll nl h) some = some h2)
    (k : OpsL P ops (j + 1) l ⟨N, n + B, (d, x') :: t, h2⟩ q) : OpG P ops j ⟨some d, .call ⟨.value fo, args, ts⟩, ty, pos, af, g⟩ l ⟨N, n, t, h⟩ q := by
  subst hm hx
  rw [frc_eq] at h3; cases h3
  simp only [Bool.and_eq_true] at hb0
  obtain ⟨⟨⟨⟨⟨b1, b2⟩, b3⟩, b4⟩, b5⟩, b6⟩ := hb0
  refine st_call nl (nl.length + B) hc hb (by rw [hy]; exact hargs) (by simp only [b1, b2, b3, b4, Bool.and_self]) hh ?_
  rintro r h' ⟨rfl, rfl⟩
  refine ⟨by simp only [b5, b6, Bool.and_self], ?_⟩
  rw [Nat.add_sub_cancel_left]
  exact k
end
end Go.Proofs.YtohmbpcjapjkbaaGreatDoorAl
namespace Go.Proofs.YtohmbpcjapjkbaaGreatDoorAl
theorem arr_rewr {c : Cfg} {h : Heap} {k : Nat} {rows : List (List SV)} (hr : HRel c h) {id : Nat} (hl : look h id = some (.arr k rows)) (h0 : rows ≠ []) {W : World} {cs cs' : Array Value} {T : TypeId} {fr : Nat × Nat} {rows' : List (List SV)}
    (hblk : c.w.heap[c.ι id]? = some (.cells cs T fr)) (hnew : W.heap[c.ι id]? = some (.cells cs' T fr)) (hsz : cs'.size = cs.size) (hother : ∀ b, b < c.w.heap.size → c.ι id ≠ b → W.heap[b]? = c.w.heap[b]?)
    (hos : W.os = c.w.os ∧ W.tape = c.w.tape ∧ W.output = c.w.output ∧ c.w.heap.size ≤ W.heap.size) (hle : rows'.length * k ≤ cs'.size) (hrows : Goes c.St c.St c.w W → SRows c.St W k (c.ι id) 0 rows') :
    HRel { c with w := W } ((id, .arr k rows') :: del h id) ∧ Ev c h { c with w := W } ((id, .arr k rows') :: del h id) := by
  obtain ⟨cs0, T', fr', hblk', hfr, _, _⟩ := hr.rel id _ hl h0
  rw [hblk] at hblk'
  cases hblk'
  have hlt : c.ι id < c.w.heap.size := hr.blk id _ hl h0
  have hshape : ∀ b s, c.w.shape? b = some s → W.shape? b = some s := fun b s hs => by
    have hk : b < c.w.heap.size := by
      rcases Nat.lt_or_ge b c.w.heap.size with h' | h'
      · exact h'
      · simp [World.shape?, Array.getElem?_eq_none h'] at hs
    by_cases hb : c.ι id = b
    · subst hb; rw [shape_of hblk] at hs; rw [shape_of hnew, hsz, ← hs]
    · rw [← hs]; simp only [World.shape?, hother b hk hb]
  have hgo : Goes c.St c.St c.w W := ⟨fun _ h => h, fun b hb => hother b (hr.st b hb) fun e => hr.own id _ hl h0 (e ▸ hb)⟩
  have g : CGo c { c with w := W } := ⟨Nat.le_refl _, fun _ _ => rfl, hgo, hshape⟩
  have part : ∀ i y, look ((id, AO.arr k rows') :: del h id) i = some y → (i = id ∧ y = .arr k rows') ∨ (i ≠ id ∧ look h i = some y) := fun i y e => by
    rw [look_cons, look_del] at e
    split at e
    · rename_i hi; cases e; exact .inl ⟨hi.symm, rfl⟩
    · rename_i hi
      exact .inr ⟨fun e' => hi e'.symm, by simpa [hi] using e⟩
  have hne : ∀ i y, look h i = some y → y.real → i ≠ id → c.ι i ≠ c.ι id := fun i y e r hi' he => hi' (hr.inj i id y _ e r hl h0 he)
  refine ⟨⟨fun i y e => ?_, fun i y e r => ?_, fun i y e r => ?_, fun i y e r => ?_, fun i j y y' e r e' r' hij => ?_, fun b hb => ?_, fun i b o e => ?_⟩, ?_⟩
  · rcases part i y e with ⟨rfl, _⟩ | ⟨_, h1⟩
    · exact hr.lt _ _ hl
    · exact hr.lt i y h1
  · refine Nat.lt_of_lt_of_le ?_ hos.2.2.2
    rcases part i y e with ⟨rfl, _⟩ | ⟨_, h1⟩
    · exact hlt
    · exact hr.blk i y h1 r
  · rcases part i y e with ⟨rfl, _⟩ | ⟨_, h1⟩
    · exact hr.own _ _ hl h0
    · exact hr.own i y h1 r
  · rcases part i y e with ⟨rfl, rfl⟩ | ⟨h2, h1⟩
    · exact ⟨cs', T, fr, hnew, fun j hj => hfr j (by omega), hle, hrows hgo⟩
    · exact (hr.rel i y h1 r).goes g (hother _ (hr.blk i y h1 r) fun x => hne i y h1 r h2 x.symm)
  · rcases part i y e with ⟨rfl, _⟩ | ⟨n1, h1⟩ <;> rcases part j y' e' with ⟨rfl, _⟩ | ⟨n1', h1'⟩
    · rfl
    · exact absurd hij.symm (hne j y' h1' r' n1')
    · exact absurd hij (hne i y h1 r n1)
    · exact hr.inj i j y y' h1 r h1' r' hij
  · exact Nat.lt_of_lt_of_le (hr.st b hb) hos.2.2.2
  · rcases part i _ e with ⟨_, h⟩ | ⟨_, h1⟩
    · cases h
    · exact Fct.goes g (hr.fact i b o h1)
  · refine ⟨g, hos.1, hos.2.1, hos.2.2.1, hos.2.2.2, fun b hb hb' => hother b hb (hb' id _ hl h0), fun _ h => .inl h, fun i y e r => ?_⟩
    rcases part i y e with ⟨rfl, _⟩ | ⟨_, h1⟩
    · exact .inr ⟨_, _, hl, h0, rfl⟩
    · exact .inr ⟨i, y, h1, r, rfl⟩
end Go.Proofs.YtohmbpcjapjkbaaGreatDoorAl
namespace Go.Proofs.YtohmbpcjapjkbaaGreatDoorAl
section
variable {P : Program} {ops : Array Oper} {j : Nat} {l : List Oper} {q : S → Prop} {s : S} {N n : Nat} {t : Tm} {h : Heap} {Q : Exit → S → Prop} {L : Lay}
variable {d : Nat} {op : Op} {ty : TypeId} {pos : String} {af : Array Edge} {g : Option (Nat × Bool)}
/-- Is a slice of ours nil? Nobody knows: if it is, it has no rows. -/
theorem st_nilLs {op : BinOp} {t1 t2 e sz bytes id kk off len : Nat} {x : Operand} {i : TI} (hL : LayOk P L) (hx : evT t x = some (.lsl id kk off len)) (ht : look L t1 = some i) (hk : i.k = .slice e sz bytes) (ho : (match op with | .eql => true | .neq => true | _ => false) = true)
    (k : ∀ b : Bool, (b = true → len = 0) → OpsL P ops (j + 1) l ⟨N, n, (d, .st (.bool (nilR op b))) :: t, h⟩ q) :
    OpG P ops j ⟨some d, .binOp op t1 x (.const (.slice none 0 0)) t2, ty, pos, af, g⟩ l ⟨N, n, t, h⟩ q := by
  refine OpOk.intro fun c a hs => ?_
  have hv := S.ev_val hs (x := x) (by rw [evT_eq]; exact hx)
  obtain ⟨dd, _, _, g1, _, g3, _⟩ := tiOf_parts (hL t1 i ht)
  rw [hk] at g3
  obtain ⟨g4, _⟩ := tk_inv g3
  subst g4
  generalize hp : a.eval x = p at hv
  have key : ∃ b : Bool, (b = true → len = 0) ∧ (execOp a.eval ⟨some d, .binOp op t1 x (.const (.slice none 0 0)) t2, ty, pos, af, g⟩).run P c.w = .ok (.value (.bool (nilR op b))) c.w := by
    have hrun : ∀ (ad : Option Addr) (m cap : Nat), (Op.equal t1 (.slice ad m cap) (.slice none 0 0)).run P c.w = .ok ad.isNone c.w := by
      intro ad m cap
      refine eq_run fun n => ?_
      cases ad <;> simp [Op.equalIn, run_underlying g1]
    have hg : ∀ (v : Value), (eqGuard op t1 x (.const (.slice none 0 0)) v (.slice none 0 0)).run P c.w = .ok () c.w := fun v => by
      unfold eqGuard; cases op <;> simp
    have fin : ∀ (ad : Option Addr) (m cap : Nat), p = .slice ad m cap → (execOp a.eval ⟨some d, .binOp op t1 x (.const (.slice none 0 0)) t2, ty, pos, af, g⟩).run P c.w = .ok (.value (.bool (nilR op ad.isNone))) c.w := by
      intro ad m cap e
      subst e
      have hcv : a.eval (.const (.slice none 0 0)) = .slice none 0 0 := rfl
      simp only [execOp, hp, hcv]
      cases op <;> first | cases ho | skip
      · simp [hg, binOp, hrun, nilR]
      · simp [hg, binOp, hrun, nilR]
    cases hv with
    | lsl0 _ _ ad _ => exact ⟨ad.isNone, fun _ => rfl, fin _ _ _ rfl⟩
    | lsl _ _ _ _ cap T size _ _ _ _ => exact ⟨false, fun e => (by cases e), fin _ _ _ rfl⟩
    | lslr _ _ cap T size _ _ _ => exact ⟨false, fun e => (by cases e), fin _ _ _ rfl⟩
  obtain ⟨b, hb, hrun⟩ := key
  exact ⟨_, h, n, _, c, hrun, k b hb, .refl _ _, hs.n, hs.h, .st _ _ (.bool _)⟩
variable {done : List Mini} {i : Nat} {A D : List Nat} {le : List Entry} {x : AV} {F : Heap} {fn : List Nat}
/-- Any operation: which objects it touches is said, and what becomes of them. -/
theorem dwG (fp : List Nat) {T : List Nat} {hout h' : Heap} {n' : Nat} (ho : ops[i]? = some ⟨some d, op, ty, pos, af, g⟩) (hg : gst ops g (delT D t) = some true) (hd : Nat.blt d N = true)
    (hF : frc (keepL fp h) some = some F) (hs : OpG P #[] 0 ⟨some d, op, ty, pos, af, g⟩ [] ⟨N, n, delT D t, F⟩ (fun s' => s' = ⟨N, n', (d, x) :: delT D t, hout⟩)) (hn : Nat.ble n n' = true)
    (hT : frc (hout.map (·.1) ++ fp) some = some T) (hm : sepB A (F.map (·.1)) x T hout done = true) (hf : frc (F.map (·.1)) some = some fn) (hh : frc (hout ++ delAll T h) some = some h')
    (k : DW P ops N q (⟨i, n, n', T, fn⟩ :: done) le ⟨N, n', (d, x) :: t, h'⟩) : DW P ops N q done ((i, A, D) :: le) ⟨N, n, t, h⟩ := by
  rw [frc_eq] at hF hT hf hh; cases hF; cases hT; cases hf; cases hh
  refine ⟨⟨i, some d, A, delT D t, _, n, x, hout, n', _⟩, ⟨N, n', (d, x) :: t, _⟩, ⟨rfl, rfl, by simp [dstOf, ho], rfl, rfl, rfl, Nat.le_of_ble_eq_true hn, fun id o e => Sub.look (keepL_sub _ _) id o e, fun d' y e => ?_, fun id o' e => ?_, fun id hid => ?_, hd, ?_⟩, sep_all hm, k⟩
  · simp only at e
    rw [look_cons] at e
    split at e
    · rename_i h1; subst h1; cases e; exact .inl ⟨rfl, rfl⟩
    · rename_i h1; exact .inr ⟨fun e' => h1 (Option.some.inj e'), e⟩
  · simp only at e
    rw [look_app_eq] at e
    split at e
    · rename_i o hlo
      cases e
      exact .inl ⟨List.mem_append_left _ (List.mem_map_of_mem (f := (·.1)) (look_mem hlo)), hlo⟩
    · rename_i hlo
      rw [look_delAll'] at e
      split at e
      · cases e
      · rename_i h1; exact .inr ⟨h1, e⟩
  · simp only at hid ⊢
    have h1 : look hout id = none := by
      cases hlo : look hout id with
      | none => rfl
      | some o => exact absurd (List.mem_append_left _ (List.mem_map_of_mem (f := (·.1)) (look_mem hlo))) hid
    have h2 : look (keepL fp h) id = none := by
      cases hlo : look (keepL fp h) id with
      | none => rfl
      | some o =>
        have key : ∀ (is : List Nat), look (keepL is h) id = some o → id ∈ is := by
          intro is
          induction is with
          | nil => intro e; cases e
          | cons a r ih =>
            intro e
            simp only [keepL] at e
            split at e
            · rw [look_cons] at e
              split at e
              · rename_i h3; subst h3; simp
              · exact List.mem_cons_of_mem _ (ih e)
            · exact List.mem_cons_of_mem _ (ih e)
        exact absurd (List.mem_append_right _ (key _ hlo)) hid
    rw [h1, h2]
  · exact spec_run (r := ⟨i, some d, A, delT D t, _, n, x, hout, n', _⟩) ho hg hd rfl (fun d' e => by cases e; rw [look_cons, if_pos rfl]) (fun e => by cases e) hs
end
end Go.Proofs.YtohmbpcjapjkbaaGreatDoorAl
namespace Go.Proofs.YtohmbpcjapjkbaaGreatDoorAl
end Go.Proofs.YtohmbpcjapjkbaaGreatDoorAl
namespace Go.Proofs.YtohmbpcjapjkbaaGreatDoorAl
section
variable {P : Program} {ops : Array Oper} {j : Nat} {l : List Oper} {q : S → Prop} {N n : Nat} {t : Tm} {h : Heap} {d : Nat} {ty : TypeId} {pos : String} {af : Array Edge} {g : Option (Nat × Bool)} {L : Lay}
theorem st_bytesOf {t1 t2 e bytes : Nat} {x : Operand} {s : ByteArray} {i1 i2 ie : TI} (hL : LayOk P L) (hx : evT t x = some (.st (.str s))) (ht : look L t1 = some i1) (hk : i1.k = .string) (hu : look L t2 = some i2) (hk2 : i2.k = .slice e 1 bytes) (hte : look L e = some ie) (hke : ie.k = .int .u8)
    (k : OpsL P ops (j + 1) l ⟨N, n, (d, .st (.sl 1 (s.data.toList.map rowB))) :: t, h⟩ q) : OpG P ops j ⟨some d, .convert t1 t2 x, ty, pos, af, g⟩ l ⟨N, n, t, h⟩ q :=
  OpOk.intro fun c a hs => by
    have hv := st_inv (S.ev_val hs (x := x) (by rw [evT_eq]; exact hx))
    obtain ⟨_, _, _, g1, _, g3, _⟩ := tiOf_parts (hL t1 i1 ht)
    rw [hk] at g3
    have g4 := tk_inv g3
    subst g4
    obtain ⟨_, _, _, f1, _, f3, _⟩ := tiOf_parts (hL e ie hte)
    rw [hke] at f3
    have f4 := tk_inv f3
    subst f4
    obtain ⟨_, _, _, u1, _, u3, _⟩ := tiOf_parts (hL t2 i2 hu)
    rw [hk2] at u3
    obtain ⟨u4, _⟩ := tk_inv u3
    subst u4
    have hp : a.eval x = .string s := by
      generalize a.eval x = p at hv
      cases hv; rfl
    have hrun := run_bytes_of_string (P := P) c.w t1 t2 e s g1 u1 f1
    have hcap := grownCap_ge c.w s.size 0 e
    generalize grownCap c.w s.size 0 e = cap at *
    have hr1 := hrel_drew hs.h
    refine ⟨_, _, _, .slice (some ⟨c.w.heap.size, 0, none⟩) s.size cap, c.drew.allocSt (.cells (bytesRow s cap) e ((bytesRow s cap).size, (bytesRow s cap).size + 1)), ?_, k, ev_drew.trans (ev_allocSt hr1), hs.n, hrel_allocSt hr1, ?_⟩
    · simp only [execOp, hp, Sem.run_bind, hrun, Cfg.allocSt, Cfg.drew]; rfl
    · have hlen : (s.data.toList.map rowB).length = s.size := by rw [List.length_map, Array.length_toList]; rfl
      by_cases h0 : s.data.toList.map rowB = []
      · rw [h0]
        rw [h0] at hlen
        rw [← hlen]
        exact .st _ _ (.slnil _ _ _)
      · have hsl := SVal.sl (St := (c.drew.allocSt (.cells (bytesRow s cap) e ((bytesRow s cap).size, (bytesRow s cap).size + 1))).St) (w := (c.drew.allocSt (.cells (bytesRow s cap) e ((bytesRow s cap).size, (bytesRow s cap).size + 1))).w) 1 c.w.heap.size 0 cap (s.data.toList.map rowB) (.inr rfl)
          (SRows.of_flat (vs := s.data.toList.map fun b => Value.int .u8 b.toNat) (fun r hr => by obtain ⟨_, _, rfl⟩ := List.mem_map.1 hr; rfl) (rowB_cells _ _ _) (fun j v hj => by
            have : (c.drew.allocSt (.cells (bytesRow s cap) e ((bytesRow s cap).size, (bytesRow s cap).size + 1))).w.heap[c.drew.w.heap.size]? = some (.cells (bytesRow s cap) e ((bytesRow s cap).size, (bytesRow s cap).size + 1)) := heap_alloc_new
            have hjl := (List.getElem?_eq_some_iff.1 hj).1
            rw [List.length_map] at hjl
            have e2 : (bytesRow s cap)[j]? = some v := by
              rw [← hj, bytesRow, Array.getElem?_append_left (by simpa using hjl)]
              simp
            show (c.drew.allocSt _).w.cell? ⟨c.drew.w.heap.size, 0 + j, none⟩ = some v
            simp only [World.cell?, this, Nat.zero_add]
            exact e2)) (by omega)
        rw [hlen] at hsl
        exact .st _ _ hsl
/-- An element of an array in a box of one's own. -/
theorem st_indexP {t1 e len : Nat} {x y : Operand} {ie : TI} {id off : Nat} {kk : IntKind} {m : Int} (hL : LayOk P L) (hu : P.underlying t1 = some (.array len e)) (hx : evT t x = some (.ptr id off)) (hy : evT t y = some (.st (.int kk m)))
    (hte : look L e = some ie) (h0 : 0 ≤ m) (h1 : m < len)
    (k : OpsL P ops (j + 1) l ⟨N, n, (d, .ptr id (off + m.toNat * ie.size)) :: t, h⟩ q) : OpG P ops j ⟨some d, .indexAddr t1 x y, ty, pos, af, g⟩ l ⟨N, n, t, h⟩ q :=
  OpOk.pure (fun c a hs => by
    have hv := S.ev_val hs (x := x) (by rw [evT_eq]; exact hx)
    have hm := int_inv (S.ev_val hs (x := y) (by rw [evT_eq]; exact hy))
    generalize hp : a.eval x = p at hv
    obtain ⟨_, jj, _, _, e2, _, e4, _, _, _, _⟩ := tiOf_parts (hL e ie hte)
    cases hv with
    | ptr _ _ hi =>
      refine ⟨.pointer (some ⟨c.ι id, off + m.toNat * ie.size, none⟩), ?_, .ptr _ _ hi⟩
      have hrun : (Instr.indexAt t1 (.pointer (some ⟨c.ι id, off, none⟩)) (.int kk m)).run P c.w = .ok (.pointer (some ⟨c.ι id, off + m.toNat * ie.size, none⟩)) c.w := by
        unfold Instr.indexAt
        simp [asIntOf, run_underlying hu, sizeOf, typeInfo, e2, h0, h1, e4, Instr.sureAddr, add_lit]
      simp only [execOp, hp, hm, Sem.run_bind, hrun]; rfl) k
end
end Go.Proofs.YtohmbpcjapjkbaaGreatDoorAl
namespace Go.Proofs.YtohmbpcjapjkbaaGreatDoorAl
theorem Wk.cellsLe {N n : Nat} {t : List (Nat × AV)} {h : Heap} {cs cs' : List AV} {h' : Heap} (o : Nat) (ho : look h o = some (.cells cs)) (hle : AVLeL cs cs') (hh : frc (del h o) some = some h') : Wk ⟨N, n, t, h⟩ ⟨N, n, t, (o, .cells cs') :: h'⟩ := fun c a hs => by
  rw [frc_eq] at hh; cases hh
  have src : ∀ id p, look ((o, AO.cells cs') :: del h o) id = some p → p.real → ∃ p', look h id = some p' ∧ p'.real := fun id p e r => by
    rw [look_cons] at e
    split at e
    · rename_i hi; subst hi; exact ⟨_, ho, trivial⟩
    · rw [look_del] at e
      split at e
      · cases e
      · exact ⟨p, e, r⟩
  refine ⟨c, ⟨hs.defers, hs.n, hs.t, ?_⟩, ⟨rfl, rfl, fun _ h => h, fun _ h => .inl h, fun id p e r => let ⟨p', e', r'⟩ := src id p e r; ⟨id, p', e', r', rfl⟩⟩⟩
  refine ⟨fun id p e => ?_, fun id p e r => let ⟨p', e', r'⟩ := src id p e r; hs.h.blk id p' e' r', fun id p e r => let ⟨p', e', r'⟩ := src id p e r; hs.h.own id p' e' r', fun id p e r => ?_, fun i j' p p' e r e' r' hij => ?_, hs.h.st, fun id b p e => ?_⟩
  · rw [look_cons] at e
    split at e
    · rename_i hi; subst hi; exact hs.h.lt _ _ ho
    · rw [look_del] at e
      split at e
      · cases e
      · exact hs.h.lt id p e
  · rw [look_cons] at e
    split at e
    · rename_i hi; subst hi; cases e
      obtain ⟨vs, T, fr, g1, g2, g3⟩ := hs.h.rel o _ ho trivial
      exact ⟨vs, T, fr, g1, g2, hle _ _ g3⟩
    · rw [look_del] at e
      split at e
      · cases e
      · exact hs.h.rel id p e r
  · obtain ⟨x1, y1, z1⟩ := src i p e r
    obtain ⟨x2, y2, z2⟩ := src j' p' e' r'
    exact hs.h.inj i j' x1 x2 y1 z1 y2 z2 hij
  · rw [look_cons] at e
    split at e
    · cases e
    · rw [look_del] at e
      split at e
      · cases e
      · exact hs.h.fact id b p e
end Go.Proofs.YtohmbpcjapjkbaaGreatDoorAl
namespace Go.Proofs.YtohmbpcjapjkbaaGreatDoorAl
theorem Wk.arrLe {N n : Nat} {t : List (Nat × AV)} {h : Heap} {k : Nat} {rows rows' : List (List SV)} {h' : Heap} (o : Nat) (ho : look h o = some (.arr k rows)) (hle : RLe rows rows') (hh : frc (del h o) some = some h') : Wk ⟨N, n, t, h⟩ ⟨N, n, t, (o, .arr k rows') :: h'⟩ := fun c a hs => by
  rw [frc_eq] at hh; cases hh
  have hnil : rows' ≠ [] → rows ≠ [] := fun h e => by subst e; have := hle.len; cases rows' with
    | nil => exact h rfl
    | cons => simp at this
  have src : ∀ id p, look ((o, AO.arr k rows') :: del h o) id = some p → p.real → ∃ p', look h id = some p' ∧ p'.real := fun id p e r => by
    rw [look_cons] at e
    split at e
    · rename_i hi; subst hi; cases e; exact ⟨_, ho, hnil r⟩
    · rw [look_del] at e
      split at e
      · cases e
      · exact ⟨p, e, r⟩
  refine ⟨c, ⟨hs.defers, hs.n, hs.t, ?_⟩, ⟨rfl, rfl, fun _ h => h, fun _ h => .inl h, fun id p e r => let ⟨p', e', r'⟩ := src id p e r; ⟨id, p', e', r', rfl⟩⟩⟩
  refine ⟨fun id p e => ?_, fun id p e r => let ⟨p', e', r'⟩ := src id p e r; hs.h.blk id p' e' r', fun id p e r => let ⟨p', e', r'⟩ := src id p e r; hs.h.own id p' e' r', fun id p e r => ?_, fun i j' p p' e r e' r' hij => ?_, hs.h.st, fun id b p e => ?_⟩
  · rw [look_cons] at e
    split at e
    · rename_i hi; subst hi; exact hs.h.lt _ _ ho
    · rw [look_del] at e
      split at e
      · cases e
      · exact hs.h.lt id p e
  · rw [look_cons] at e
    split at e
    · rename_i hi; subst hi; cases e
      obtain ⟨cs, T, fr, g1, g2, g3, g4⟩ := hs.h.rel o _ ho (hnil r)
      exact ⟨cs, T, fr, g1, g2, by rw [← hle.len]; exact g3, g4.le hle⟩
    · rw [look_del] at e
      split at e
      · cases e
      · exact hs.h.rel id p e r
  · obtain ⟨x1, y1, z1⟩ := src i p e r
    obtain ⟨x2, y2, z2⟩ := src j' p' e' r'
    exact hs.h.inj i j' x1 x2 y1 z1 y2 z2 hij
  · rw [look_cons] at e
    split at e
    · cases e
    · rw [look_del] at e
      split at e
      · cases e
      · exact hs.h.fact id b p e
end Go.Proofs.YtohmbpcjapjkbaaGreatDoorAl
namespace Go.Proofs.YtohmbpcjapjkbaaGreatDoorAl
theorem ACalls.lessR {P : Program} {f m : Nat} {args : List AV} {h h1 : Heap} {x : AV} (k : ACalls P f m args h fun r h' => r = x ∧ h' = h1) : ACalls P f m args h fun r h' => r = .top ∧ h' = h1 :=
  fun c vals e1 e2 e3 => (k c vals e1 e2 e3).mono fun _ _ ⟨r, h', c', v, ⟨_, b⟩, u1, u2, _, u4, u5⟩ => ⟨_, h', c', v, ⟨rfl, b⟩, u1, u2, .top _, u4, u5⟩
end Go.Proofs.YtohmbpcjapjkbaaGreatDoorAl
