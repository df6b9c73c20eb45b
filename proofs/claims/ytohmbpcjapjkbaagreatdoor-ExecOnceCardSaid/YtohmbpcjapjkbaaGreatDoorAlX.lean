/- The A-logic, part 23: append, both ways. -/
import Derived.Test.YtohmbpcjapjkbaaGreatDoorAlO
set_option linter.all false
namespace Go.Proofs.YtohmbpcjapjkbaaGreatDoorAl

theorem setBlk_self {w : World} {b : Nat} {o : Obj} (h : w.heap[b]? = some o) : setBlk w b o = w := by
  have hlt : b < w.heap.size := by
    rcases Nat.lt_or_ge b w.heap.size with h' | h'
    · exact h'
    · simp [Array.getElem?_eq_none h'] at h
  have e : w.heap[b] = o := by simpa [Array.getElem?_eq_getElem hlt] using h
  unfold setBlk
  subst e
  have e2 : w.heap.setIfInBounds b w.heap[b] = w.heap := by
    apply Array.ext_getElem?
    intro j
    rw [Array.getElem?_setIfInBounds]
    split
    · rename_i hj; subst hj; simp [hlt]
    · rfl
  rw [e2]
theorem setBlk_twice {w : World} {b : Nat} {o o' : Obj} : setBlk (setBlk w b o) b o' = setBlk w b o' := by
  unfold setBlk; simp
theorem setCells_blk {b : Nat} {T : TypeId} {fr : Nat × Nat} : ∀ (us : List Value) (o : Nat) (cs : Array Value) (w : World), w.heap[b]? = some (.cells cs T fr) →
    ∃ cs', w.setCells b o us = setBlk w b (.cells cs' T fr) ∧ cs'.size = cs.size
  | [], o, cs, w, h => ⟨cs, (setBlk_self h).symm, rfl⟩
  | u :: us, o, cs, w, h => by
    have hlt : b < w.heap.size := by
      rcases Nat.lt_or_ge b w.heap.size with h' | h'
      · exact h'
      · simp [Array.getElem?_eq_none h'] at h
    have h1 := setCell_eq (off := o) h u
    obtain ⟨cs', g1, g2⟩ := setCells_blk us (o + 1) (cs.setIfInBounds o u) (w.setCell ⟨b, o, none⟩ u) (by rw [h1]; exact setBlk_same hlt)
    refine ⟨cs', ?_, by simpa using g2⟩
    show (w.setCell ⟨b, o, none⟩ u).setCells b (o + 1) us = _
    rw [g1, h1, setBlk_twice]

section
variable {P : Program} {c : Cfg} {h : Heap} {k e tx t ty : Nat} {ii : TypeInfo} {z x : Value} {rows rows2 : List (List SV)} {news : List Value}

/-- What an append leaves behind. -/
def AppOk (c : Cfg) (h : Heap) (k : Nat) (rows : List (List SV)) (o : Option Nat) (v : Value) (w' : World) : Prop :=
  ∃ c' : Cfg, c'.w = w' ∧ c'.n = c.n + 1 ∧ HRel c' ((c.n, .arr k rows) :: delO o h) ∧ Ev c h c' ((c.n, .arr k rows) :: delO o h) ∧ AVal c' (.lsl c.n k 0 rows.length) v

theorem delO_sub {o : Option Nat} {n : Nat} {a : AO} : ∀ i x, look ((n, a) :: delO o h) i = some x → look ((n, a) :: h) i = some x := fun i x e => by
  rw [look_cons] at e ⊢
  split
  · rename_i hi; rw [if_pos hi] at e; exact e
  · rename_i hi; rw [if_neg hi] at e; exact (look_delO e).1

/-- No room: a new row. -/
theorem app_grow (hr : HRel c h) (o : Option Nat) {base : Option Addr} {sCap : Nat} {olds : List Value} (ht : P.underlying t = some (.slice e)) (hi : P.info? e = some ii) (hz : ii.zero = some z) (hk : ii.size = k) (hzs : z.cells.size = k)
    (hold : (Builtin.firstCells k rows.length (.slice base rows.length sCap)).run P c.w.drew = .ok olds.toArray c.w.drew) (ho : SList c.St c.w rows.flatten olds) (hol : olds.length = rows.length * k) (hrk : ∀ row ∈ rows, row.length = k)
    (hs : Src P k tx x rows2.length news c.w) (hn : SList c.St c.w rows2.flatten news) (hrk2 : ∀ row ∈ rows2, row.length = k) (hg : sCap < rows.length + rows2.length) (h63 : rows.length + rows2.length ≤ 140737488355328) (hb : (rows.length + rows2.length) * ii.bytes ≤ 140737488355328) :
    ∃ v w', (Builtin.append_ #[t, tx] ty #[.slice base rows.length sCap, x]).run P c.w = .ok v w' ∧ AppOk c h k (rows ++ rows2) o v w' := by
  subst hk
  have hrun := run_append_grow_src (P := P) (ty := ty) c.w t tx e ii z ht hi hz base rows.length sCap olds hold x rows2.length news hs hg (by omega) (growslice_fits hg hb)
  refine ⟨_, _, hrun, ?_⟩
  generalize hcap : grownCap c.w (rows.length + rows2.length) sCap e = cap at *
  have hge : rows.length + rows2.length ≤ cap := by rw [← hcap]; exact grownCap_ge _ _ _ _
  generalize hcs : (olds ++ news).toArray ++ Builtin.zeroCells z.cells (cap - (rows.length + rows2.length)) = cs at *
  have hlen : (olds ++ news).length = (rows.length + rows2.length) * ii.size := by rw [List.length_append, hol, hs.newsLen, Nat.add_mul]
  have hsz : cs.size = cap * ii.size := by
    rw [← hcs, Array.size_append, List.size_toArray, size_zeroCells, hzs, hlen, ← Nat.add_mul]; congr 1; omega
  have hget : ∀ j v, (olds ++ news)[j]? = some v → cs[j]? = some v := fun j v e => by
    have hj := (List.getElem?_eq_some_iff.1 e).1
    rw [← hcs, Array.getElem?_append_left (by simpa using hj)]
    simpa using e
  have hr1 := hrel_drew hr
  have g1 : CGo c.drew (c.drew.alloc (.cells cs e)) := go_alloc hr1 _
  have hall := ho.append hn
  have hrel := hrel_alloc hr1 (o := .cells cs e) (a := .arr ii.size (rows ++ rows2)) ⟨cs, e, (0, 0), heap_alloc_new, fun j _ hj => by omega, by rw [hsz, List.length_append]; exact Nat.mul_le_mul_right _ hge,
    SRows.of_flat (fun r hr => by
      rcases List.mem_append.1 hr with h | h
      · exact hrk r h
      · exact hrk2 r h) (by rw [List.flatten_append]; exact (hall.goes (go_drew.st)).goes g1.st) (fun j v hv => by
        have : (c.drew.alloc (.cells cs e)).w.heap[c.drew.w.heap.size]? = some (.cells cs e) := heap_alloc_new
        simp only [World.cell?, this, Nat.zero_add]
        exact hget j v hv)⟩
  refine ⟨c.drew.alloc (.cells cs e), rfl, rfl, hrel_sub' hrel delO_sub, (ev_drew.trans (ev_alloc hr1)).trans (ev_sub delO_sub), ?_⟩
  have hι : (c.drew.alloc (.cells cs e)).ι c.n = c.w.heap.size := if_pos rfl
  have hsh : (c.drew.alloc (.cells cs e)).w.shape? c.w.heap.size = some (e, cs.size) := shape_of (fr := (0, 0)) (heap_alloc_new (w := c.drew.w))
  have := AVal.lsl (c := c.drew.alloc (.cells cs e)) c.n ii.size 0 (rows.length + rows2.length) cap e cs.size (Nat.lt_succ_self _) ⟨hge, fun h0 => by omega⟩ (by rw [hι]; exact hsh) (by rw [hsz, Nat.zero_add]; exact Nat.le_refl _)
  rw [hι, Nat.zero_mul] at this
  rw [List.length_append]
  exact this

/-- Nothing is appended to nothing. -/
theorem app_none (hr : HRel c h) (o : Option Nat) {base : Option Addr} (ht : P.underlying t = some (.slice e)) (hi : P.info? e = some ii) (hk : ii.size = k) (hs : Src P k tx x 0 [] c.w) :
    ∃ v w', (Builtin.append_ #[t, tx] ty #[.slice base 0 0, x]).run P c.w = .ok v w' ∧ AppOk c h k [] o v w' := by
  subst hk
  refine ⟨.slice base 0 0, c.w, ?_, { c with n := c.n + 1 }, rfl, rfl, ?_, ?_, ?_⟩
  · rcases hs.kind with ⟨e', hk'⟩ | hk' <;> cases base <;> simp [Builtin.append_, run_underlying ht, run_underlying hk', sizeOf, typeInfo, hi, hs.len, hs.cells, storeCells]
  · have g : CGo c { c with n := c.n + 1 } := ⟨Nat.le_succ _, fun _ _ => rfl, ⟨fun _ h => h, fun _ _ => rfl⟩, fun _ _ h => h⟩
    have part : ∀ i y, look ((c.n, AO.arr ii.size []) :: delO o h) i = some y → y.real → look h i = some y := fun i y e r => by
      rw [look_cons] at e
      split at e
      · cases e; exact absurd rfl r
      · exact (look_delO e).1
    refine ⟨fun i y e => ?_, fun i y e r => hr.blk i y (part i y e r) r, fun i y e r => hr.own i y (part i y e r) r, fun i y e r => (hr.rel i y (part i y e r) r).goes g rfl,
      fun i j y y' e r e' r' => hr.inj i j y y' (part i y e r) r (part j y' e' r') r', hr.st, fun i b o e => ?_⟩
    rotate_left
    · rw [look_cons] at e
      split at e
      · cases e
      · exact hr.fact i b o (look_delO e).1
    rw [look_cons] at e
    split at e
    · rename_i hi; subst hi; exact Nat.lt_succ_self _
    · exact Nat.lt_succ_of_lt (hr.lt i y (look_delO e).1)
  · refine ⟨⟨Nat.le_succ _, fun _ _ => rfl, ⟨fun _ h => h, fun _ _ => rfl⟩, fun _ _ h => h⟩, rfl, rfl, rfl, Nat.le_refl _, fun _ _ _ => rfl, fun _ h => .inl h, fun i y e r => ?_⟩
    rw [look_cons] at e
    split at e
    · cases e; exact absurd rfl r
    · exact .inr ⟨i, y, (look_delO e).1, r, rfl⟩
  · exact .lsl0 _ _ _ (Nat.lt_succ_self _)

/-- There is room: written behind one's own rows. -/
theorem app_room (hr : HRel c h) {id sCap : Nat} {T : TypeId} {size : Nat} (hl : look h id = some (.arr k rows)) (h0 : rows ≠ []) (ht : P.underlying t = some (.slice e)) (hi : P.info? e = some ii) (hk : ii.size = k)
    (hsh : c.w.shape? (c.ι id) = some (T, size)) (hsz : sCap * k ≤ size) (hs : Src P k tx x rows2.length news c.w) (hn : SList c.St c.w rows2.flatten news) (hrk2 : ∀ row ∈ rows2, row.length = k) (hg : rows.length + rows2.length ≤ sCap) :
    ∃ v w', (Builtin.append_ #[t, tx] ty #[.slice (some ⟨c.ι id, 0, none⟩) rows.length sCap, x]).run P c.w = .ok v w' ∧ AppOk c h k (rows ++ rows2) (some id) v w' := by
  subst hk
  obtain ⟨cs, T', fr, hblk, hfr, hle, hrows⟩ := hr.rel id _ hl h0
  have hsh' := shape_of hblk
  rw [hsh] at hsh'
  cases hsh'
  obtain ⟨olds, ho1, ho2, ho3, ho4⟩ := hrows.flat
  have hlt : c.ι id < c.w.heap.size := hr.blk id _ hl h0
  have hfit : rows.length * ii.size + news.length ≤ cs.size := by
    rw [hs.newsLen, ← Nat.add_mul]
    exact Nat.le_trans (Nat.mul_le_mul_right _ hg) hsz
  have hcell : ∀ j, j < cs.size → c.w.cell? ⟨c.ι id, j, none⟩ = cs[j]? := fun j hj => by simp [World.cell?, hblk]
  have hthere : ∀ j, j < news.length → (c.w.cell? ⟨c.ι id, 0 + rows.length * ii.size + j, none⟩).isSome = true := fun j hj => by
    rw [hcell _ (by omega)]
    simp; omega
  have hrun := run_append_room_src (P := P) (ty := ty) c.w t tx e ii ht hi (c.ι id) 0 rows.length sCap x rows2.length news hs hg hthere (fun j hj => by
    have := hfr (0 + rows.length * ii.size + j) (by omega)
    simp only [World.frozen?, hblk]
    simp only [Bool.and_eq_false_iff, decide_eq_false_iff_not]
    omega)
  refine ⟨_, _, hrun, ?_⟩
  obtain ⟨cs', hw, hcs'⟩ := setCells_blk news (0 + rows.length * ii.size) cs c.w hblk
  have hnew : (c.w.setCells (c.ι id) (0 + rows.length * ii.size) news).heap[c.ι id]? = some (.cells cs' T fr) := by rw [hw]; exact setBlk_same hlt
  have hother : ∀ b, c.ι id ≠ b → (c.w.setCells (c.ι id) (0 + rows.length * ii.size) news).heap[b]? = c.w.heap[b]? := fun b hb => by rw [hw]; exact setBlk_other hb
  have hshape : ∀ b s, c.w.shape? b = some s → (c.w.setCells (c.ι id) (0 + rows.length * ii.size) news).shape? b = some s := fun b s hs => by
    by_cases hb : c.ι id = b
    · subst hb; rw [hsh] at hs; rw [shape_of hnew, hcs', ← hs]
    · rw [← hs]; simp only [World.shape?, hother b hb]
  have hin := World.cell?_setCells_in (c.ι id) news (0 + rows.length * ii.size) c.w hthere
  have hout := fun x => World.cell?_setCells_out (c.ι id) news (0 + rows.length * ii.size) c.w x
  generalize hW : c.w.setCells (c.ι id) (0 + rows.length * ii.size) news = W at *
  have hos : W.os = c.w.os ∧ W.tape = c.w.tape ∧ W.output = c.w.output ∧ W.heap.size = c.w.heap.size := by rw [hw]; exact ⟨rfl, rfl, rfl, setBlk_size⟩
  let c' : Cfg := ⟨fun j => if j = c.n then c.ι id else c.ι j, c.n + 1, c.St, W⟩
  have hgo : Goes c.St c.St c.w W := ⟨fun _ h => h, fun b hb => hother b fun e => hr.own id _ hl h0 (e ▸ hb)⟩
  have iold : ∀ j, j < c.n → c'.ι j = c.ι j := fun j hj => if_neg (Nat.ne_of_lt hj)
  have inew : c'.ι c.n = c.ι id := if_pos rfl
  have g : CGo c c' := ⟨Nat.le_succ _, iold, hgo, hshape⟩
  have part : ∀ i y, look ((c.n, AO.arr ii.size (rows ++ rows2)) :: delO (some id) h) i = some y → (i = c.n ∧ y = .arr ii.size (rows ++ rows2)) ∨ (i ≠ c.n ∧ look h i = some y ∧ i ≠ id ∧ c'.ι i = c.ι i) := fun i y e => by
    rw [look_cons] at e
    split at e
    · rename_i hi'; cases e; exact .inl ⟨hi'.symm, rfl⟩
    · rename_i hi'
      obtain ⟨e1, e2⟩ := look_delO e
      exact .inr ⟨fun x => hi' x.symm, e1, fun x => e2 (by rw [x]), iold i (hr.lt i y e1)⟩
  have hne : ∀ i y, look h i = some y → y.real → i ≠ id → c.ι i ≠ c.ι id := fun i y e r hi' he => hi' (hr.inj i id y _ e r hl h0 he)
  refine ⟨c', rfl, rfl, ⟨fun i y e => ?_, fun i y e r => ?_, fun i y e r => ?_, fun i y e r => ?_, fun i j y y' e r e' r' hij => ?_, fun b hb => ?_, fun i b o e => ?_⟩, ?_, ?_⟩
  · rcases part i y e with ⟨rfl, _⟩ | ⟨_, h1, _⟩
    · exact Nat.lt_succ_self _
    · exact Nat.lt_succ_of_lt (hr.lt i y h1)
  · show c'.ι i < W.heap.size
    rw [hos.2.2.2]
    rcases part i y e with ⟨rfl, _⟩ | ⟨_, h1, _, h3⟩
    · rw [inew]; exact hlt
    · rw [h3]; exact hr.blk i y h1 r
  · rcases part i y e with ⟨rfl, _⟩ | ⟨_, h1, _, h3⟩
    · rw [inew]; exact hr.own id _ hl h0
    · rw [h3]; exact hr.own i y h1 r
  · rcases part i y e with ⟨rfl, rfl⟩ | ⟨_, h1, h2, h3⟩
    · rw [inew]
      refine ⟨cs', T, fr, hnew, fun j hj => hfr j (by omega), ?_, ?_⟩
      · rw [hcs', List.length_append]; exact Nat.le_trans (Nat.mul_le_mul_right _ hg) hsz
      · refine SRows.of_flat (vs := olds ++ news) (fun r hr => ?_) (by rw [List.flatten_append]; exact (ho2.append hn).goes hgo) fun j v hv => ?_
        · rcases List.mem_append.1 hr with h | h
          · exact ho4 r h
          · exact hrk2 r h
        · show W.cell? _ = _
          rcases Nat.lt_or_ge j olds.length with hj | hj
          · rw [List.getElem?_append_left hj] at hv
            rw [hout _ (fun _ _ => .inl (by show 0 + j < _; omega))]
            exact ho3 j v hv
          · rw [List.getElem?_append_right hj] at hv
            obtain ⟨hj', hv'⟩ := List.getElem?_eq_some_iff.1 hv
            have := hin (j - olds.length) hj'
            rw [← hv', ← this]; congr 2; omega
    · rw [h3]; exact (hr.rel i y h1 r).goes g (hother _ fun x => hne i y h1 r h2 x.symm)
  · rcases part i y e with ⟨rfl, _⟩ | ⟨n1, h1, h2, h3⟩ <;> rcases part j y' e' with ⟨rfl, _⟩ | ⟨n1', h1', h2', h3'⟩
    · rfl
    · rw [inew, h3'] at hij; exact absurd hij.symm (hne j y' h1' r' h2')
    · rw [inew, h3] at hij; exact absurd hij (hne i y h1 r h2)
    · rw [h3, h3'] at hij; exact hr.inj i j y y' h1 r h1' r' hij
  · show b < W.heap.size
    rw [hos.2.2.2]; exact hr.st b hb
  · rcases part i _ e with ⟨_, h⟩ | ⟨_, h1, _⟩
    · cases h
    · exact Fct.goes g (hr.fact i b o h1)
  · refine ⟨g, hos.1, hos.2.1, hos.2.2.1, Nat.le_of_eq hos.2.2.2.symm, fun b _ hb => hother b (hb id _ hl h0), fun _ h => .inl h, fun i y e r => ?_⟩
    rcases part i y e with ⟨rfl, _⟩ | ⟨_, h1, _, h3⟩
    · exact .inr ⟨id, _, hl, h0, inew.symm⟩
    · exact .inr ⟨i, y, h1, r, h3.symm⟩
  · have := AVal.lsl (c := c') c.n ii.size 0 (rows.length + rows2.length) sCap T cs.size (Nat.lt_succ_self _) ⟨hg, fun h => by
      have : rows.length ≠ 0 := fun x => h0 (List.length_eq_zero_iff.1 x)
      omega⟩ (by rw [inew]; exact hshape _ _ hsh) (by rw [Nat.zero_add]; exact hsz)
    rw [inew, Nat.zero_mul] at this
    rw [List.length_append]
    exact this
end
end Go.Proofs.YtohmbpcjapjkbaaGreatDoorAl
