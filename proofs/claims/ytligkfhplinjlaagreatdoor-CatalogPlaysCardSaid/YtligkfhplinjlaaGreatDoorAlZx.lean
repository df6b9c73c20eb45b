/- The A-logic: an array written by hand; slices without elements that may have room. -/
import Derived.Test.YtligkfhplinjlaaGreatDoorAlZj
set_option linter.all false
namespace Go.Proofs.YtligkfhplinjlaaGreatDoorAl
section
variable {P : Program} {c : Cfg} {h : Heap} {k e tx t ty : Nat} {ii : TypeInfo} {z x v0 : Value} {rows rows2 : List (List SV)} {news : List Value}
/-- An array whose cells were written: it has a new name. -/
theorem arr_written (hr : HRel c h) {id : Nat} (hl : look h id = some (.arr k rows)) (h0 : rows ≠ []) {W : World} {cs cs' : Array Value} {T : TypeId} {fr : Nat × Nat} {rows' : List (List SV)}
    (hblk : c.w.heap[c.ι id]? = some (.cells cs T fr)) (hnew : W.heap[c.ι id]? = some (.cells cs' T fr)) (hsz : cs'.size = cs.size) (hother : ∀ b, c.ι id ≠ b → W.heap[b]? = c.w.heap[b]?)
    (hos : W.os = c.w.os ∧ W.tape = c.w.tape ∧ W.output = c.w.output ∧ W.heap.size = c.w.heap.size) (hle : rows'.length * k ≤ cs'.size) (hrows : Goes c.St c.St c.w W → SRows c.St W k (c.ι id) 0 rows') :
    ∃ c' : Cfg, c'.w = W ∧ c'.n = c.n + 1 ∧ c'.ι c.n = c.ι id ∧ HRel c' ((c.n, .arr k rows') :: del h id) ∧ Ev c h c' ((c.n, .arr k rows') :: del h id) := by
  obtain ⟨cs0, T', fr', hblk', hfr, _, _⟩ := hr.rel id _ hl h0
  rw [hblk] at hblk'
  cases hblk'
  have hlt : c.ι id < c.w.heap.size := hr.blk id _ hl h0
  have hshape : ∀ b s, c.w.shape? b = some s → W.shape? b = some s := fun b s hs => by
    by_cases hb : c.ι id = b
    · subst hb; rw [shape_of hblk] at hs; rw [shape_of hnew, hsz, ← hs]
    · rw [← hs]; simp only [World.shape?, hother b hb]
  let c' : Cfg := ⟨fun j => if j = c.n then c.ι id else c.ι j, c.n + 1, c.St, W⟩
  have hgo : Goes c.St c.St c.w W := ⟨fun _ h => h, fun b hb => hother b fun e => hr.own id _ hl h0 (e ▸ hb)⟩
  have iold : ∀ j, j < c.n → c'.ι j = c.ι j := fun j hj => if_neg (Nat.ne_of_lt hj)
  have inew : c'.ι c.n = c.ι id := if_pos rfl
  have g : CGo c c' := ⟨Nat.le_succ _, iold, hgo, hshape⟩
  have part : ∀ i y, look ((c.n, AO.arr k rows') :: del h id) i = some y → (i = c.n ∧ y = .arr k rows') ∨ (i ≠ c.n ∧ look h i = some y ∧ i ≠ id ∧ c'.ι i = c.ι i) := fun i y e => by
    rw [look_cons] at e
    split at e
    · rename_i hi'; cases e; exact .inl ⟨hi'.symm, rfl⟩
    · rename_i hi'
      obtain ⟨e1, e2⟩ := look_delO (o := some id) e
      exact .inr ⟨fun x => hi' x.symm, e1, fun x => e2 (by rw [x]), iold i (hr.lt i y e1)⟩
  have hne : ∀ i y, look h i = some y → y.real → i ≠ id → c.ι i ≠ c.ι id := fun i y e r hi' he => hi' (hr.inj i id y _ e r hl h0 he)
  refine ⟨c', rfl, rfl, inew, ⟨fun i y e => ?_, fun i y e r => ?_, fun i y e r => ?_, fun i y e r => ?_, fun i j y y' e r e' r' hij => ?_, fun b hb => ?_, fun i b o e => ?_⟩, ?_⟩
  · rcases part i y e with ⟨rfl, _⟩ | ⟨_, h1, _⟩
    · exact Nat.lt_succ_self _
    · exact Nat.lt_succ_of_lt (hr.lt i y h1)
  · show c'.ι i < W.heap.size
    rw [hos.2.2.2]
    rcases part i y e with ⟨rfl, _⟩ | ⟨_, h1, _, h3⟩
    · rw [inew]; exact hlt
    · rw [h3]; exact hr.blk i y h1 r
  · rcases part i y e with ⟨rfl, _⟩ | ⟨_, h1, _, h3⟩
    · rw [inew]; exact hr.own id _ hl h0
    · rw [h3]; exact hr.own i y h1 r
  · rcases part i y e with ⟨rfl, rfl⟩ | ⟨_, h1, h2, h3⟩
    · rw [inew]
      exact ⟨cs', T, fr, hnew, fun j hj => hfr j (by omega), hle, hrows hgo⟩
    · rw [h3]; exact (hr.rel i y h1 r).goes g (hother _ fun x => hne i y h1 r h2 x.symm)
  · rcases part i y e with ⟨rfl, _⟩ | ⟨n1, h1, h2, h3⟩ <;> rcases part j y' e' with ⟨rfl, _⟩ | ⟨n1', h1', h2', h3'⟩
    · rfl
    · rw [inew, h3'] at hij; exact absurd hij.symm (hne j y' h1' r' h2')
    · rw [inew, h3] at hij; exact absurd hij (hne i y h1 r h2)
    · rw [h3, h3'] at hij; exact hr.inj i j y y' h1 r h1' r' hij
  · show b < W.heap.size
    rw [hos.2.2.2]; exact hr.st b hb
  · rcases part i _ e with ⟨_, h⟩ | ⟨_, h1, _⟩
    · cases h
    · exact Fct.goes g (hr.fact i b o h1)
  · refine ⟨g, hos.1, hos.2.1, hos.2.2.1, Nat.le_of_eq hos.2.2.2.symm, fun b _ hb => hother b (hb id _ hl h0), fun _ h => .inl h, fun i y e r => ?_⟩
    rcases part i y e with ⟨rfl, _⟩ | ⟨_, h1, _, h3⟩
    · exact .inr ⟨id, _, hl, h0, inew.symm⟩
    · exact .inr ⟨i, y, h1, r, h3.symm⟩
/-- append to a slice without elements that may have room. -/
theorem app_first (hr : HRel c h) {id sCap : Nat} {T : TypeId} {size : Nat} (hl : look h id = some (.arr k rows)) (h0 : rows ≠ []) (hne2 : rows2 ≠ []) (ht : P.underlying t = some (.slice e)) (hi : P.info? e = some ii) (hz : ii.zero = some z) (hk : ii.size = k) (hzs : z.cells.size = k)
    (hsh : c.w.shape? (c.ι id) = some (T, size)) (hsz : sCap * k ≤ size) (hs : Src P k tx x rows2.length news c.w) (hn : SList c.St c.w rows2.flatten news) (hrk2 : ∀ row ∈ rows2, row.length = k)
    (h63 : rows2.length ≤ 140737488355328) (h48 : rows2.length * ii.bytes ≤ 140737488355328) :
    ∃ v w', (Builtin.append_ #[t, tx] ty #[.slice (some ⟨c.ι id, 0, none⟩) 0 sCap, x]).run P c.w = .ok v w' ∧ AppOk c h k rows2 (some id) v w' := by
  rcases Nat.lt_or_ge sCap rows2.length with hg | hg
  · have := app_grow (P := P) (ty := ty) (rows := []) (olds := []) (c := c) (h := h) hr (some id) (base := some ⟨c.ι id, 0, none⟩) (sCap := sCap) ht hi hz hk hzs (firstCells_zero k _ _ _) .nil (by simp) (by simp) hs hn hrk2 (by simpa using hg) (by simpa using h63) (by simpa using h48)
    simpa using this
  · subst hk
    obtain ⟨cs, T', fr, hblk, hfr, hle, hrows⟩ := hr.rel id _ hl h0
    have hsh' := shape_of hblk
    rw [hsh] at hsh'
    cases hsh'
    have hlt : c.ι id < c.w.heap.size := hr.blk id _ hl h0
    have hfit : news.length ≤ cs.size := by
      rw [hs.newsLen]
      exact Nat.le_trans (Nat.mul_le_mul_right _ hg) hsz
    have hcell : ∀ j, j < cs.size → c.w.cell? ⟨c.ι id, j, none⟩ = cs[j]? := fun j hj => by simp [World.cell?, hblk]
    have hthere : ∀ j, j < news.length → (c.w.cell? ⟨c.ι id, 0 + 0 * ii.size + j, none⟩).isSome = true := fun j hj => by
      rw [hcell _ (by omega)]
      simp; omega
    have hrun := run_append_room_src (P := P) (ty := ty) c.w t tx e ii ht hi (c.ι id) 0 0 sCap x rows2.length news hs (by omega) hthere (fun j hj => by
      have := hfr (0 + 0 * ii.size + j) (by omega)
      simp only [World.frozen?, hblk]
      simp only [Bool.and_eq_false_iff, decide_eq_false_iff_not]
      omega)
    refine ⟨_, _, hrun, ?_⟩
    obtain ⟨cs', hw, hcs'⟩ := setCells_blk news (0 + 0 * ii.size) cs c.w hblk
    have hnew : (c.w.setCells (c.ι id) (0 + 0 * ii.size) news).heap[c.ι id]? = some (.cells cs' T fr) := by rw [hw]; exact setBlk_same hlt
    have hother : ∀ b, c.ι id ≠ b → (c.w.setCells (c.ι id) (0 + 0 * ii.size) news).heap[b]? = c.w.heap[b]? := fun b hb => by rw [hw]; exact setBlk_other hb
    have hin := World.cell?_setCells_in (c.ι id) news (0 + 0 * ii.size) c.w hthere
    have hos : (c.w.setCells (c.ι id) (0 + 0 * ii.size) news).os = c.w.os ∧ (c.w.setCells (c.ι id) (0 + 0 * ii.size) news).tape = c.w.tape ∧ (c.w.setCells (c.ι id) (0 + 0 * ii.size) news).output = c.w.output ∧ (c.w.setCells (c.ι id) (0 + 0 * ii.size) news).heap.size = c.w.heap.size := by rw [hw]; exact ⟨rfl, rfl, rfl, setBlk_size⟩
    generalize c.w.setCells (c.ι id) (0 + 0 * ii.size) news = W at *
    obtain ⟨c', e1, e2, e3, e4, e5⟩ := arr_written (rows' := rows2) hr hl h0 hblk hnew hcs' hother hos (by rw [hcs']; exact Nat.le_trans (Nat.mul_le_mul_right _ hg) hsz) (fun hgo => SRows.of_flat hrk2 (hn.goes hgo) fun j v hv => by
      obtain ⟨hj, hv'⟩ := List.getElem?_eq_some_iff.1 hv
      have := hin j hj
      rw [← hv', ← this]; congr 2; omega)
    refine ⟨c', e1, e2, e4, e5, ?_⟩
    have := AVal.lsl (c := c') c.n ii.size 0 rows2.length sCap T cs'.size (by rw [e2]; exact Nat.lt_succ_self _) ⟨hg, fun h => absurd (List.length_eq_zero_iff.1 h) hne2⟩ (by rw [e3, e1]; exact shape_of hnew) (by rw [Nat.zero_add, hcs']; exact hsz)
    rw [e3, Nat.zero_mul] at this
    rw [Nat.zero_add]
    exact this
end
section
variable {P : Program} {ops : Array Oper} {j : Nat} {l : List Oper} {q : S → Prop} {N n : Nat} {t : List (Nat × AV)} {h : Heap} {d : Nat} {ty : TypeId} {pos : String} {af : Array Edge} {g : Option (Nat × Bool)} {L : Lay}
theorem st_appendR {t1 tx e sz bytes e' sz' bytes' id : Nat} {x y : Operand} {Y : AV} {rows rows2 : List (List SV)} {i ix ie : TI} {h' : Heap} (hL : LayOk P L) (hx : evT t x = some (.lsl id sz 1 0)) (hy : evT t y = some Y)
    (ht : look L t1 = some i) (hk : i.k = .slice e sz bytes) (htx : look L tx = some ix) (hkx : ix.k = .slice e' sz' bytes') (hte : look L e = some ie) (hz : Nat.beq (svCells ie.zero).length sz = true)
    (hb : look h id = some (.arr sz rows)) (h0 : rows ≠ []) (hne2 : rows2 ≠ []) (hs : SrcIs h sz Y rows2) (hd : del h id = h') (hone : ∀ row ∈ rows2, ∀ y ∈ row, SV.one y = true) (h63 : rows2.length ≤ 140737488355328) (h48 : rows2.length * bytes ≤ 140737488355328)
    (k : OpsL P ops (j + 1) l ⟨N, n + 1, (d, .lsl n sz 0 rows2.length) :: t, (n, .arr sz rows2) :: h'⟩ q) : OpG P ops j ⟨some d, .call ⟨.builtin .append, #[x, y], #[t1, tx]⟩, ty, pos, af, g⟩ l ⟨N, n, t, h⟩ q :=
  OpOk.intro fun c a hsr => by
    subst hd
    obtain ⟨dd, _, _, g1, _, g3, _⟩ := tiOf_parts (hL t1 i ht)
    rw [hk] at g3
    obtain ⟨g4, ii, g5, g6, g7⟩ := tk_inv g3
    subst g4
    obtain ⟨dx, _, _, f1, _, f3, _⟩ := tiOf_parts (hL tx ix htx)
    rw [hkx] at f3
    obtain ⟨f4, _⟩ := tk_inv f3
    subst f4
    obtain ⟨_, jj, zz, _, e2, _, _, _, _, e6, e7⟩ := tiOf_parts (hL e ie hte)
    rw [g5] at e2; cases e2
    have hzs : zz.cells.size = sz := by
      have hl := (svCells_val (St := c.St) (w := c.w) (svOf_val e7)).length
      rw [Nat.eq_of_beq_eq_true hz] at hl
      simpa using hl
    obtain ⟨news, s1, s2, s3⟩ := src_of hsr.h (S.ev_val hsr (by rw [evT_eq]; exact hy)) hs.rows hone f1
    have hv := S.ev_val hsr (x := x) (by rw [evT_eq]; exact hx)
    generalize hp : a.eval x = p at hv
    have key : ∃ v w', (Builtin.append_ #[t1, tx] ty #[p, a.eval y]).run P c.w = .ok v w' ∧ AppOk c h sz rows2 (some id) v w' := by
      cases hv with
      | lslr _ _ cap T size hi h2 h3 => exact app_first hsr.h hb h0 hne2 g1 g5 e6 g6 hzs h2 h3 s1 s2 s3 h63 (by rw [g7]; exact h48)
      | lsl _ _ _ _ cap T size a1 a2 a3 a4 =>
        have hc0 : cap = 0 := a2.2 rfl
        subst hc0
        have hpos : 0 < rows2.length := List.length_pos_iff.2 hne2
        have := app_grow (P := P) (ty := ty) (rows := []) (olds := []) (c := c) (h := h) hsr.h (some id) (base := some ⟨c.ι id, 1 * sz, none⟩) (sCap := 0) g1 g5 e6 g6 hzs (firstCells_zero sz _ _ _) .nil (by simp) (by simp) s1 s2 s3 (by simpa using hpos) (by simpa using h63) (by rw [g7]; simpa using h48)
        simpa using this
    obtain ⟨v, w', hrun, c', rfl, hn', hrel, hev, hv⟩ := key
    have hcn : c.n = n := hsr.n
    rw [hcn] at hrel hev hv
    refine ⟨_, _, n + 1, v, c', ?_, k, hev, by rw [hn', hcn], hrel, hv⟩
    simp [execOp, resolve, invoke, builtin, hp, hrun]
/-- A temporary's value, said in other words. -/
theorem Wk.tmp {N n : Nat} {t t' : List (Nat × AV)} {h : Heap} (ht : ∀ (c : Cfg) (i : Nat) (y : AV), look t' i = some y → ∃ x, look t i = some x ∧ ∀ v, AVal c x v → AVal c y v) : Wk ⟨N, n, t, h⟩ ⟨N, n, t', h⟩ := fun c a hs => by
  refine ⟨c, ⟨hs.defers, hs.n, ⟨hs.t.size, fun i y e => ?_⟩, hs.h⟩, .refl _ _⟩
  obtain ⟨x, h1, h2⟩ := ht c i y e
  obtain ⟨v, h3, h4⟩ := hs.t.get i x h1
  exact ⟨v, h3, h2 v h4⟩
theorem room_st {c : Cfg} {id k : Nat} {v : Value} (h : AVal c (.lsl id k 1 0) v) : AVal c (.st (.sl k [])) v := by
  cases h with
  | lslr _ _ cap T size hi h2 h3 => exact .st _ _ (.slnil _ _ _)
  | lsl _ _ _ _ cap T size a1 a2 a3 a4 => exact .st _ _ (.slnil _ _ _)
end
end Go.Proofs.YtligkfhplinjlaaGreatDoorAl
