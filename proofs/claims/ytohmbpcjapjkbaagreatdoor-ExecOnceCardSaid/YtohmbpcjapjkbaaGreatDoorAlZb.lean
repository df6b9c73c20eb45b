/- The A-logic: arrays lent to a call; appends within draws. -/
import Derived.Test.YtohmbpcjapjkbaaGreatDoorAlZa
set_option linter.all false
namespace Go.Proofs.YtohmbpcjapjkbaaGreatDoorAl
mutual
def SV.flat : SV → Bool
  | .bool _ => true
  | .int _ _ => true
  | .str _ => true
  | .nilsl => true
  | .sl0 => true
  | .nilptr => true
  | .nilIface => true
  | .nilFunc => true
  | .nilmap => true
  | .iface _ x => x.flat
  | .agg cs => flatL cs
  | _ => false
def flatL : List SV → Bool
  | [] => true
  | x :: xs => x.flat && flatL xs
end
mutual
theorem SVal.flat {St St' : Nat → Prop} {w w' : World} : ∀ {x : SV} {v : Value}, SVal St w x v → x.flat = true → SVal St' w' x v
  | _, _, .bool b, _ => .bool b
  | _, _, .int k n, _ => .int k n
  | _, _, .str s, _ => .str s
  | _, _, .nilsl, _ => .nilsl
  | _, _, .sl0 a, _ => .sl0 a
  | _, _, .slnil _ _ _, h => by cases h
  | _, _, .sl .., h => by cases h
  | _, _, .nilptr, _ => .nilptr
  | _, _, .sptr .., h => by cases h
  | _, _, .nilIface, _ => .nilIface
  | _, _, .iface t x v h, k => .iface t x v (h.flat (by simpa [SV.flat] using k))
  | _, _, .nilFunc, _ => .nilFunc
  | _, _, .fn .., h => by cases h
  | _, _, .nilmap, _ => .nilmap
  | _, _, .agg cells vs h, k => .agg cells vs (h.flat (by simpa [SV.flat] using k))
theorem SList.flat {St St' : Nat → Prop} {w w' : World} : ∀ {xs : List SV} {vs : List Value}, SList St w xs vs → flatL xs = true → SList St' w' xs vs
  | _, _, .nil, _ => .nil
  | _, _, .cons x v xs vs h hs, k => by
    simp only [flatL, Bool.and_eq_true] at k
    exact .cons x v xs vs (h.flat k.1) (hs.flat k.2)
end
def AV.flat : AV → Bool
  | .st x => x.flat
  | .tuple xs => flatAll xs
  | _ => false
where flatAll : List AV → Bool
  | [] => true
  | .st x :: r => x.flat && flatAll r
  | _ :: _ => false
theorem flatAll_val {c c' : Cfg} : ∀ {xs : List AV} {vs : List Value}, AList c xs vs → AV.flat.flatAll xs = true → AList c' xs vs
  | _, _, .nil, _ => .nil
  | _, _, .cons x v xs vs h hs, k => by
    cases x with
    | st y =>
      simp only [AV.flat.flatAll, Bool.and_eq_true] at k
      exact .cons _ _ _ _ (.st _ _ ((st_inv h).flat k.1)) (flatAll_val hs k.2)
    | _ => cases k
theorem AVal.flat {c c' : Cfg} {x : AV} {v : Value} (h : AVal c x v) (hf : x.flat = true) : AVal c' x v := by
  cases h with
  | st x v h => exact .st _ _ (h.flat hf)
  | tuple xs vs h => exact .tuple _ _ (flatAll_val h hf)
  | _ => cases hf

mutual
def AV.ids : AV → List Nat
  | .top => []
  | .st _ => []
  | .ptr i _ => [i]
  | .eptr i _ _ _ => [i]
  | .lsl i _ _ _ => [i]
  | .map i => [i]
  | .iter i => [i]
  | .fn _ a b => idsL a ++ idsL b
  | .iface _ x => x.ids
  | .agg cells => idsL cells
  | .tuple vs => idsL vs
def idsL : List AV → List Nat
  | [] => []
  | x :: xs => x.ids ++ idsL xs
end
/-- Arguments with the arrays in them read as stable ones. -/
def Borrow (h : Heap) : List Nat → List AV → List AV → Prop
  | [], xs, ys => xs = ys
  | id :: r, xs, ys => ∃ k rows, look h id = some (.arr k rows) ∧ occL id (whole k rows.length) xs ∧ Borrow h r (frzL id k rows xs) ys
theorem Borrow.cons' {h : Heap} {id k : Nat} {r : List Nat} {xs ys : List AV} {rows : List (List SV)} (h1 : look h id = some (.arr k rows)) (h2 : occL id (whole k rows.length) xs) (h3 : Borrow h r (frzL id k rows xs) ys) : Borrow h (id :: r) xs ys := ⟨k, rows, h1, h2, h3⟩
theorem Borrow.nil' {h : Heap} {xs ys : List AV} (e : xs = ys) : Borrow h [] xs ys := e
theorem Borrow.val {h : Heap} {c : Cfg} (hr : HRel c h) : ∀ {ids : List Nat} {xs ys : List AV} {c1 : Cfg} {vals : List Value}, Borrow h ids xs ys → c1.ι = c.ι → c1.w = c.w → c1.n = c.n → (∀ b, c.St b → c1.St b) → (∀ b, c1.St b → b < c.w.heap.size) →
    AList c1 xs vals → ∃ c2, c2.ι = c.ι ∧ c2.w = c.w ∧ c2.n = c.n ∧ (∀ b, c.St b → c2.St b) ∧ (∀ b, c2.St b → b < c.w.heap.size) ∧ AList c2 ys vals
  | [], xs, ys, c1, vals, e, h1, h2, h3, h4, h5, hv => by cases e; exact ⟨c1, h1, h2, h3, h4, h5, hv⟩
  | id :: r, xs, ys, c1, vals, ⟨k, rows, hl, ho, hb⟩, h1, h2, h3, h4, h5, hv => by
    have hrow : rows ≠ [] → SRows (c1.froze id rows).St c1.w k (c1.ι id) 0 rows := fun hne => by
      obtain ⟨cs, T, fr, g1, g2, g3, g4⟩ := hr.rel id _ hl hne
      rw [h2, h1]
      exact g4.goes (w' := c.w) ⟨fun b hb => .inl (h4 b hb), fun _ _ => rfl⟩ rfl
    refine hb.val hr (c1 := c1.froze id rows) h1 h2 h3 (fun b hb => .inl (h4 b hb)) (fun b hb' => ?_) (hv.frz hrow ho)
    rcases hb' with hb' | ⟨hne, e⟩
    · exact h5 b hb'
    · have e : b = c1.ι id := e
      rw [e, h1]; exact hr.blk id _ hl hne

section
variable {P : Program} {ops : Array Oper} {j : Nat} {l : List Oper} {q : S → Prop} {s : S} {N n : Nat} {t : Tm} {h : Heap} {Q : Exit → S → Prop} {L : Lay}
variable {d : Nat} {ty : TypeId} {pos : String} {af : Array Edge} {g : Option (Nat × Bool)}
theorem AList.narrow0 {c : Cfg} {xs : List AV} {vs : List Value} (h : AList c xs vs) (hb : belL 0 xs = true) : AList { c with n := 0 } xs vs := h.narrow hb
/-- A call that only reads what it is handed, arrays of one's own among it, and returns something flat. -/
theorem st_borrow {fo : Operand} {args : Array Operand} {ts : Array TypeId} {f : Nat} {xs args0 : List AV} {ids : List Nat} {r : AV} (hc : ACalls P f 0 args0 [] fun x h' => x = r ∧ h' = []) (hb : HasBody P f)
    (hargs : callT t fo args.toList = some (f, xs)) (hi : frc (idsL xs) some = some ids) (hbor : Borrow h ids xs args0) (hb0 : (belL 0 args0 && r.flat) = true)
    (k : OpsL P ops (j + 1) l ⟨N, n, (d, r) :: t, h⟩ q) : OpG P ops j ⟨some d, .call ⟨.value fo, args, ts⟩, ty, pos, af, g⟩ l ⟨N, n, t, h⟩ q := by
  simp only [Bool.and_eq_true] at hb0
  intro c a hs next Q hn
  obtain ⟨vals, hrun, hvals⟩ := run_call (P := P) (ts := ts) (ty := ty) hs (by rw [callT_eq]; exact hargs) hb
  rw [frc_eq] at hi; cases hi
  obtain ⟨c2, e1, e2, e3, e4, e5, hv⟩ := hbor.val hs.h rfl rfl rfl (fun _ h => h) hs.h.st hvals
  have hv0 := hv.narrow0 hb0.1
  have hcall := hc { c2 with n := 0 } vals.toList rfl ⟨fun _ _ e => (by cases e), fun _ _ e => (by cases e), fun _ _ e => (by cases e), fun _ _ e => (by cases e), fun _ _ _ _ e => (by cases e), fun b hb => by
    show b < c2.w.heap.size
    rw [e2]; exact e5 b hb, fun _ _ _ e => (by cases e)⟩ hv0
  unfold Oper.wp
  simp only [execOp, hrun]
  simp only [Array.toArray_toList, e2] at hcall
  refine hcall.mono ?_
  rintro e w' ⟨r', h', c0', v, ⟨rfl, rfl⟩, rfl, rfl, hr, hh', hev⟩
  have hfr : ∀ b, b < c.w.heap.size → c0'.w.heap[b]? = c.w.heap[b]? := fun b hb => hev.frame b hb (fun _ _ e => by cases e)
  have hsz : c.w.heap.size ≤ c0'.w.heap.size := hev.size
  have hgo : CGo c ⟨c.ι, c.n, c.St, c0'.w⟩ := ⟨Nat.le_refl _, fun _ _ => rfl, ⟨fun _ hb => hb, fun b hb => hfr b (hs.h.st b hb)⟩, fun b s hs' => hev.go.shape b s hs'⟩
  refine hn r' h n v ⟨c.ι, c.n, c.St, c0'.w⟩ k ⟨hgo, hev.os, hev.tape, hev.output, hsz, fun b hb _ => hfr b hb, fun b hb => .inl hb, fun id o e r => .inr ⟨id, o, e, r, rfl⟩⟩ hs.n
    ⟨hs.h.lt, fun id o e r => Nat.lt_of_lt_of_le (hs.h.blk id o e r) hsz, hs.h.own, fun id o e r => (hs.h.rel id o e r).goes hgo (hfr _ (hs.h.blk id o e r)), hs.h.inj, fun b hb => Nat.lt_of_lt_of_le (hs.h.st b hb) hsz, fun id b o e => Fct.goes hgo (hs.h.fact id b o e)⟩ (hr.flat hb0.2)

/-! ### draws -/
/-- The objects that an operation may touch. -/
def fpX (t : Tm) : Op → List Nat
  | .load _ x => match evT t x with
    | some (.ptr id _) => [id]
    | some (.eptr id _ _ _) => [id]
    | _ => []
  | .call ⟨_, args, _⟩ => match evsT t args.toList with
    | some xs => idsL xs
    | none => []
  | _ => []
variable {done : List Mini} {i : Nat} {A D : List Nat} {le : List Entry} {op : Op} {x : AV} {F : Heap} {fn : List Nat}
/-- Any operation: with the objects that it touches, and what becomes of them. -/
theorem dwg {fp T : List Nat} {hout h' : Heap} {n' : Nat} (ho : ops[i]? = some ⟨some d, op, ty, pos, af, g⟩) (hg : gst ops g (delT D t) = some true) (hd : Nat.blt d N = true) (hfp : frc (fpX (delT D t) op) some = some fp)
    (hF : frc (keepL fp h) some = some F) (hs : OpG P #[] 0 ⟨some d, op, ty, pos, af, g⟩ [] ⟨N, n, delT D t, F⟩ (fun s' => s' = ⟨N, n', (d, x) :: delT D t, hout⟩)) (hn : Nat.ble n n' = true)
    (hT : frc (hout.map (·.1) ++ fp) some = some T) (hm : sepB A (F.map (·.1)) x T hout done = true) (hf : frc (F.map (·.1)) some = some fn) (hh : frc (hout ++ delAll T h) some = some h')
    (k : DW P ops N q (⟨i, n, n', T, fn⟩ :: done) le ⟨N, n', (d, x) :: t, h'⟩) : DW P ops N q done ((i, A, D) :: le) ⟨N, n, t, h⟩ := by
  rw [frc_eq] at hfp hF hT hf hh; cases hfp; cases hF; cases hT; cases hf; cases hh
  refine ⟨⟨i, some d, A, delT D t, _, n, x, hout, n', _⟩, ⟨N, n', (d, x) :: t, _⟩, ⟨rfl, rfl, by simp [dstOf, ho], rfl, rfl, rfl, Nat.le_of_ble_eq_true hn, fun id o e => Sub.look (keepL_sub _ _) id o e, fun d' y e => ?_, fun id o' e => ?_, fun id hid => ?_, hd, ?_⟩, sep_all hm, k⟩
  · simp only at e
    rw [look_cons] at e
    split at e
    · rename_i h1; subst h1; cases e; exact .inl ⟨rfl, rfl⟩
    · rename_i h1; exact .inr ⟨fun e' => h1 (Option.some.inj e'), e⟩
  · simp only at e
    rw [look_app_eq] at e
    split at e
    · rename_i o hlo
      cases e
      exact .inl ⟨List.mem_append_left _ (List.mem_map_of_mem (f := (·.1)) (look_mem hlo)), hlo⟩
    · rename_i hlo
      rw [look_delAll'] at e
      split at e
      · cases e
      · rename_i h1; exact .inr ⟨h1, e⟩
  · simp only at hid ⊢
    have h1 : look hout id = none := by
      cases hlo : look hout id with
      | none => rfl
      | some o => exact absurd (List.mem_append_left _ (List.mem_map_of_mem (f := (·.1)) (look_mem hlo))) hid
    have h2 : look (keepL (fpX (delT D t) op) h) id = none := by
      cases hlo : look (keepL (fpX (delT D t) op) h) id with
      | none => rfl
      | some o =>
        have key : ∀ (is : List Nat), look (keepL is h) id = some o → id ∈ is := by
          intro is
          induction is with
          | nil => intro e; cases e
          | cons a r ih =>
            intro e
            simp only [keepL] at e
            split at e
            · rw [look_cons] at e
              split at e
              · rename_i h3; subst h3; simp
              · exact List.mem_cons_of_mem _ (ih e)
            · exact List.mem_cons_of_mem _ (ih e)
        exact absurd (List.mem_append_right _ (key _ hlo)) hid
    rw [h1, h2]
  · exact spec_run (r := ⟨i, some d, A, delT D t, _, n, x, hout, n', _⟩) ho hg hd rfl (fun d' e => by cases e; rw [look_cons, if_pos rfl]) (fun e => by cases e) hs
/-- The same, where nothing is changed. -/
theorem dwb {fp : List Nat} (ho : ops[i]? = some ⟨some d, op, ty, pos, af, g⟩) (hg : gst ops g (delT D t) = some true) (hd : Nat.blt d N = true) (hfp : frc (fpX (delT D t) op) some = some fp)
    (hF : frc (keepL fp h) some = some F) (hs : OpG P #[] 0 ⟨some d, op, ty, pos, af, g⟩ [] ⟨N, n, delT D t, F⟩ (fun s' => s' = ⟨N, n, (d, x) :: delT D t, F⟩)) (hf : frc (F.map (·.1)) some = some fn) (hm : sepB A fn x [] [] done = true)
    (k : DW P ops N q (⟨i, n, n, [], fn⟩ :: done) le ⟨N, n, (d, x) :: t, h⟩) : DW P ops N q done ((i, A, D) :: le) ⟨N, n, t, h⟩ := by
  rw [frc_eq] at hfp hF hf; cases hfp; cases hF; cases hf
  exact dw_pure _ (keepL_sub _ _) ho hg hd hs (sepB_hout hm) k

/-! ### a nil slice as an array without rows -/
theorem go_one (c : Cfg) : CGo c { c with n := c.n + 1 } := ⟨Nat.le_succ _, fun _ _ => rfl, ⟨fun _ h => h, fun _ _ => rfl⟩, fun _ _ h => h⟩
def isNil : SV → Bool
  | .nilsl => true
  | .sl0 => true
  | .sl _ [] => false
  | _ => false
theorem nil_lsl {c : Cfg} {X : SV} {v : Value} {k : Nat} (hX : isNil X = true) (h : AVal c (.st X) v) : AVal { c with n := c.n + 1 } (.lsl c.n k 0 0) v := by
  have h0 := st_inv h
  cases h0 <;> first | (cases hX; done) | exact .lsl0 _ _ _ (Nat.lt_succ_self _) | (rename_i r _ _ _; cases r <;> cases hX)
theorem hrel_one {c : Cfg} (hr : HRel c h) {k : Nat} : HRel { c with n := c.n + 1 } ((c.n, .arr k []) :: h) := by
  have old : ∀ id o, look ((c.n, AO.arr k []) :: h) id = some o → o.real → look h id = some o := fun id o e r => by
    rw [look_cons] at e
    split at e
    · cases e; exact absurd rfl r
    · exact e
  refine ⟨fun id o e => ?_, fun id o e r => hr.blk id o (old id o e r) r, fun id o e r => hr.own id o (old id o e r) r, fun id o e r => (hr.rel id o (old id o e r) r).goes (go_one c) rfl, fun i j o o' e r e' r' => hr.inj i j o o' (old i o e r) r (old j o' e' r') r', hr.st, fun id b o e => ?_⟩
  rotate_left
  · rw [look_cons] at e
    split at e
    · cases e
    · exact hr.fact id b o e
  rw [look_cons] at e
  split at e
  · rename_i hid; subst hid; exact Nat.lt_succ_self _
  · exact Nat.lt_succ_of_lt (hr.lt id o e)
theorem Wk.nilT {X : SV} (k d : Nat) (hx : look t d = some (.st X)) (hX : isNil X = true) : Wk ⟨N, n, t, h⟩ ⟨N, n + 1, (d, .lsl n k 0 0) :: t, (n, .arr k []) :: h⟩ := fun c a hs => by
  have hn := hs.n
  simp only at hn
  subst hn
  refine ⟨{ c with n := c.n + 1 }, ⟨hs.defers, rfl, ⟨hs.t.size, fun i x e => ?_⟩, hrel_one hs.h⟩, ⟨rfl, rfl, fun _ h => h, fun _ h => .inl h, fun id o e r => ?_⟩⟩
  · rw [look_cons] at e
    split at e
    · rename_i hi; subst hi; cases e
      obtain ⟨v, h1, h2⟩ := hs.t.get d _ hx
      exact ⟨v, h1, nil_lsl hX h2⟩
    · obtain ⟨v, h1, h2⟩ := hs.t.get i x e
      exact ⟨v, h1, h2.goes (go_one c)⟩
  · rw [look_cons] at e
    split at e
    · cases e; exact absurd rfl r
    · exact ⟨id, o, e, r, rfl⟩
theorem AList.set {c : Cfg} : ∀ {xs : List AV} {vs : List Value} {j : Nat} {x : AV}, AList c xs vs → (∀ v, vs[j]? = some v → AVal c x v) → AList c (xs.set j x) vs
  | _, _, _, _, .nil, _ => .nil
  | _, _, 0, x, .cons y v xs vs h hs, k => .cons _ _ _ _ (k v rfl) hs
  | _, _, j + 1, x, .cons y v xs vs h hs, k => .cons _ _ _ _ h (hs.set fun u e => k u (by simpa using e))
theorem Wk.nilC {X : SV} {cs cs' : List AV} {h' : Heap} (k o j : Nat) (ho : look h o = some (.cells cs)) (hx : cs[j]? = some (.st X)) (hX : isNil X = true) (hcs : frc (cs.set j (.lsl n k 0 0)) some = some cs') (hh : frc (del h o) some = some h') :
    Wk ⟨N, n, t, h⟩ ⟨N, n + 1, t, (o, .cells cs') :: (n, .arr k []) :: h'⟩ := fun c a hs => by
  rw [frc_eq] at hcs hh; cases hcs; cases hh
  have hn := hs.n
  simp only at hn
  subst hn
  have h1 := hrel_one hs.h (k := k)
  have hlt := hs.h.lt o _ ho
  have src : ∀ id p, look ((o, AO.cells (cs.set j (.lsl c.n k 0 0))) :: (c.n, .arr k []) :: del h o) id = some p → p.real → ∃ p', look h id = some p' ∧ p'.real := fun id p e r => by
    rw [look_cons] at e
    split at e
    · rename_i hi; subst hi; exact ⟨_, ho, trivial⟩
    · rw [look_cons] at e
      split at e
      · cases e; exact absurd rfl r
      · rw [look_del] at e
        split at e
        · cases e
        · exact ⟨p, e, r⟩
  refine ⟨{ c with n := c.n + 1 }, ⟨hs.defers, rfl, hs.t.goes (go_one c), ?_⟩, ⟨rfl, rfl, fun _ h => h, fun _ h => .inl h, fun id p e r => let ⟨p', e', r'⟩ := src id p e r; ⟨id, p', e', r', rfl⟩⟩⟩
  refine ⟨fun id p e => ?_, fun id p e r => let ⟨p', e', r'⟩ := src id p e r; hs.h.blk id p' e' r', fun id p e r => let ⟨p', e', r'⟩ := src id p e r; hs.h.own id p' e' r', fun id p e r => ?_, fun i j' p p' e r e' r' hij => ?_, hs.h.st, fun id b p e => ?_⟩
  rotate_right
  · rw [look_cons] at e
    split at e
    · cases e
    · rw [look_cons] at e
      split at e
      · cases e
      · rw [look_del] at e
        split at e
        · cases e
        · exact hs.h.fact id b p e
  · rw [look_cons] at e
    split at e
    · rename_i hi; subst hi; exact Nat.lt_succ_of_lt hlt
    · rw [look_cons] at e
      split at e
      · rename_i hi; subst hi; exact Nat.lt_succ_self _
      · rw [look_del] at e
        split at e
        · cases e
        · exact Nat.lt_succ_of_lt (hs.h.lt id p e)
  · rw [look_cons] at e
    split at e
    · rename_i hi; subst hi; cases e
      obtain ⟨vs, T, fr, g1, g2, g3⟩ := hs.h.rel o _ ho trivial
      refine ⟨vs, T, fr, g1, g2, (g3.goes (go_one c)).set fun v hv => ?_⟩
      obtain ⟨v', u1, u2⟩ := g3.get j _ hx
      rw [hv] at u1; cases u1
      exact nil_lsl hX u2
    · rw [look_cons] at e
      split at e
      · cases e; exact absurd rfl r
      · rw [look_del] at e
        split at e
        · cases e
        · exact (hs.h.rel id p e r).goes (go_one c) rfl
  · obtain ⟨x1, y1, z1⟩ := src i p e r
    obtain ⟨x2, y2, z2⟩ := src j' p' e' r'
    exact hs.h.inj i j' x1 x2 y1 z1 y2 z2 hij
end
end Go.Proofs.YtohmbpcjapjkbaaGreatDoorAl
