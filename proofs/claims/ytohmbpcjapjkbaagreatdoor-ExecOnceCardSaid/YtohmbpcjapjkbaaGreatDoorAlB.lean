/- The A-logic, part 2: values that refer to objects, objects, states. -/
import Derived.Test.YtohmbpcjapjkbaaGreatDoorAlA
set_option linter.all false
namespace Go.Proofs.YtohmbpcjapjkbaaGreatDoorAl

inductive AV where
  | top
  | st (x : SV)
  | ptr (id off : Nat)
  | eptr (id k i j : Nat)
  | lsl (id k off len : Nat)
  | map (id : Nat)
  | iter (id : Nat)
  | fn (f : Fn) (first caps : List AV)
  | iface (t : TypeId) (x : AV)
  | agg (cells : List AV)
  | tuple (vs : List AV)
  deriving Inhabited

/-- An object: a variable's cells; an array of stable rows; an array of rows; a map; a string's iterator. -/
inductive AO where
  | cells (cs : List AV)
  | arr (k : Nat) (rows : List (List SV))
  | rows (k : Nat) (rows : List (List AV))
  | map (es : List (SV × SV))
  | siter (s : ByteArray) (pos : Nat)
  | fact (b : Nat) (o : Obj)
  deriving Inhabited

mutual
/-- All names are below n. -/
def AV.bel (n : Nat) : AV → Bool
  | .top => true
  | .st _ => true
  | .ptr id _ => Nat.blt id n
  | .eptr id _ _ _ => Nat.blt id n
  | .lsl id _ _ _ => Nat.blt id n
  | .map id => Nat.blt id n
  | .iter id => Nat.blt id n
  | .fn _ first caps => belL n first && belL n caps
  | .iface _ x => x.bel n
  | .agg cells => belL n cells
  | .tuple vs => belL n vs
def belL (n : Nat) : List AV → Bool
  | [] => true
  | x :: xs => x.bel n && belL n xs
end
def belR (n : Nat) : List (List AV) → Bool
  | [] => true
  | x :: xs => belL n x && belR n xs
def AO.bel (n : Nat) : AO → Bool
  | .cells cs => belL n cs
  | .rows _ rs => belR n rs
  | _ => true
def belT (n : Nat) : List (Nat × AV) → Bool
  | [] => true
  | (_, x) :: r => x.bel n && belT n r
def belH (n : Nat) : List (Nat × AO) → Bool
  | [] => true
  | (i, o) :: r => Nat.blt i n && o.bel n && belH n r

/-- Has it memory? (An array without rows is none: the slices over it are nil, or have no room.) -/
def AO.real : AO → Prop
  | .arr _ rs => rs ≠ []
  | .fact _ _ => False
  | _ => True

/-- Look up in a list of pairs: the first counts. -/
def look {α : Type} : List (Nat × α) → Nat → Option α
  | [], _ => none
  | (i, a) :: r, j => cond (Nat.beq i j) (some a) (look r j)
def del {α : Type} : List (Nat × α) → Nat → List (Nat × α)
  | [], _ => []
  | (i, a) :: r, j => cond (Nat.beq i j) (del r j) ((i, a) :: del r j)

theorem beq_no {i j : Nat} (h : ¬ i = j) : Nat.beq i j = false := by
  cases hb : Nat.beq i j with
  | true => exact absurd (Nat.eq_of_beq_eq_true hb) h
  | false => rfl
theorem look_cons {α : Type} (i : Nat) (a : α) (r : List (Nat × α)) (j : Nat) : look ((i, a) :: r) j = if i = j then some a else look r j := by
  by_cases h : i = j
  · subst h; simp [look]
  · have hb : Nat.beq i j = false := beq_no h
    simp [look, hb, h]
theorem look_del {α : Type} (r : List (Nat × α)) (i j : Nat) : look (del r i) j = if i = j then none else look r j := by
  induction r with
  | nil => simp [del, look]
  | cons p r ih =>
    obtain ⟨k, a⟩ := p
    by_cases h : k = i
    · subst h
      simp only [del, Nat.beq_refl, cond_true, ih, look_cons]
      split <;> simp_all
    · have hb : Nat.beq k i = false := beq_no h
      simp only [del, hb, cond_false, look_cons, ih]
      split <;> split <;> simp_all

/-- A configuration: which block an object is, how many names are given, which blocks are stable, the world. -/
structure Cfg where
  ι : Nat → Nat
  n : Nat
  St : Nat → Prop
  w : World

mutual
inductive AVal (c : Cfg) : AV → Value → Prop
  | top (v : Value) : AVal c .top v
  | st (x : SV) (v : Value) : SVal c.St c.w x v → AVal c (.st x) v
  | ptr (id off : Nat) : id < c.n → AVal c (.ptr id off) (.pointer (some ⟨c.ι id, off, none⟩))
  | eptr (id k i j : Nat) : id < c.n → AVal c (.eptr id k i j) (.pointer (some ⟨c.ι id, i * k + j, none⟩))
  | lsl (id k off len cap : Nat) (T : TypeId) (size : Nat) : id < c.n → (len ≤ cap ∧ (len = 0 → cap = 0)) → c.w.shape? (c.ι id) = some (T, size) → (off + cap) * k ≤ size →
      AVal c (.lsl id k off len) (.slice (some ⟨c.ι id, off * k, none⟩) len cap)
  | lsl0 (id k : Nat) (a : Option Addr) : id < c.n → AVal c (.lsl id k 0 0) (.slice a 0 0)
  /-- A slice without elements that may have room: told by the offset 1. -/
  | lslr (id k cap : Nat) (T : TypeId) (size : Nat) : id < c.n → c.w.shape? (c.ι id) = some (T, size) → cap * k ≤ size → AVal c (.lsl id k 1 0) (.slice (some ⟨c.ι id, 0, none⟩) 0 cap)
  | map (id : Nat) : id < c.n → AVal c (.map id) (.map (some (c.ι id)))
  | iter (id : Nat) : id < c.n → AVal c (.iter id) (.pointer (some ⟨c.ι id, 0, none⟩))
  | fn (f : Fn) (first caps : List AV) (vf vc : List Value) : AList c first vf → AList c caps vc → AVal c (.fn f first caps) (.func f vf.toArray vc.toArray)
  | iface (t : TypeId) (x : AV) (v : Value) : AVal c x v → AVal c (.iface t x) (.iface t v)
  | agg (cells : List AV) (vs : List Value) : AList c cells vs → AVal c (.agg cells) (.agg vs.toArray)
  | tuple (xs : List AV) (vs : List Value) : AList c xs vs → AVal c (.tuple xs) (.tuple vs.toArray)
inductive AList (c : Cfg) : List AV → List Value → Prop
  | nil : AList c [] []
  | cons (x : AV) (v : Value) (xs : List AV) (vs : List Value) : AVal c x v → AList c xs vs → AList c (x :: xs) (v :: vs)
end

inductive ACells (c : Cfg) : Nat → Nat → List AV → Prop
  | nil (b off : Nat) : ACells c b off []
  | cons (b off : Nat) (x : AV) (v : Value) (xs : List AV) : c.w.cell? ⟨b, off, none⟩ = some v → AVal c x v → ACells c b (off + 1) xs → ACells c b off (x :: xs)

/-- How a configuration goes on, seen from a value. -/
structure CGo (c c' : Cfg) : Prop where
  n : c.n ≤ c'.n
  ids : ∀ id, id < c.n → c'.ι id = c.ι id
  st : Goes c.St c'.St c.w c'.w
  shape : ∀ b s, c.w.shape? b = some s → c'.w.shape? b = some s

theorem CGo.refl (c : Cfg) : CGo c c := ⟨Nat.le_refl _, fun _ _ => rfl, ⟨fun _ h => h, fun _ _ => rfl⟩, fun _ _ h => h⟩
theorem CGo.trans {a b c : Cfg} (h : CGo a b) (k : CGo b c) : CGo a c :=
  ⟨Nat.le_trans h.n k.n, fun id hi => (k.ids id (Nat.lt_of_lt_of_le hi h.n)).trans (h.ids id hi),
   ⟨fun b hb => k.st.sub b (h.st.sub b hb), fun b hb => (k.st.same b (h.st.sub b hb)).trans (h.st.same b hb)⟩, fun b s hs => k.shape b s (h.shape b s hs)⟩

section
variable {c c' : Cfg}
mutual
theorem AVal.goes (g : CGo c c') : ∀ {x : AV} {v : Value}, AVal c x v → AVal c' x v
  | _, _, .top v => .top v
  | _, _, .st x v h => .st x v (h.goes g.st)
  | _, _, .ptr id off h => by rw [← g.ids id h]; exact .ptr id off (Nat.lt_of_lt_of_le h g.n)
  | _, _, .eptr id k i j h => by rw [← g.ids id h]; exact .eptr id k i j (Nat.lt_of_lt_of_le h g.n)
  | _, _, .lsl id k off len cap T size h h1 h2 h3 => by
    rw [← g.ids id h]
    exact .lsl id k off len cap T size (Nat.lt_of_lt_of_le h g.n) h1 (by rw [g.ids id h]; exact g.shape _ _ h2) h3
  | _, _, .lsl0 id k a h => .lsl0 id k a (Nat.lt_of_lt_of_le h g.n)
  | _, _, .lslr id k cap T size h h2 h3 => by
    rw [← g.ids id h]
    exact .lslr id k cap T size (Nat.lt_of_lt_of_le h g.n) (by rw [g.ids id h]; exact g.shape _ _ h2) h3
  | _, _, .map id h => by rw [← g.ids id h]; exact .map id (Nat.lt_of_lt_of_le h g.n)
  | _, _, .iter id h => by rw [← g.ids id h]; exact .iter id (Nat.lt_of_lt_of_le h g.n)
  | _, _, .fn f first caps vf vc h1 h2 => .fn f first caps vf vc (h1.goes g) (h2.goes g)
  | _, _, .iface t x v h => .iface t x v (h.goes g)
  | _, _, .agg cells vs h => .agg cells vs (h.goes g)
  | _, _, .tuple xs vs h => .tuple xs vs (h.goes g)
theorem AList.goes (g : CGo c c') : ∀ {xs : List AV} {vs : List Value}, AList c xs vs → AList c' xs vs
  | _, _, .nil => .nil
  | _, _, .cons x v xs vs h hs => .cons x v xs vs (h.goes g) (hs.goes g)
end
theorem AList.length : ∀ {xs : List AV} {vs : List Value}, AList c xs vs → vs.length = xs.length
  | _, _, .nil => rfl
  | _, _, .cons _ _ _ _ _ hs => by simp [hs.length]
theorem AList.get : ∀ {xs : List AV} {vs : List Value}, AList c xs vs → ∀ (i : Nat) (x : AV), xs[i]? = some x → ∃ v, vs[i]? = some v ∧ AVal c x v
  | _, _, .cons x v xs vs h hs, 0, x', e => by simp at e; subst e; exact ⟨v, rfl, h⟩
  | _, _, .cons x v xs vs h hs, i + 1, x', e => by
    simp at e
    obtain ⟨u, h1, h2⟩ := hs.get i x' e
    exact ⟨u, by simpa using h1, h2⟩
theorem ACells.goes (g : CGo c c') : ∀ {b off : Nat} {xs : List AV}, ACells c b off xs → c'.w.heap[b]? = c.w.heap[b]? → ACells c' b off xs
  | _, _, _, .nil b off, _ => .nil b off
  | _, _, _, .cons b off x v xs h1 h2 h3, hb => .cons b off x v xs ((cell_of_block hb).trans h1) (h2.goes g) (h3.goes g hb)
end

/-- An object, in its block. -/
def ORel (c : Cfg) (b : Nat) : AO → Prop
  | .cells cs => ∃ vs T fr, c.w.heap[b]? = some (.cells (List.toArray vs) T fr) ∧ (∀ j, j < vs.length → ¬ (fr.1 ≤ j ∧ j < fr.2)) ∧ AList c cs vs
  | .arr k rows => ∃ (cs : Array Value) (T : TypeId) (fr : Nat × Nat), c.w.heap[b]? = some (.cells cs T fr) ∧ (∀ j, j < cs.size → ¬ (fr.1 ≤ j ∧ j < fr.2)) ∧
      rows.length * k ≤ cs.size ∧ SRows c.St c.w k b 0 rows
  | .rows k rows => ∃ (cs : Array Value) (T : TypeId) (fr : Nat × Nat), c.w.heap[b]? = some (.cells cs T fr) ∧ (∀ j, j < cs.size → ¬ (fr.1 ≤ j ∧ j < fr.2)) ∧
      rows.length * k ≤ cs.size ∧ ∀ i row, rows[i]? = some row → row.length = k ∧ ACells c b (i * k) row
  | .map es => ∃ (mes : Array MapEntry) (clock : Nat), c.w.heap[b]? = some (.map mes clock) ∧ mes.size = es.length ∧
      (∀ (i : Nat) k v, es[i]? = some (k, v) → ∃ e, mes[i]? = some e ∧ SVal c.St c.w k e.key ∧ SVal c.St c.w v e.val) ∧
      (∀ (i : Nat) e, mes[i]? = some e → e.born < clock) ∧ (mes.toList.map (·.born)).Nodup
  | .siter s pos => c.w.heap[b]? = some (.stringIter s pos)
  | .fact b0 o => c.St b0 ∧ c.w.heap[b0]? = some o

theorem ORel.goes {c c' : Cfg} (g : CGo c c') {b : Nat} (hb : c'.w.heap[b]? = c.w.heap[b]?) : ∀ {o : AO}, ORel c b o → ORel c' b o
  | .cells _, ⟨vs, T, fr, h1, h2, h3⟩ => ⟨vs, T, fr, hb.trans h1, h2, h3.goes g⟩
  | .arr _ _, ⟨cs, T, fr, h1, h2, h3, h4⟩ => ⟨cs, T, fr, hb.trans h1, h2, h3, h4.goes g.st hb⟩
  | .rows _ _, ⟨cs, T, fr, h1, h2, h3, h4⟩ => ⟨cs, T, fr, hb.trans h1, h2, h3, fun i row e => ⟨(h4 i row e).1, (h4 i row e).2.goes g hb⟩⟩
  | .map _, ⟨mes, clock, h1, h2, h3, h4⟩ => ⟨mes, clock, hb.trans h1, h2, fun i k v e => let ⟨x, a, b', d⟩ := h3 i k v e; ⟨x, a, b'.goes g.st, d.goes g.st⟩, h4⟩
  | .siter _ _, h => hb.trans h
  | .fact b0 _, h => ⟨g.st.sub b0 h.1, (g.st.same b0 h.1).trans h.2⟩

abbrev Heap := List (Nat × AO)
/-- The heap of objects. -/
structure HRel (c : Cfg) (h : Heap) : Prop where
  lt : ∀ id o, look h id = some o → id < c.n
  blk : ∀ id o, look h id = some o → o.real → c.ι id < c.w.heap.size
  own : ∀ id o, look h id = some o → o.real → ¬ c.St (c.ι id)
  rel : ∀ id o, look h id = some o → o.real → ORel c (c.ι id) o
  inj : ∀ i j o o', look h i = some o → o.real → look h j = some o' → o'.real → c.ι i = c.ι j → i = j
  st : ∀ b, c.St b → b < c.w.heap.size
  fact : ∀ id b o, look h id = some (.fact b o) → c.St b ∧ c.w.heap[b]? = some o

theorem Fct.goes {c c' : Cfg} (g : CGo c c') {b : Nat} {o : Obj} (h : c.St b ∧ c.w.heap[b]? = some o) : c'.St b ∧ c'.w.heap[b]? = some o := ⟨g.st.sub b h.1, (g.st.same b h.1).trans h.2⟩
/-- From one configuration and heap to the next: what is neither object nor new stays. -/
structure Ev (c : Cfg) (h : Heap) (c' : Cfg) (h' : Heap) : Prop where
  go : CGo c c'
  os : c'.w.os = c.w.os
  tape : c'.w.tape = c.w.tape
  output : c'.w.output = c.w.output
  size : c.w.heap.size ≤ c'.w.heap.size
  frame : ∀ b, b < c.w.heap.size → (∀ id o, look h id = some o → o.real → c.ι id ≠ b) → c'.w.heap[b]? = c.w.heap[b]?
  new : ∀ b, c'.St b → c.St b ∨ c.w.heap.size ≤ b ∨ ∃ id o, look h id = some o ∧ o.real ∧ c.ι id = b
  objs : ∀ id o, look h' id = some o → o.real → c.w.heap.size ≤ c'.ι id ∨ ∃ i o', look h i = some o' ∧ o'.real ∧ c.ι i = c'.ι id

theorem Ev.refl (c : Cfg) (h : Heap) : Ev c h c h :=
  ⟨.refl c, rfl, rfl, rfl, Nat.le_refl _, fun _ _ _ => rfl, fun _ hb => .inl hb, fun id o e r => .inr ⟨id, o, e, r, rfl⟩⟩

theorem Ev.trans {a b c : Cfg} {ha hb hc : Heap} (x : Ev a ha b hb) (y : Ev b hb c hc) : Ev a ha c hc := by
  refine ⟨x.go.trans y.go, y.os.trans x.os, y.tape.trans x.tape, y.output.trans x.output, Nat.le_trans x.size y.size, fun k hk hn => ?_, fun k hk => ?_, fun id o e r => ?_⟩
  · have h1 := x.frame k hk hn
    rw [← h1]
    refine y.frame k (Nat.lt_of_lt_of_le hk x.size) fun id o e r he => ?_
    rcases x.objs id o e r with h | ⟨i, o', e', r', h⟩
    · omega
    · exact hn i o' e' r' (h.trans he)
  · rcases y.new k hk with h | h | ⟨id, o, e, r, h⟩
    · exact x.new k h
    · exact .inr (.inl (Nat.le_trans x.size h))
    · rcases x.objs id o e r with h' | ⟨i, o', e', r', h'⟩
      · exact .inr (.inl (h ▸ h'))
      · exact .inr (.inr ⟨i, o', e', r', h'.trans h⟩)
  · rcases y.objs id o e r with h | ⟨i, o', e', r', h⟩
    · exact .inl (Nat.le_trans x.size h)
    · rcases x.objs i o' e' r' with h' | ⟨j, o'', e'', r'', h'⟩
      · exact .inl (h ▸ h')
      · exact .inr ⟨j, o'', e'', r'', h'.trans h⟩

/-- The same world, the same names, fewer of them. -/
structure EvW (c : Cfg) (h : Heap) (c' : Cfg) (h' : Heap) : Prop where
  ι : c'.ι = c.ι
  w : c'.w = c.w
  sub : ∀ b, c.St b → c'.St b
  new : ∀ b, c'.St b → c.St b ∨ ∃ id o, look h id = some o ∧ o.real ∧ c.ι id = b
  objs : ∀ id o, look h' id = some o → o.real → ∃ i o', look h i = some o' ∧ o'.real ∧ c.ι i = c.ι id
theorem EvW.refl (c : Cfg) (h : Heap) : EvW c h c h := ⟨rfl, rfl, fun _ h => h, fun _ h => .inl h, fun id o e r => ⟨id, o, e, r, rfl⟩⟩
theorem EvW.trans {a b c : Cfg} {ha hb hc : Heap} (x : EvW a ha b hb) (y : EvW b hb c hc) : EvW a ha c hc := by
  refine ⟨y.ι.trans x.ι, y.w.trans x.w, fun k hk => y.sub k (x.sub k hk), fun k hk => ?_, fun id o e r => ?_⟩
  · rcases y.new k hk with h | ⟨id, o, e, r, h⟩
    · exact x.new k h
    · obtain ⟨i, o', e', r', h'⟩ := x.objs id o e r
      rw [x.ι] at h
      exact .inr ⟨i, o', e', r', h'.trans h⟩
  · obtain ⟨i, o', e', r', h'⟩ := y.objs id o e r
    obtain ⟨j, o'', e'', r'', h''⟩ := x.objs i o' e' r'
    rw [x.ι] at h'
    exact ⟨j, o'', e'', r'', h''.trans h'⟩
theorem Ev.wk {a b c : Cfg} {ha hb hc : Heap} (x : Ev a ha b hb) (y : EvW b hb c hc) (hn : a.n ≤ c.n) : Ev a ha c hc := by
  refine ⟨⟨hn, fun id hi => by rw [y.ι]; exact x.go.ids id hi, ⟨fun k hk => y.sub k (x.go.st.sub k hk), fun k hk => by rw [y.w]; exact x.go.st.same k hk⟩, fun k s hs => by rw [y.w]; exact x.go.shape k s hs⟩,
    by rw [y.w]; exact x.os, by rw [y.w]; exact x.tape, by rw [y.w]; exact x.output, by rw [y.w]; exact x.size, fun k hk hk' => by rw [y.w]; exact x.frame k hk hk', fun k hk => ?_, fun id o e r => ?_⟩
  · rcases y.new k hk with h | ⟨id, o, e, r, h⟩
    · exact x.new k h
    · rcases x.objs id o e r with h' | ⟨i, o', e', r', h'⟩
      · exact .inr (.inl (h ▸ h'))
      · exact .inr (.inr ⟨i, o', e', r', h'.trans h⟩)
  · obtain ⟨i, o', e', r', h'⟩ := y.objs id o e r
    rw [y.ι]
    rcases x.objs i o' e' r' with h'' | ⟨j, o'', e'', r'', h''⟩
    · exact .inl (h' ▸ h'')
    · exact .inr ⟨j, o'', e'', r'', h''.trans h'⟩

mutual
theorem AVal.narrow {c : Cfg} {n : Nat} : ∀ {x : AV} {v : Value}, AVal c x v → x.bel n = true → AVal { c with n } x v
  | _, _, .top v, _ => .top v
  | _, _, .st x v h, _ => .st x v h
  | _, _, .ptr id off _, h => .ptr id off (by simpa [AV.bel, Nat.blt_eq] using h)
  | _, _, .eptr id k i j _, h => .eptr id k i j (by simpa [AV.bel, Nat.blt_eq] using h)
  | _, _, .lsl id k off len cap T size _ h1 h2 h3, h => .lsl id k off len cap T size (by simpa [AV.bel, Nat.blt_eq] using h) h1 h2 h3
  | _, _, .lsl0 id k a _, h => .lsl0 id k a (by simpa [AV.bel, Nat.blt_eq] using h)
  | _, _, .lslr id k cap T size _ h2 h3, h => .lslr id k cap T size (by simpa [AV.bel, Nat.blt_eq] using h) h2 h3
  | _, _, .map id _, h => .map id (by simpa [AV.bel, Nat.blt_eq] using h)
  | _, _, .iter id _, h => .iter id (by simpa [AV.bel, Nat.blt_eq] using h)
  | _, _, .fn f first caps vf vc h1 h2, h => by
    simp only [AV.bel, Bool.and_eq_true] at h
    exact .fn f first caps vf vc (h1.narrow h.1) (h2.narrow h.2)
  | _, _, .iface t x v h1, h => .iface t x v (h1.narrow (by simpa [AV.bel] using h))
  | _, _, .agg cells vs h1, h => .agg cells vs (h1.narrow (by simpa [AV.bel] using h))
  | _, _, .tuple xs vs h1, h => .tuple xs vs (h1.narrow (by simpa [AV.bel] using h))
theorem AList.narrow {c : Cfg} {n : Nat} : ∀ {xs : List AV} {vs : List Value}, AList c xs vs → belL n xs = true → AList { c with n } xs vs
  | _, _, .nil, _ => .nil
  | _, _, .cons x v xs vs h1 h2, h => by
    simp only [belL, Bool.and_eq_true] at h
    exact .cons x v xs vs (h1.narrow h.1) (h2.narrow h.2)
end
theorem ACells.narrow {c : Cfg} {n : Nat} : ∀ {b off : Nat} {xs : List AV}, ACells c b off xs → belL n xs = true → ACells { c with n } b off xs
  | _, _, _, .nil b off, _ => .nil b off
  | _, _, _, .cons b off x v xs h1 h2 h3, h => by
    simp only [belL, Bool.and_eq_true] at h
    exact .cons b off x v xs h1 (h2.narrow h.1) (h3.narrow h.2)
theorem belR_get {n : Nat} : ∀ {rows : List (List AV)}, belR n rows = true → ∀ (i : Nat) row, rows[i]? = some row → belL n row = true
  | [], _, i, row, e => by simp at e
  | r :: rs, h, 0, row, e => by
    simp only [belR, Bool.and_eq_true] at h
    simp at e; subst e; exact h.1
  | r :: rs, h, i + 1, row, e => by
    simp only [belR, Bool.and_eq_true] at h
    simp at e; exact belR_get h.2 i row e
theorem ORel.narrow {c : Cfg} {n b : Nat} : ∀ {o : AO}, ORel c b o → o.bel n = true → ORel { c with n } b o
  | .cells _, ⟨vs, T, fr, h1, h2, h3⟩, h => ⟨vs, T, fr, h1, h2, h3.narrow (by simpa [AO.bel] using h)⟩
  | .arr _ _, ⟨vs, T, fr, h1, h2, h3, h4⟩, _ => ⟨vs, T, fr, h1, h2, h3, h4⟩
  | .rows _ _, ⟨vs, T, fr, h1, h2, h3, h4⟩, h => ⟨vs, T, fr, h1, h2, h3, fun i row e => ⟨(h4 i row e).1, (h4 i row e).2.narrow (belR_get (by simpa [AO.bel] using h) i row e)⟩⟩
  | .map _, ⟨mes, clock, h1, h2, h3, h4⟩, _ => ⟨mes, clock, h1, h2, h3, h4⟩
  | .siter _ _, h, _ => h
  | .fact _ _, h, _ => h
theorem belH_look {n : Nat} : ∀ {h : List (Nat × AO)}, belH n h = true → ∀ id o, look h id = some o → id < n ∧ o.bel n = true
  | [], _, id, o, e => by cases e
  | (j, p) :: r, h, id, o, e => by
    simp only [belH, Bool.and_eq_true] at h
    rw [look_cons] at e
    split at e
    · rename_i hj; subst hj; cases e; exact ⟨by simpa [Nat.blt_eq] using h.1.1, h.1.2⟩
    · exact belH_look h.2 id o e
theorem belT_look {n : Nat} : ∀ {t : List (Nat × AV)}, belT n t = true → ∀ i x, look t i = some x → x.bel n = true
  | [], _, i, x, e => by cases e
  | (j, y) :: r, h, i, x, e => by
    simp only [belT, Bool.and_eq_true] at h
    rw [look_cons] at e
    split at e
    · cases e; exact h.1
    · exact belT_look h.2 i x e

/-- A function's state: its temporaries (how many; what is known of them), its objects. -/
structure S where
  N : Nat
  n : Nat
  t : List (Nat × AV)
  h : Heap

structure TRel (c : Cfg) (N : Nat) (t : List (Nat × AV)) (tmps : Array Value) : Prop where
  size : tmps.size = N
  get : ∀ i x, look t i = some x → ∃ v, tmps[i]? = some v ∧ AVal c x v

theorem TRel.goes {c c' : Cfg} (g : CGo c c') {N : Nat} {t : List (Nat × AV)} {tmps : Array Value} (h : TRel c N t tmps) : TRel c' N t tmps :=
  ⟨h.size, fun i x e => let ⟨v, h1, h2⟩ := h.get i x e; ⟨v, h1, h2.goes g⟩⟩

theorem TRel.put {c : Cfg} {N : Nat} {t : List (Nat × AV)} {tmps : Array Value} (h : TRel c N t tmps) {d : Nat} (hd : d < N) {x : AV} {v : Value} (hx : AVal c x v) :
    TRel c N ((d, x) :: t) (tmps.setIfInBounds d v) := by
  refine ⟨by simpa using h.size, fun i y e => ?_⟩
  rw [look_cons] at e
  split at e
  · rename_i hdi; subst hdi; cases e
    exact ⟨v, by simp [h.size, hd], hx⟩
  · rename_i hdi
    obtain ⟨u, h1, h2⟩ := h.get i y e
    exact ⟨u, by rw [Array.getElem?_setIfInBounds_ne hdi]; exact h1, h2⟩

structure SRel (c : Cfg) (s : S) (a : Act) : Prop where
  defers : a.defers = []
  n : c.n = s.n
  t : TRel c s.N s.t a.tmps
  h : HRel c s.h

end Go.Proofs.YtohmbpcjapjkbaaGreatDoorAl
