/- The A-logic, part 21: the walk of a region that draws, by a table: number, what it waits for, which temporaries it must not see. -/
import Derived.Test.YtohmbpcjapjkbaaGreatDoorAlU
set_option linter.all false
namespace Go.Proofs.YtohmbpcjapjkbaaGreatDoorAl

abbrev Entry := Nat × List Nat × List Nat
def dstOf (ops : Array Oper) (i : Nat) : Option Nat := (ops[i]?).bind (·.dst)
def dirs (ops : Array Oper) (i : Nat) : List Nat :=
  match ops[i]? with
  | some o => (o.after.toList.filter (Region.binds .any)).map (·.on)
  | none => []
def dIn : Option Nat → List Nat → Bool
  | none, _ => true
  | some d, D => hasN D d
def dNe : Option Nat → Option Nat → Bool
  | some a, some b => !Nat.beq a b
  | _, _ => true
/-- The table, checked. -/
def chk (ops : Array Oper) : List Entry → List Entry → Bool
  | _, [] => true
  | done, (i, A, D) :: l => Nat.blt i ops.size && (dirs ops i).all (fun e => done.any fun p => Nat.beq p.1 e) &&
      A.all (fun a => (dirs ops i).any fun e => Nat.beq e a || done.any fun p => Nat.beq p.1 e && hasN p.2.1 a) &&
      done.all (fun p => !Nat.beq p.1 i && (hasN A p.1 || (dIn (dstOf ops p.1) D && dIn (dstOf ops i) p.2.2 && dNe (dstOf ops p.1) (dstOf ops i)))) && chk ops ((i, A, D) :: done) l
def tblB (ops : Array Oper) (tbl : List Entry) : Bool := Nat.beq tbl.length ops.size && (List.range ops.size).all (fun i => tbl.any fun p => Nat.beq p.1 i) && chk ops [] tbl

theorem dIn_iff {o : Option Nat} {D : List Nat} (h : dIn o D = true) : ∀ d, o = some d → d ∈ D := by
  rintro d rfl
  exact hasN_iff.1 h
theorem dNe_iff {a b : Option Nat} (h : dNe a b = true) : ∀ d, a = some d → b ≠ some d := by
  rintro d rfl rfl
  simp [dNe] at h

/-- What the check says of two entries. -/
def Pair (ops : Array Oper) (p r : Entry) : Prop :=
  p.1 ≠ r.1 ∧ (p.1 ∈ r.2.1 ∨ ((∀ d, dstOf ops p.1 = some d → d ∈ r.2.2 ∧ dstOf ops r.1 ≠ some d) ∧ ∀ d, dstOf ops r.1 = some d → d ∈ p.2.2))
theorem chk_ok {ops : Array Oper} : ∀ {l done : List Entry}, chk ops done l = true → (∀ p ∈ done, ∀ a ∈ p.2.1, Must ops a p.1) →
    (∀ (k : Nat) (e : Entry), l[k]? = some e → e.1 < ops.size ∧ (∀ a ∈ e.2.1, Must ops a e.1) ∧ (∀ x ∈ dirs ops e.1, (∃ p ∈ done, p.1 = x) ∨ ∃ (q : Nat) (p : Entry), q < k ∧ l[q]? = some p ∧ p.1 = x) ∧
      (∀ p ∈ done, Pair ops p e) ∧ ∀ (q : Nat) (p : Entry), q < k → l[q]? = some p → Pair ops p e)
  | [], _, _, _, k, e, h => by simp at h
  | (i, A, D) :: l, done, hc, hd, k, e, h => by
    simp only [chk, Bool.and_eq_true] at hc
    obtain ⟨⟨⟨⟨h1, h2⟩, h3⟩, h4⟩, h5⟩ := hc
    have dirp : ∀ x ∈ dirs ops i, ∃ p ∈ done, p.1 = x := fun x hx => by
      obtain ⟨p, hp, he⟩ := List.any_eq_true.1 (List.all_eq_true.1 h2 x hx)
      exact ⟨p, hp, Nat.eq_of_beq_eq_true he⟩
    have must1 : ∀ x ∈ dirs ops i, Must ops x i := fun x hx listed hcl hl => by
      unfold dirs at hx
      split at hx
      · rename_i o ho
        obtain ⟨e, he, rfl⟩ := List.mem_map.1 hx
        obtain ⟨he1, he2⟩ := List.mem_filter.1 he
        exact hcl i o ho hl e (by simpa using he1) he2
      · simp at hx
    have mustA : ∀ a ∈ A, Must ops a i := fun a ha => by
      obtain ⟨e, he, hh⟩ := List.any_eq_true.1 (List.all_eq_true.1 h3 a ha)
      simp only [Bool.or_eq_true] at hh
      rcases hh with hh | hh
      · have := Nat.eq_of_beq_eq_true hh; subst this; exact must1 _ he
      · obtain ⟨p, hp, hh⟩ := List.any_eq_true.1 hh
        simp only [Bool.and_eq_true] at hh
        have hpe := Nat.eq_of_beq_eq_true hh.1
        intro listed hcl hl
        have h6 := must1 e he listed hcl hl
        rw [← hpe] at h6
        exact hd p hp a (hasN_iff.1 hh.2) listed hcl h6
    have pairs : ∀ p ∈ done, Pair ops p (i, A, D) := fun p hp => by
      have := List.all_eq_true.1 h4 p hp
      simp only [Bool.and_eq_true, Bool.or_eq_true, Bool.not_eq_true'] at this
      have hne : p.1 ≠ i := fun e => by
        have h6 := this.1
        rw [e, Nat.beq_refl] at h6; cases h6
      refine ⟨hne, ?_⟩
      rcases this.2 with h6 | ⟨⟨h6, h7⟩, h8⟩
      · exact .inl (hasN_iff.1 h6)
      · exact .inr ⟨fun d hd => ⟨dIn_iff h6 d hd, dNe_iff h8 d hd⟩, dIn_iff h7⟩
    cases k with
    | zero =>
      simp at h; subst h
      exact ⟨by simpa [Nat.blt_eq] using h1, mustA, fun x hx => .inl (dirp x hx), pairs, fun q p hq => by omega⟩
    | succ k =>
      simp at h
      obtain ⟨g1, g2, g3, g4, g5⟩ := chk_ok h5 (fun p hp => by
        rcases List.mem_cons.1 hp with rfl | hp
        · exact mustA
        · exact hd p hp) k e h
      refine ⟨g1, g2, fun x hx => ?_, fun p hp => g4 p (.tail _ hp), fun q p hq hp => ?_⟩
      · rcases g3 x hx with ⟨p, hp, e'⟩ | ⟨q, p, hq, hp, e'⟩
        · rcases List.mem_cons.1 hp with rfl | hp
          · exact .inr ⟨0, _, by omega, rfl, e'⟩
          · exact .inl ⟨p, hp, e'⟩
        · exact .inr ⟨q + 1, p, by omega, by simpa using hp, e'⟩
      · cases q with
        | zero => simp at hp; subst hp; exact g4 _ (.head _)
        | succ q => exact g5 q p (by omega) (by simpa using hp)

/-- What is kept of an operation that has been walked. -/
structure Mini where
  i : Nat
  nin : Nat
  nout : Nat
  T : List Nat
  F : List Nat
def Rec.mini (r : Rec) : Mini := ⟨r.i, r.nin, r.nout, r.T, r.F.map (·.1)⟩
structure MSep (p : Mini) (r : Rec) : Prop where
  h1 : ∀ id, id ∈ p.T → look r.F id = none ∧ id ∉ r.T
  h2 : ∀ id, id ∈ r.T → id ∉ p.F
  x : r.x.nm (outB p.nin p.nout) = true
  o : ∀ id o, id ∈ r.T → look r.hout id = some o → outB p.nin p.nout id = true ∧ o.nm (outB p.nin p.nout) = true

def delT (l : List Nat) : List (Nat × AV) → List (Nat × AV)
  | [] => []
  | (i, o) :: r => cond (hasN l i) (delT l r) ((i, o) :: delT l r)
theorem look_delT {l : List Nat} {id : Nat} : ∀ {h : List (Nat × AV)}, look (delT l h) id = if id ∈ l then none else look h id
  | [] => by simp [delT, look]
  | (i, o) :: r => by
    have ih := look_delT (l := l) (id := id) (h := r)
    simp only [delT]
    cases hb : hasN l i with
    | true =>
      have hi := hasN_iff.1 hb
      simp only [cond_true, look_cons, ih]
      by_cases e : i = id
      · subst e; simp [hi]
      · simp [e]
    | false =>
      have hi : i ∉ l := fun x => by rw [hasN_iff.2 x] at hb; cases hb
      simp only [cond_false, ih, look_cons]
      by_cases e : i = id
      · subst e; simp [hi]
      · simp [e]

/-- One step of the walk. -/
structure Step (P : Program) (ops : Array Oper) (N : Nat) (e : Entry) (s s1 : S) (r : Rec) : Prop where
  i : r.i = e.1
  A : r.A = e.2.1
  d : r.d = dstOf ops e.1
  tin : r.tin = delT e.2.2 s.t
  nin : r.nin = s.n
  nout : s1.n = r.nout
  mono : r.nin ≤ r.nout
  fin : ∀ id o, look r.F id = some o → look s.h id = some o
  tt : ∀ d x, look s1.t d = some x → (r.d = some d ∧ r.x = x) ∨ (r.d ≠ some d ∧ look s.t d = some x)
  hh : ∀ id o, look s1.h id = some o → (id ∈ r.T ∧ look r.hout id = some o) ∨ (id ∉ r.T ∧ look s.h id = some o)
  same : ∀ id, id ∉ r.T → look r.hout id = look r.F id
  dst : dstOk N r.d = true
  spec : OpSpec P ops N r

/-- The walk of what is still to come. -/
def DW (P : Program) (ops : Array Oper) (N : Nat) (q : S → Prop) : List Mini → List Entry → S → Prop
  | _, [], s => ∃ t', (∀ d x, look t' d = some x → look s.t d = some x) ∧ q ⟨N, s.n, t', s.h⟩
  | done, e :: l, s => ∃ r s1, Step P ops N e s s1 r ∧ (∀ p ∈ done, p.i ∈ e.2.1 ∨ MSep p r) ∧ DW P ops N q (r.mini :: done) l s1

theorem DW.seq {P : Program} {ops : Array Oper} {N : Nat} {q : S → Prop} : ∀ {l : List Entry} {done : List Mini} {s : S}, DW P ops N q done l s →
    ∃ (r : Nat → Rec) (st : Nat → S), st 0 = s ∧ (∀ k e, l[k]? = some e → Step P ops N e (st k) (st (k + 1)) (r k)) ∧ (∀ k e, l[k]? = some e → ∀ p ∈ done, p.i ∈ e.2.1 ∨ MSep p (r k)) ∧
      (∀ p k e, p < k → l[k]? = some e → (r p).i ∈ e.2.1 ∨ MSep (r p).mini (r k)) ∧ ∃ t', (∀ d x, look t' d = some x → look (st l.length).t d = some x) ∧ q ⟨N, (st l.length).n, t', (st l.length).h⟩
  | [], done, s, h => ⟨fun _ => ⟨0, none, [], [], [], 0, .top, [], 0, []⟩, fun _ => s, rfl, by simp, by simp, by simp, h⟩
  | e :: l, done, s, ⟨r0, s1, h1, h2, h3⟩ => by
    obtain ⟨r, st, g0, g1, g2, g3, g4⟩ := DW.seq h3
    refine ⟨fun k => match k with | 0 => r0 | k + 1 => r k, fun k => match k with | 0 => s | k + 1 => st k, rfl, fun k e' he => ?_, fun k e' he p hp => ?_, fun p k e' hp he => ?_, ?_⟩
    · cases k with
      | zero => simp at he; subst he; simp only [g0]; exact h1
      | succ k => exact g1 k e' (by simpa using he)
    · cases k with
      | zero => simp at he; subst he; exact h2 p hp
      | succ k => exact g2 k e' (by simpa using he) p (.tail _ hp)
    · cases k with
      | zero => omega
      | succ k =>
        simp at he
        cases p with
        | zero => exact g2 k e' he _ (.head _)
        | succ p => exact g3 p k e' (by omega) he
    · simpa using g4

theorem mini_F {r : Rec} {id : Nat} (h : id ∉ r.mini.F) : look r.F id = none := by
  have : ∀ (l : Heap), id ∉ l.map (·.1) → look l id = none := by
    intro l
    induction l with
    | nil => intro _; rfl
    | cons p l ih =>
      intro h
      obtain ⟨i, o⟩ := p
      simp only [List.map_cons, List.mem_cons, not_or] at h
      rw [look_cons, if_neg (fun e => h.1 e.symm), ih h.2]
  exact this _ h

/-- A region that draws its order. -/
theorem dreg_ {P : Program} {ops : Array Oper} {s : S} {id : Nat} {Q : Exit → S → Prop} (tbl : List Entry) (hm : P.follows .mixedOrders = true) (hB : tblB ops tbl = true)
    (k : DW P ops s.N (Q .normal) [] tbl s) : CodeOk P (.region id ops true) s Q := by
  simp only [tblB, Bool.and_eq_true] at hB
  obtain ⟨⟨h1, h2⟩, h3⟩ := hB
  have hlen := Nat.eq_of_beq_eq_true h1
  have hc := chk_ok h3 (by simp)
  obtain ⟨r, st, g0, g1, _, g3, t', g4, g5⟩ := k.seq
  have get : ∀ k, k < tbl.length → ∃ e, tbl[k]? = some e := fun k hk => ⟨tbl[k], by simp [hk]⟩
  subst g0
  have hs : Seq P ops (st 0).N tbl.length r st := {
    nin := fun k hk => let ⟨e, he⟩ := get k hk; (g1 k e he).nin
    nout := fun k hk => let ⟨e, he⟩ := get k hk; (g1 k e he).nout
    mono := fun k hk => let ⟨e, he⟩ := get k hk; (g1 k e he).mono
    tin := fun k hk d x hx => by
      obtain ⟨e, he⟩ := get k hk
      rw [(g1 k e he).tin, look_delT] at hx
      split at hx
      · cases hx
      · exact hx
    fin := fun k hk => let ⟨e, he⟩ := get k hk; (g1 k e he).fin
    tt := fun k hk d x hx => by
      obtain ⟨e, he⟩ := get k hk
      rcases (g1 k e he).tt d x hx with ⟨a, b⟩ | h
      · exact .inl ⟨a, congrArg some b⟩
      · exact .inr h
    hh := fun k hk => let ⟨e, he⟩ := get k hk; (g1 k e he).hh
    same := fun k hk => let ⟨e, he⟩ := get k hk; (g1 k e he).same
    dst := fun k hk => let ⟨e, he⟩ := get k hk; (g1 k e he).dst
    spec := fun k hk => let ⟨e, he⟩ := get k hk; (g1 k e he).spec
    inj := fun p k hp hk hpk => by
      obtain ⟨e, he⟩ := get k hk
      obtain ⟨f, hf⟩ := get p hp
      rw [(g1 k e he).i, (g1 p f hf).i] at hpk
      rcases Nat.lt_trichotomy p k with h | h | h
      · exact absurd hpk ((hc k e he).2.2.2.2 p f h hf).1
      · exact h
      · exact absurd hpk.symm ((hc p f hf).2.2.2.2 k e h he).1
    sur := fun i hi => by
      obtain ⟨p, hp, he⟩ := List.any_eq_true.1 (List.all_eq_true.1 h2 i (List.mem_range.2 hi))
      obtain ⟨k, hk, hpk⟩ := List.mem_iff_getElem.1 hp
      exact ⟨k, hk, by rw [(g1 k p (by rw [List.getElem?_eq_getElem hk, hpk])).i]; exact Nat.eq_of_beq_eq_true he⟩
    lt := fun k hk => by
      obtain ⟨e, he⟩ := get k hk
      rw [(g1 k e he).i]; exact (hc k e he).1
    must := fun k hk a ha => by
      obtain ⟨e, he⟩ := get k hk
      rw [(g1 k e he).A] at ha
      rw [(g1 k e he).i]; exact (hc k e he).2.1 a ha
    topo := fun k hk o ho x hx hb => by
      obtain ⟨e, he⟩ := get k hk
      rw [(g1 k e he).i] at ho
      have : x.on ∈ dirs ops e.1 := by
        unfold dirs
        rw [ho]
        exact List.mem_map.2 ⟨x, List.mem_filter.2 ⟨by simpa using hx, hb⟩, rfl⟩
      rcases (hc k e he).2.2.1 _ this with ⟨p, hp, _⟩ | ⟨p, f, hp, hf, hx'⟩
      · simp at hp
      · exact ⟨p, hp, by rw [(g1 p f hf).i]; exact hx'⟩
    free := fun p k hp hk => by
      obtain ⟨e, he⟩ := get k hk
      obtain ⟨f, hf⟩ := get p (by omega)
      have s1 := g1 k e he
      have s2 := g1 p f hf
      rw [s1.A]
      rcases g3 p k e hp he with h | h
      · exact .inl h
      · rcases ((hc k e he).2.2.2.2 p f hp hf).2 with h' | ⟨h', h''⟩
        · exact .inl (by rw [s2.i]; exact h')
        · refine .inr ⟨fun d hd => ?_, fun d hd => ?_, h.h1, fun id hid => mini_F (h.h2 id hid), h.x, h.o⟩
          · rw [s2.d] at hd
            refine ⟨by rw [s1.tin, look_delT, if_pos (h' d hd).1], ?_⟩
            rw [s1.d]; exact (h' d hd).2
          · rw [s1.d] at hd
            rw [s2.tin, look_delT, if_pos (h'' d hd)] }
  exact hs.code hm rfl g4 hlen g5
theorem dreg {P : Program} {ops : Array Oper} {N n : Nat} {t : List (Nat × AV)} {h : Heap} {id : Nat} {Q : Exit → S → Prop} (tbl : List Entry) (hm : P.follows .mixedOrders = true) (hB : tblB ops tbl = true)
    (k : DW P ops N (Q .normal) [] tbl ⟨N, n, t, h⟩) : CodeOk P (.region id ops true) ⟨N, n, t, h⟩ Q := dreg_ tbl hm hB k
end Go.Proofs.YtohmbpcjapjkbaaGreatDoorAl
