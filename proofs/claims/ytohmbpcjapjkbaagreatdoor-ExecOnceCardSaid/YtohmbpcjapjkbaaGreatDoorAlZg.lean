/- The A-logic: frozen boxes: what a pointer leads to is written by nobody any more. -/
import Derived.Test.YtohmbpcjapjkbaaGreatDoorAlZf
set_option linter.all false
namespace Go.Proofs.YtohmbpcjapjkbaaGreatDoorAl
mutual
/-- The box is named only by pointers to it. -/
def AV.ocb (id : Nat) : AV → Prop
  | .top => True
  | .st _ => True
  | .ptr _ _ => True
  | .eptr i _ _ _ => cond (Nat.beq i id) False True
  | .lsl i _ _ _ => cond (Nat.beq i id) False True
  | .map i => cond (Nat.beq i id) False True
  | .iter i => cond (Nat.beq i id) False True
  | .fn _ first caps => ocbL id first ∧ ocbL id caps
  | .iface _ x => x.ocb id
  | .agg cells => ocbL id cells
  | .tuple vs => ocbL id vs
def ocbL (id : Nat) : List AV → Prop
  | [] => True
  | x :: xs => x.ocb id ∧ ocbL id xs
end
def ocbT (id : Nat) : Tm → Prop
  | [] => True
  | (_, x) :: r => x.ocb id ∧ ocbT id r
def AO.ocb (id : Nat) : AO → Prop
  | .cells cs => ocbL id cs
  | .rows _ _ => False
  | _ => True
def ocbH (id : Nat) : Heap → Prop
  | [] => True
  | (_, o) :: r => o.ocb id ∧ ocbH id r
mutual
def AV.frb (id : Nat) (cs : List SV) : AV → AV
  | .top => .top
  | .st x => .st x
  | .ptr i o => cond (Nat.beq i id) (.st (.sptr (cs.drop o))) (.ptr i o)
  | .eptr i a b d => .eptr i a b d
  | .lsl i a b d => .lsl i a b d
  | .map i => .map i
  | .iter i => .iter i
  | .fn f first caps => .fn f (frbL id cs first) (frbL id cs caps)
  | .iface t x => match x.frb id cs with
    | .st y => .st (.iface t y)
    | y => .iface t y
  | .agg cells => mkAgg (frbL id cs cells)
  | .tuple vs => .tuple (frbL id cs vs)
def frbL (id : Nat) (cs : List SV) : List AV → List AV
  | [] => []
  | x :: xs => x.frb id cs :: frbL id cs xs
end
def frbT (id : Nat) (cs : List SV) : Tm → Tm
  | [] => []
  | (i, x) :: r => (i, x.frb id cs) :: frbT id cs r
def AO.frb (id : Nat) (cs : List SV) : AO → AO
  | .cells xs => .cells (frbL id cs xs)
  | .arr a b => .arr a b
  | .rows a b => .rows a b
  | .map es => .map es
  | .siter s p => .siter s p
  | .fact b o => .fact b o
def frbH (id : Nat) (cs : List SV) : Heap → Heap
  | [] => []
  | (i, o) :: r => (i, o.frb id cs) :: frbH id cs r
def Cfg.frozeB (c : Cfg) (id : Nat) : Cfg := { c with St := fun b => c.St b ∨ b = c.ι id }
theorem go_frozeB (c : Cfg) (id : Nat) : CGo c (c.frozeB id) :=
  ⟨Nat.le_refl _, fun _ _ => rfl, ⟨fun _ hb => .inl hb, fun _ _ => rfl⟩, fun _ _ hs => hs⟩
section
variable {c : Cfg} {id : Nat} {cs : List SV}
mutual
theorem AVal.frb (hr : SCells (c.frozeB id).St c.w (c.ι id) 0 cs) : ∀ {x : AV} {v : Value}, AVal c x v → x.ocb id → AVal (c.frozeB id) (x.frb id cs) v
  | _, _, .top v, _ => .top v
  | _, _, .st x v h, _ => .st x v (h.goes (go_frozeB c id).st)
  | _, _, .ptr i o hi, _ => by
    simp only [AV.frb]
    cases hb : Nat.beq i id with
    | false => exact .ptr i o hi
    | true =>
      have := Nat.eq_of_beq_eq_true hb
      subst this
      refine .st _ _ (.sptr _ _ _ (.inr rfl) ?_)
      have := hr.drop o
      rwa [Nat.zero_add] at this
  | _, _, .eptr i a b d hi, _ => .eptr i a b d hi
  | _, _, .lsl i a b d cap T size hi h1 h2 h3, _ => .lsl i a b d cap T size hi h1 h2 h3
  | _, _, .lsl0 i a ad hi, _ => .lsl0 i a ad hi
  | _, _, .lslr i a cap T size hi h2 h3, _ => .lslr i a cap T size hi h2 h3
  | _, _, .map i hi, _ => .map i hi
  | _, _, .iter i hi, _ => .iter i hi
  | _, _, .fn f first caps vf vc h1 h2, ho => .fn f _ _ vf vc (h1.frb hr ho.1) (h2.frb hr ho.2)
  | _, _, .iface ty x v h1, ho => by
    have h2 := h1.frb hr ho
    simp only [AV.frb]
    split
    · rename_i y e; rw [e] at h2; exact .st _ _ (.iface _ _ _ (st_inv h2))
    · exact .iface _ _ _ h2
  | _, _, .agg cells vs h1, ho => mkAgg_val (h1.frb hr ho)
  | _, _, .tuple xs vs h1, ho => .tuple _ vs (h1.frb hr ho)
theorem AList.frb (hr : SCells (c.frozeB id).St c.w (c.ι id) 0 cs) : ∀ {xs : List AV} {vs : List Value}, AList c xs vs → ocbL id xs → AList (c.frozeB id) (frbL id cs xs) vs
  | _, _, .nil, _ => .nil
  | _, _, .cons x v xs vs h1 h2, ho => .cons _ v _ vs (h1.frb hr ho.1) (h2.frb hr ho.2)
end
theorem ORel.frb (hr : SCells (c.frozeB id).St c.w (c.ι id) 0 cs) {b : Nat} : ∀ {o : AO}, ORel c b o → o.ocb id → ORel (c.frozeB id) b (o.frb id cs)
  | .cells _, ⟨vs, T, fr, h1, h2, h3⟩, ho => ⟨vs, T, fr, h1, h2, h3.frb hr ho⟩
  | .arr _ _, ⟨cs, T, fr, h1, h2, h3, h4⟩, _ => ⟨cs, T, fr, h1, h2, h3, h4.goes (go_frozeB c id).st rfl⟩
  | .rows _ _, _, ho => ho.elim
  | .map _, ⟨mes, clock, h1, h2, h3, h4⟩, _ => ⟨mes, clock, h1, h2, fun i k v e => let ⟨x, a, b', d⟩ := h3 i k v e; ⟨x, a, b'.goes (go_frozeB c id).st, d.goes (go_frozeB c id).st⟩, h4⟩
  | .siter _ _, h, _ => h
  | .fact _ _, h, _ => ⟨.inl h.1, h.2⟩
end
theorem look_frbT {id : Nat} {cs : List SV} : ∀ {t : Tm} {i : Nat} {x : AV}, look (frbT id cs t) i = some x → ∃ y, look t i = some y ∧ x = y.frb id cs
  | [], _, _, e => by cases e
  | (a, y) :: r, i, x, e => by
    simp only [frbT, look_cons] at e ⊢
    split at e
    · cases e; exact ⟨y, by simp_all, rfl⟩
    · obtain ⟨z, h1, h2⟩ := look_frbT e; exact ⟨z, by simp_all, h2⟩
theorem look_frbH {id : Nat} {cs : List SV} : ∀ {t : Heap} {i : Nat} {x : AO}, look (frbH id cs t) i = some x → ∃ y, look t i = some y ∧ x = y.frb id cs
  | [], _, _, e => by cases e
  | (a, y) :: r, i, x, e => by
    simp only [frbH, look_cons] at e ⊢
    split at e
    · cases e; exact ⟨y, by simp_all, rfl⟩
    · obtain ⟨z, h1, h2⟩ := look_frbH e; exact ⟨z, by simp_all, h2⟩
theorem ocbT_look {id : Nat} : ∀ {t : Tm}, ocbT id t → ∀ i x, look t i = some x → x.ocb id
  | [], _, i, x, e => by cases e
  | (a, y) :: r, h, i, x, e => by
    rw [look_cons] at e
    split at e
    · cases e; exact h.1
    · exact ocbT_look h.2 i x e
theorem ocbH_look {id : Nat} : ∀ {t : Heap}, ocbH id t → ∀ i x, look t i = some x → x.ocb id
  | [], _, i, x, e => by cases e
  | (a, y) :: r, h, i, x, e => by
    rw [look_cons] at e
    split at e
    · cases e; exact h.1
    · exact ocbH_look h.2 i x e
theorem real_frb {id : Nat} {cs : List SV} {o : AO} : (o.frb id cs).real ↔ o.real := by cases o <;> exact Iff.rfl
section
variable {N n : Nat} {t : Tm} {h : Heap}
/-- A box that nobody writes any more: pointers to it are stable values. -/
theorem Wk.frb {cs : List SV} {cells : List AV} (id : Nat) (lt : List Nat) (hl : look h id = some (.cells cells)) (hu : unSt cells = some cs) {t1 t2 : Tm} {h1 h2 : Heap} (e1 : keepL lt t = t1) (e2 : del h id = h1) (ht : ocbT id t1) (hh : ocbH id h1)
    (e3 : frbT id cs t1 = t2) (e4 : frbH id cs h1 = h2) : Wk ⟨N, n, t, h⟩ ⟨N, n, t2, h2⟩ := by
  subst e1 e2 e3 e4
  intro c a hs
  have hr : SCells (c.frozeB id).St c.w (c.ι id) 0 cs := by
    obtain ⟨vs, T, fr, g1, g2, g3⟩ := hs.h.rel id _ hl trivial
    have g4 := unSt_val g3 hu
    refine SCells.of_get fun p x e => ?_
    obtain ⟨v, u1, u2⟩ := g4.get p x e
    exact ⟨v, by simp [World.cell?, g1, u1], u2.goes (go_frozeB c id).st⟩
  have dom : ∀ i o, look (frbH id cs (del h id)) i = some o → i ≠ id ∧ ∃ o', look h i = some o' ∧ o = o'.frb id cs ∧ o'.ocb id := fun i o e => by
    obtain ⟨y, g1, g2⟩ := look_frbH e
    have g3 := ocbH_look hh i y g1
    rw [look_del] at g1
    split at g1
    · cases g1
    · rename_i hi; exact ⟨fun x => hi x.symm, y, g1, g2, g3⟩
  refine ⟨c.frozeB id, ⟨hs.defers, hs.n, ⟨hs.t.size, fun i x e => ?_⟩, ?_⟩, ⟨rfl, rfl, fun _ hb => .inl hb, fun b hb => ?_, fun i o e r => ?_⟩⟩
  · obtain ⟨y, g1, rfl⟩ := look_frbT e
    obtain ⟨v, g2, g3⟩ := hs.t.get i y ((keepL_sub lt t).look i y g1)
    exact ⟨v, g2, g3.frb hr (ocbT_look ht i y g1)⟩
  · refine ⟨fun i o e => ?_, fun i o e r => ?_, fun i o e r hb => ?_, fun i o e r => ?_, fun i i' o o' e r e' r' hij => ?_, fun b hb => ?_, fun i b o e => ?_⟩
    · obtain ⟨_, y, g1, _⟩ := dom i o e; exact hs.h.lt i y g1
    · obtain ⟨_, y, g1, rfl, _⟩ := dom i o e; exact hs.h.blk i y g1 (real_frb.1 r)
    · obtain ⟨g0, y, g1, rfl, _⟩ := dom i o e
      rcases hb with hb | hb
      · exact hs.h.own i y g1 (real_frb.1 r) hb
      · exact g0 (hs.h.inj i id y _ g1 (real_frb.1 r) hl trivial hb)
    · obtain ⟨_, y, g1, rfl, g2⟩ := dom i o e
      exact (hs.h.rel i y g1 (real_frb.1 r)).frb hr g2
    · obtain ⟨_, y, g1, rfl, _⟩ := dom i o e
      obtain ⟨_, y', g1', rfl, _⟩ := dom i' o' e'
      exact hs.h.inj i i' y y' g1 (real_frb.1 r) g1' (real_frb.1 r') hij
    · rcases hb with hb | hb
      · exact hs.h.st b hb
      · have h0 : b = c.ι id := hb
        rw [h0]; exact hs.h.blk id _ hl trivial
    · obtain ⟨_, y, g1, e1, _⟩ := dom i _ e
      cases y <;> cases e1
      exact ⟨.inl (hs.h.fact i b o g1).1, (hs.h.fact i b o g1).2⟩
  · rcases hb with hb | hb
    · exact .inl hb
    · exact .inr ⟨id, _, hl, trivial, hb.symm⟩
  · obtain ⟨_, y, g1, rfl, _⟩ := dom i o e
    exact ⟨i, y, g1, real_frb.1 r, rfl⟩
end
end Go.Proofs.YtohmbpcjapjkbaaGreatDoorAl
