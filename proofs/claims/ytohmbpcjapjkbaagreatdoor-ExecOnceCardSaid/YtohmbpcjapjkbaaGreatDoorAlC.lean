/- The A-logic, part 3: what code does, said of states; the rules of control. -/
import Derived.Test.YtohmbpcjapjkbaaGreatDoorAlB
import Derived.Deep.LoopGhost
set_option linter.all false
namespace Go.Proofs.YtohmbpcjapjkbaaGreatDoorAl

/-- What an operation comes to from a state: in every configuration that fits. -/
def OpOk (P : Program) (o : Oper) (s : S) (K : AV → Heap → Nat → Prop) : Prop :=
  ∀ (c : Cfg) (a : Act), SRel c s a → ∀ (next : Act → World → Prop) (Q : Exit → Act → World → Prop),
    (∀ x h' n' v c', K x h' n' → Ev c s.h c' h' → c'.n = n' → HRel c' h' → AVal c' x v → next (a.put o.dst v) c'.w) → o.wp P a c.w next Q

/-- What code comes to from a state. -/
def CodeOk (P : Program) (code : Code) (s : S) (Q : Exit → S → Prop) : Prop :=
  ∀ (c : Cfg) (a : Act), SRel c s a → code.wp P (fun e a' w' => ∃ s' c', Q e s' ∧ SRel c' s' a' ∧ c'.w = w' ∧ Ev c s.h c' s'.h) a c.w

/-- The operations of a region, one behind the other. -/
def OpsOk (P : Program) (ops : Array Oper) (l : List Nat) (s : S) (Q : S → Prop) : Prop :=
  ∀ (c : Cfg) (a : Act), SRel c s a → ∀ Qx : Exit → Act → World → Prop,
    (∀ s' c' a', Q s' → SRel c' s' a' → Ev c s.h c' s'.h → Qx .normal a' c'.w) → wpOps P ops Qx l a c.w

theorem hrel_sub' {c : Cfg} {h h' : Heap} (hr : HRel c h) (hsub : ∀ id o, look h' id = some o → look h id = some o) : HRel c h' :=
  ⟨fun id o e => hr.lt id o (hsub id o e), fun id o e => hr.blk id o (hsub id o e), fun id o e => hr.own id o (hsub id o e), fun id o e => hr.rel id o (hsub id o e),
   fun i j o o' e r e' r' => hr.inj i j o o' (hsub i o e) r (hsub j o' e') r', hr.st, fun id b o e => hr.fact id b o (hsub id _ e)⟩

/-- One state says less than another. -/
def Wk (s s' : S) : Prop := ∀ (c : Cfg) (a : Act), SRel c s a → ∃ c', SRel c' s' a ∧ EvW c s.h c' s'.h

theorem Wk.refl (s : S) : Wk s s := fun c _ h => ⟨c, h, .refl _ _⟩
theorem Wk.trans {s s' s'' : S} (h : Wk s s') (k : Wk s' s'') : Wk s s'' := fun c a hs =>
  let ⟨c1, h1, h2⟩ := h c a hs
  let ⟨c2, k1, k2⟩ := k c1 a h1
  ⟨c2, k1, h2.trans k2⟩

/-- What one list of pairs says another one says, too. -/
def Sub {α : Type} : List (Nat × α) → List (Nat × α) → Prop
  | [], _ => True
  | (i, x) :: r, t => look t i = some x ∧ Sub r t
theorem Sub.look {α : Type} : ∀ {r t : List (Nat × α)}, Sub r t → ∀ i x, look r i = some x → look t i = some x
  | [], _, _, i, x, e => by cases e
  | (j, y) :: r, t, h, i, x, e => by
    rw [look_cons] at e
    split at e
    · rename_i hj; subst hj; cases e; exact h.1
    · exact Sub.look h.2 i x e
theorem Wk.of {s s' : S} (hN : s'.N = s.N) (ht : Sub s'.t s.t) (hh : Sub s'.h s.h) (hb : (belT s'.n s'.t && belH s'.n s'.h) = true) : Wk s s' := fun c a hs => by
  simp only [Bool.and_eq_true] at hb
  refine ⟨{ c with n := s'.n }, ⟨hs.defers, rfl, ⟨by rw [hN]; exact hs.t.size, fun i x e => ?_⟩, ?_⟩, ⟨rfl, rfl, fun _ h => h, fun _ h => .inl h, fun id o e r => ⟨id, o, hh.look id o e, r, rfl⟩⟩⟩
  · obtain ⟨v, h1, h2⟩ := hs.t.get i x (ht.look i x e)
    exact ⟨v, h1, h2.narrow (belT_look hb.1 i x e)⟩
  · have h0 := hrel_sub' hs.h (fun id o e => hh.look id o e)
    exact ⟨fun id o e => (belH_look hb.2 id o e).1, h0.blk, h0.own, fun id o e r => (h0.rel id o e r).narrow (belH_look hb.2 id o e).2, h0.inj, h0.st, h0.fact⟩

def thn (P : Program) (code : Code) (Q : Exit → S → Prop) : Exit → S → Prop
  | .normal, s => CodeOk P code s Q
  | e, s => Q e s
def inBlk (id : Nat) (Q : Exit → S → Prop) : Exit → S → Prop
  | .exit id', s => if id' = id then Q .normal s else Q (.exit id') s
  | e, s => Q e s

section
variable {P : Program} {s : S} {Q : Exit → S → Prop}

theorem CodeOk.mono {code : Code} {Q' : Exit → S → Prop} (h : CodeOk P code s Q) (hq : ∀ e s, Q e s → Q' e s) : CodeOk P code s Q' := fun c a hs =>
  wp_mono (h c a hs) fun _ _ _ ⟨s', c', q, r⟩ => ⟨s', c', hq _ _ q, r⟩
theorem CodeOk.wk {code : Code} {s' : S} (hw : Wk s s') (hn : s.n ≤ s'.n) (h : CodeOk P code s' Q) : CodeOk P code s Q := fun c a hs => by
  obtain ⟨c1, h1, h2⟩ := hw c a hs
  have h3 : Ev c s.h c1 s'.h := (Ev.refl c s.h).wk h2 (by rw [hs.n, h1.n]; exact hn)
  rw [← h2.w]
  exact wp_mono (h c1 a h1) fun _ _ _ ⟨s2, c2, q, r1, r2, r3⟩ => ⟨s2, c2, q, r1, r2, h3.trans r3⟩

theorem CodeOk.skip (h : Q .normal s) : CodeOk P .skip s Q := fun c _ hs => wp_skip ⟨s, c, h, hs, rfl, .refl _ _⟩
theorem CodeOk.exit {id : Nat} (h : Q (.exit id) s) : CodeOk P (.exit id) s Q := fun c _ hs => wp_exit ⟨s, c, h, hs, rfl, .refl _ _⟩
theorem CodeOk.ret (h : Q .ret s) : CodeOk P .ret s Q := fun c _ hs => wp_ret ⟨s, c, h, hs, rfl, .refl _ _⟩

theorem CodeOk.seq {x y : Code} (h : CodeOk P x s (thn P y Q)) : CodeOk P (.seq x y) s Q := fun c a hs => by
  refine wp_seq (wp_mono (h c a hs) ?_)
  rintro e a' w' ⟨s', c', q, r1, rfl, r3⟩
  cases e with
  | normal => exact wp_mono (q c' a' r1) fun _ _ _ ⟨s2, c2, q, u1, u2, u3⟩ => ⟨s2, c2, q, u1, u2, r3.trans u3⟩
  | _ => exact ⟨s', c', q, r1, rfl, r3⟩

theorem CodeOk.block {id : Nat} {x : Code} (h : CodeOk P x s (inBlk id Q)) : CodeOk P (.block id x) s Q := fun c a hs => by
  refine wp_block (wp_mono (h c a hs) ?_)
  rintro e a' w' ⟨s', c', q, r⟩
  cases e with
  | exit id' =>
    simp only [Exit.inBlock]
    simp only [inBlk] at q
    split
    · rename_i hid; simp only [hid, if_true] at q; exact ⟨s', c', q, r⟩
    · rename_i hid; simp only [hid, if_false] at q; exact ⟨s', c', q, r⟩
  | _ => exact ⟨s', c', q, r⟩

theorem CodeOk.loop {x : Code} (I : Nat → S → Prop) (m₀ : Nat) (s₀ : S) (h0 : Wk s s₀) (hn : s.n ≤ s₀.n) (h1 : I m₀ s₀)
    (round : ∀ m s, I m s → CodeOk P x s (fun e s' => match e with | .normal => ∃ m' s'', m' < m ∧ Wk s' s'' ∧ s.n ≤ s''.n ∧ I m' s'' | e => Q e s')) : CodeOk P (.loop x) s Q := fun c a hs => by
  obtain ⟨c0, k1, k2⟩ := h0 c a hs
  refine wp_loop_ghost (fun m a w => ∃ s' c', I m s' ∧ SRel c' s' a ∧ c'.w = w ∧ Ev c s.h c' s'.h) m₀ ⟨s₀, c0, h1, k1, k2.w, (Ev.refl c s.h).wk k2 (by rw [hs.n, k1.n]; exact hn)⟩ ?_
  rintro m a w ⟨s', c', hI, hr, rfl, hev⟩
  refine wp_mono (round m s' hI c' a hr) ?_
  rintro e a' w' ⟨s2, c2, q, r1, rfl, r3⟩
  cases e with
  | normal =>
    obtain ⟨m', s3, hlt, hwk, hn3, hI'⟩ := q
    obtain ⟨c3, u1, u2⟩ := hwk c2 a' r1
    exact ⟨m', hlt, s3, c3, hI', u1, u2.w, hev.trans (r3.wk u2 (by rw [hr.n, u1.n]; exact hn3))⟩
  | _ => exact ⟨s2, c2, q, r1, rfl, hev.trans r3⟩

theorem CodeOk.region {id : Nat} {ops : Array Oper} (h : OpsOk P ops (List.range ops.size) s (Q .normal)) : CodeOk P (.region id ops false) s Q := fun c a hs =>
  wp_region (h c a hs _ fun s' c' _ q r e => ⟨s', c', q, r, rfl, e⟩)

theorem OpsOk.nil {ops : Array Oper} {q : S → Prop} (h : q s) : OpsOk P ops [] s q := fun c a hs Qx hQ => by
  simp only [wpOps]
  exact hQ s c a h hs (.refl _ _)

/-- The state behind an operation. -/
def S.after (s : S) (dst : Option Tmp) (x : AV) (h : Heap) (n : Nat) : S :=
  { s with t := match dst with | some d => (d, x) :: s.t | none => s.t, h, n }

theorem SRel.after {c c' : Cfg} {a : Act} {x : AV} {h : Heap} {v : Value} (hs : SRel c s a) (he : Ev c s.h c' h) (hh : HRel c' h) (hx : AVal c' x v) {dst : Option Tmp}
    (hd : ∀ d, dst = some d → d < s.N) : SRel c' (s.after dst x h c'.n) (a.put dst v) := by
  cases dst with
  | none => exact ⟨hs.defers, rfl, hs.t.goes he.go, hh⟩
  | some d => exact ⟨hs.defers, rfl, (hs.t.goes he.go).put (hd d rfl) hx, hh⟩

def dstOk (N : Nat) : Option Tmp → Bool
  | some d => Nat.blt d N
  | none => true
theorem dstOk_lt {N : Nat} {dst : Option Tmp} (h : dstOk N dst = true) : ∀ d, dst = some d → d < N := by
  rintro d rfl
  simpa [dstOk, Nat.blt_eq] using h

theorem OpsOk.op {ops : Array Oper} {i : Nat} {rest : List Nat} {o : Oper} {q : S → Prop} (ho : ops[i]? = some o) (hg : o.guard = none) (hd : dstOk s.N o.dst = true)
    (h : OpOk P o s fun x h' n' => OpsOk P ops rest (s.after o.dst x h' n') q) : OpsOk P ops (i :: rest) s q := fun c a hs Qx hQ => by
  simp only [wpOps, ho, Region.wanted, hg, if_true]
  refine .inl (h c a hs _ _ ?_)
  rintro x h' n' v c' hk he rfl hh hx
  exact hk c' _ (hs.after he hh hx (dstOk_lt hd)) Qx fun s' c2 a' q' r e => hQ s' c2 a' q' r (he.trans e)
end
end Go.Proofs.YtohmbpcjapjkbaaGreatDoorAl
