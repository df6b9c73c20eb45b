/- The A-logic, part 19: whatever order is drawn, it comes to the same. -/
import Derived.Test.YtohmbpcjapjkbaaGreatDoorAlR
set_option linter.all false
namespace Go.Proofs.YtohmbpcjapjkbaaGreatDoorAl

/-- One operation of such a region: what it needs, what it leaves behind. -/
structure Rec where
  i : Nat
  d : Option Nat
  A : List Nat
  tin : List (Nat × AV)
  F : Heap
  nin : Nat
  x : AV
  hout : Heap
  nout : Nat
  T : List Nat

/-- Not one of the names from lo to hi. -/
def outB (lo hi id : Nat) : Bool := Nat.blt id lo || Nat.ble hi id
theorem outB_iff {lo hi id : Nat} : outB lo hi id = true ↔ id < lo ∨ hi ≤ id := by
  simp [outB, Nat.blt_eq]
def belB (n id : Nat) : Bool := Nat.blt id n
theorem belB_iff {n id : Nat} : belB n id = true ↔ id < n := by simp [belB, Nat.blt_eq]

/-- What is to be shown of the operation. -/
def OpSpec (P : Program) (ops : Array Oper) (N : Nat) (r : Rec) : Prop :=
  ∀ (c : Cfg) (a : Act), SRel c ⟨N, r.nin, r.tin, r.F⟩ a → ∀ (K : Act → World → Prop) (Qx : Exit → Act → World → Prop),
    (∀ v c', AVal c' r.x v → HRel c' r.hout → Ev c r.F c' r.hout → c'.n = r.nout → K (a.put r.d v) c'.w) → wpOp P ops Qx r.i K a c.w

/-- Two of them that may come up in either order. -/
structure Sep (p r : Rec) : Prop where
  d1 : ∀ d, p.d = some d → look r.tin d = none ∧ r.d ≠ some d
  d2 : ∀ d, r.d = some d → look p.tin d = none
  h1 : ∀ id, id ∈ p.T → look r.F id = none ∧ id ∉ r.T
  h2 : ∀ id, id ∈ r.T → look p.F id = none
  x : r.x.nm (outB p.nin p.nout) = true
  o : ∀ id o, id ∈ r.T → look r.hout id = some o → outB p.nin p.nout id = true ∧ o.nm (outB p.nin p.nout) = true

/-- What has come up stays closed under 'waits for'. -/
def Closed (ops : Array Oper) (listed : Array Bool) : Prop :=
  ∀ (j : Nat) o, ops[j]? = some o → listed.getD j false = true → ∀ e ∈ o.after, Region.binds .any e = true → listed.getD e.on false = true
def Must (ops : Array Oper) (p i : Nat) : Prop := ∀ listed, Closed ops listed → listed.getD i false = true → listed.getD p false = true

structure Seq (P : Program) (ops : Array Oper) (N m : Nat) (r : Nat → Rec) (st : Nat → S) : Prop where
  nin : ∀ k, k < m → (r k).nin = (st k).n
  nout : ∀ k, k < m → (st (k + 1)).n = (r k).nout
  mono : ∀ k, k < m → (r k).nin ≤ (r k).nout
  tin : ∀ k, k < m → ∀ d x, look (r k).tin d = some x → look (st k).t d = some x
  fin : ∀ k, k < m → ∀ id o, look (r k).F id = some o → look (st k).h id = some o
  tt : Track m (fun k d => (r k).d = some d) (fun k _ => some (r k).x) (fun k d => look (st k).t d)
  hh : Track m (fun k id => id ∈ (r k).T) (fun k id => look (r k).hout id) (fun k id => look (st k).h id)
  same : ∀ k, k < m → ∀ id, id ∉ (r k).T → look (r k).hout id = look (r k).F id
  dst : ∀ k, k < m → dstOk N (r k).d = true
  spec : ∀ k, k < m → OpSpec P ops N (r k)
  inj : ∀ p k, p < m → k < m → (r p).i = (r k).i → p = k
  sur : ∀ i, i < ops.size → ∃ k, k < m ∧ (r k).i = i
  lt : ∀ k, k < m → (r k).i < ops.size
  must : ∀ k, k < m → ∀ a, a ∈ (r k).A → Must ops a (r k).i
  topo : ∀ k, k < m → ∀ o, ops[(r k).i]? = some o → ∀ e ∈ o.after, Region.binds .any e = true → ∃ p, p < k ∧ (r p).i = e.on
  free : ∀ p k, p < k → k < m → (r p).i ∈ (r k).A ∨ Sep (r p) (r k)

abbrev Exd (r : Nat → Rec) (listed : Array Bool) (k : Nat) : Prop := listed.getD (r k).i false = true

structure Inv (ops : Array Oper) (N m : Nat) (r : Nat → Rec) (st : Nat → S) (c0 : Cfg) (listed : Array Bool) (a : Act) (c : Cfg) (tE : List (Nat × AV)) (hE : Heap) : Prop where
  size : listed.size = ops.size
  rel : SRel c ⟨N, (st m).n, tE, hE⟩ a
  ev : Ev c0 (st 0).h { c with n := (st 0).n } hE
  ct : Cur m (fun k d => (r k).d = some d) (fun k _ => some (r k).x) (fun k d => look (st k).t d) (Exd r listed) (look tE)
  ch : Cur m (fun k id => id ∈ (r k).T) (fun k id => look (r k).hout id) (fun k id => look (st k).h id) (Exd r listed) (look hE)
  bel : ∀ p, p < m → Exd r listed p → (r p).x.nm (belB (r p).nout) = true ∧ ∀ id o, look (r p).hout id = some o → id < (r p).nout ∧ o.nm (belB (r p).nout) = true
  belt : ∀ d x, look (st 0).t d = some x → x.nm (belB (st 0).n) = true
  belh : ∀ id o, look (st 0).h id = some o → id < (st 0).n ∧ o.nm (belB (st 0).n) = true
  av : ∀ k, k < m → ¬ Exd r listed k → (∀ d x, look tE d = some x → x.nm (outB (r k).nin (r k).nout) = true) ∧
    (∀ id o, look hE id = some o → outB (r k).nin (r k).nout id = true ∧ o.nm (outB (r k).nin (r k).nout) = true)
  cl : Closed ops listed

theorem getD_set {listed : Array Bool} {i j : Nat} (hi : i < listed.size) : (listed.setIfInBounds i true).getD j false = true ↔ listed.getD j false = true ∨ j = i := by
  simp only [Array.getD_eq_getD_getElem?, Array.getElem?_setIfInBounds]
  by_cases h : i = j
  · subst h; simp [hi]
  · simp [h, Ne.symm h]

def keepAll (l : List Nat) : List (Nat × AO) → List (Nat × AO)
  | [] => []
  | (i, o) :: r => cond (hasN l i) ((i, o) :: keepAll l r) (keepAll l r)
theorem look_keepAll {l : List Nat} {id : Nat} : ∀ {h : List (Nat × AO)}, look (keepAll l h) id = if id ∈ l then look h id else none
  | [] => by simp [keepAll, look]
  | (i, o) :: r => by
    have ih := look_keepAll (l := l) (id := id) (h := r)
    simp only [keepAll]
    cases hb : hasN l i with
    | true =>
      have hi := hasN_iff.1 hb
      simp only [cond_true, look_cons, ih]
      by_cases e : i = id
      · subst e; simp [hi]
      · simp [e]
    | false =>
      have hi : i ∉ l := fun x => by rw [hasN_iff.2 x] at hb; cases hb
      simp only [cond_false, ih, look_cons]
      by_cases e : i = id
      · subst e; simp [hi]
      · simp [e]
theorem look_delAll' {l : List Nat} {id : Nat} : ∀ {h : List (Nat × AO)}, look (delAll l h) id = if id ∈ l then none else look h id
  | [] => by simp [delAll, look]
  | (i, o) :: r => by
    have ih := look_delAll' (l := l) (id := id) (h := r)
    simp only [delAll]
    cases hb : hasN l i with
    | true =>
      have hi := hasN_iff.1 hb
      simp only [cond_true, look_cons, ih]
      by_cases e : i = id
      · subst e; simp [hi]
      · simp [e]
    | false =>
      have hi : i ∉ l := fun x => by rw [hasN_iff.2 x] at hb; cases hb
      simp only [cond_false, ih, look_cons]
      by_cases e : i = id
      · subst e; simp [hi]
      · simp [e]
theorem look_app_eq {α : Type} {id : Nat} : ∀ {l r : List (Nat × α)}, look (l ++ r) id = match look l id with | some o => some o | none => look r id
  | [], _ => rfl
  | (i, o) :: l, r => by
    simp only [List.cons_append, look_cons]
    by_cases e : i = id
    · simp [e]
    · simp only [e, if_false]; exact look_app_eq
def upd (T : List Nat) (hout h : Heap) : Heap := keepAll T hout ++ delAll T h
theorem look_upd {T : List Nat} {hout h : Heap} {id : Nat} : look (upd T hout h) id = if id ∈ T then look hout id else look h id := by
  unfold upd
  rw [look_app_eq, look_keepAll, look_delAll']
  by_cases e : id ∈ T
  · simp only [e, if_true]; cases look hout id <;> rfl
  · simp [e]

section
variable {P : Program} {ops : Array Oper} {N m : Nat} {r : Nat → Rec} {st : Nat → S} {c0 : Cfg}

theorem Seq.nle (hs : Seq P ops N m r st) : ∀ q, q ≤ m → ∀ p, p ≤ q → (st p).n ≤ (st q).n
  | 0, _, p, hp => by have : p = 0 := by omega
                      subst this; exact Nat.le_refl _
  | q + 1, hq, p, hp => by
    rcases Nat.lt_or_ge q p with h | h
    · have : p = q + 1 := by omega
      subst this; exact Nat.le_refl _
    · have h1 := hs.nle q (by omega) p h
      have h2 := hs.mono q (by omega)
      rw [hs.nin q (by omega), ← hs.nout q (by omega)] at h2
      omega
theorem Seq.ole (hs : Seq P ops N m r st) {p k : Nat} (h : p < k) (hk : k < m) : (r p).nout ≤ (r k).nin := by
  rw [hs.nin k hk, ← hs.nout p (by omega)]
  exact hs.nle k (by omega) (p + 1) h
/-- Those that it waits for have come up; those that wait for it have not. -/
theorem Inv.before (hs : Seq P ops N m r st) {listed : Array Bool} {a : Act} {c : Cfg} {tE : List (Nat × AV)} {hE : Heap} (I : Inv ops N m r st c0 listed a c tE hE) {k : Nat} (hk : k < m)
    (hr : (r k).i ∈ Region.ready .any ops listed) : ¬ Exd r listed k ∧ (∀ p, p < k → Exd r listed p ∨ Sep (r p) (r k)) ∧ (∀ p, k < p → p < m → Exd r listed p → Sep (r k) (r p)) ∧
    Closed ops (listed.setIfInBounds (r k).i true) ∧ (∀ p, p < m → (Exd r (listed.setIfInBounds (r k).i true) p ↔ Exd r listed p ∨ p = k)) := by
  obtain ⟨h0, o, ho, hall⟩ := mem_ready.1 hr
  have hlt : (r k).i < listed.size := by rw [I.size]; exact hs.lt k hk
  have hn : ¬ Exd r listed k := fun h => by
    unfold Exd at h
    simp only [Array.getD_eq_getD_getElem?, Array.getElem?_eq_getElem hlt, Option.getD_some] at h h0
    rw [h] at h0; cases h0
  have hcl : Closed ops (listed.setIfInBounds (r k).i true) := fun j oj hj hl e he hb => by
    rw [getD_set hlt] at hl ⊢
    rcases hl with hl | rfl
    · exact .inl (I.cl j oj hj hl e he hb)
    · rw [ho] at hj; cases hj; exact .inl (hall e he hb)
  have hE : ∀ p, p < m → (Exd r (listed.setIfInBounds (r k).i true) p ↔ Exd r listed p ∨ p = k) := fun p hp => by
    unfold Exd
    rw [getD_set hlt]
    constructor
    · rintro (h | h)
      · exact .inl h
      · exact .inr (hs.inj p k hp hk h)
    · rintro (h | rfl)
      · exact .inl h
      · exact .inr rfl
  refine ⟨hn, fun p hp => ?_, fun p hp hpm he => ?_, hcl, hE⟩
  · rcases hs.free p k hp hk with h | h
    · have h1 := hs.must k hk _ h _ hcl ((getD_set hlt).2 (.inr rfl))
      rcases (hE p (by omega)).1 h1 with h2 | h2
      · exact .inl h2
      · omega
    · exact .inr h
  · rcases hs.free k p hp hpm with h | h
    · exact absurd (hs.must p hpm _ h _ I.cl he) hn
    · exact h

set_option maxHeartbeats 1000000 in
theorem Inv.step (hs : Seq P ops N m r st) {listed : Array Bool} {a : Act} {c : Cfg} {tE : List (Nat × AV)} {hE : Heap} (I : Inv ops N m r st c0 listed a c tE hE) {k : Nat} (hk : k < m)
    (hr : (r k).i ∈ Region.ready .any ops listed) {K : Act → World → Prop} {Qx : Exit → Act → World → Prop}
    (hK : ∀ a' c' tE' hE', Inv ops N m r st c0 (listed.setIfInBounds (r k).i true) a' c' tE' hE' → K a' c'.w) : wpOp P ops Qx (r k).i K a c.w := by
  obtain ⟨hn, hb1, hb2, hcl, hex⟩ := I.before hs hk hr
  have hcn : c.n = (st m).n := I.rel.n
  have hnin : (r k).nin = (st k).n := hs.nin k hk
  have hnm : (r k).nout ≤ (st m).n := by rw [← hs.nout k hk]; exact hs.nle m (Nat.le_refl _) (k + 1) (by omega)
  have hmono := hs.mono k hk
  have hn0 : (st 0).n ≤ (r k).nin := by rw [hnin]; exact hs.nle k (by omega) 0 (by omega)
  -- what it needs is there
  have tin : ∀ d x, look (r k).tin d = some x → look tE d = some x ∧ x.nm (belB (r k).nin) = true := fun d x e => by
    have e1 := hs.tin k hk d x e
    have h1 : ∀ p, p < k → (r p).d = some d → Exd r listed p := fun p hp hd => by
      rcases hb1 p hp with h | h
      · exact h
      · rw [(h.d1 d hd).1] at e; cases e
    refine ⟨I.ct.get hs.tt (by omega) e1 h1 (fun p hp hpm he hd => ?_), ?_⟩
    · by_cases hpk : p = k
      · subst hpk; exact hn he
      · rw [(hb2 p (by omega) hpm he).d2 d hd] at e; cases e
    · rcases hs.tt.source k (by omega) d x e1 with ⟨p, hp, hd, hx, _⟩ | ⟨h0, _⟩
      · cases hx
        have := (I.bel p (by omega) (h1 p hp hd)).1
        exact AV.nm_mono (fun id hi => belB_iff.2 (Nat.lt_of_lt_of_le (belB_iff.1 hi) (hs.ole hp hk))) this
      · exact AV.nm_mono (fun id hi => belB_iff.2 (Nat.lt_of_lt_of_le (belB_iff.1 hi) hn0)) (I.belt d x h0)
  have fin : ∀ id o, look (r k).F id = some o → look hE id = some o ∧ id < (r k).nin ∧ o.nm (belB (r k).nin) = true := fun id o e => by
    have e1 := hs.fin k hk id o e
    have h1 : ∀ p, p < k → id ∈ (r p).T → Exd r listed p := fun p hp hd => by
      rcases hb1 p hp with h | h
      · exact h
      · rw [(h.h1 id hd).1] at e; cases e
    refine ⟨I.ch.get hs.hh (by omega) e1 h1 (fun p hp hpm he hd => ?_), ?_⟩
    · by_cases hpk : p = k
      · subst hpk; exact hn he
      · rw [(hb2 p (by omega) hpm he).h2 id hd] at e; cases e
    · rcases hs.hh.source k (by omega) id o e1 with ⟨p, hp, hd, hx, _⟩ | ⟨h0, _⟩
      · have h2 := (I.bel p (by omega) (h1 p hp hd)).2 id o hx
        have h3 := hs.ole hp hk
        exact ⟨by omega, AO.nm_mono (fun id hi => belB_iff.2 (Nat.lt_of_lt_of_le (belB_iff.1 hi) h3)) h2.2⟩
      · have h2 := I.belh id o h0
        exact ⟨by omega, AO.nm_mono (fun id hi => belB_iff.2 (Nat.lt_of_lt_of_le (belB_iff.1 hi) hn0)) h2.2⟩
  -- the configuration that it sees
  have R0 : Ren (belB (r k).nin) c { c with n := (r k).nin } := ⟨⟨fun _ h => h, fun _ _ => rfl⟩, fun _ _ h => h, fun _ _ _ => rfl, fun id h _ => belB_iff.1 h⟩
  have hin : SRel { c with n := (r k).nin } ⟨N, (r k).nin, (r k).tin, (r k).F⟩ a := by
    refine ⟨I.rel.defers, rfl, ⟨I.rel.t.size, fun d x e => ?_⟩, ⟨fun id o e => (fin id o e).2.1, fun id o e q => I.rel.h.blk id o (fin id o e).1 q, fun id o e q => I.rel.h.own id o (fin id o e).1 q,
      fun id o e q => (I.rel.h.rel id o (fin id o e).1 q).re R0 rfl (fin id o e).2.2, fun i j o o' e q e' q' h => I.rel.h.inj i j o o' (fin i o e).1 q (fin j o' e').1 q' h, I.rel.h.st, fun id b o e => I.rel.h.fact id b o (fin id _ e).1⟩⟩
    obtain ⟨v, h1, h2⟩ := I.rel.t.get d x (tin d x e).1
    exact ⟨v, h1, h2.re R0 (tin d x e).2⟩
  refine hs.spec k hk _ a hin K Qx fun v c' hv hh he hcn' => ?_
  have hids : ∀ id, id < (r k).nin → c'.ι id = c.ι id := fun id hi => he.go.ids id hi
  let c2 : Cfg := ⟨fun id => if (r k).nin ≤ id ∧ id < (r k).nout then c'.ι id else c.ι id, (st m).n, c'.St, c'.w⟩
  have i1 : ∀ id, id < (r k).nout → c2.ι id = c'.ι id := fun id hi => by
    show (if (r k).nin ≤ id ∧ id < (r k).nout then c'.ι id else c.ι id) = c'.ι id
    by_cases hl : (r k).nin ≤ id
    · simp [hl, hi]
    · rw [if_neg (fun h => hl h.1), hids id (by omega)]
  have i2 : ∀ id, outB (r k).nin (r k).nout id = true → c2.ι id = c.ι id := fun id hi => by
    have := outB_iff.1 hi
    show (if (r k).nin ≤ id ∧ id < (r k).nout then c'.ι id else c.ι id) = c.ι id
    rw [if_neg (by omega)]
  have R1 : Ren (fun _ => true) c' c2 := ⟨⟨fun _ h => h, fun _ _ => rfl⟩, fun _ _ h => h, fun id _ h => i1 id (by omega), fun id _ h => show id < (st m).n by omega⟩
  have R2 : Ren (outB (r k).nin (r k).nout) c c2 := ⟨he.go.st, he.go.shape, fun id h _ => i2 id h, fun id _ h => show id < (st m).n by omega⟩
  obtain ⟨avt, avh⟩ := I.av k hk hn
  have hT : ∀ id, id ∈ (r k).T → look (upd (r k).T (r k).hout hE) id = look (r k).hout id := fun id h => by rw [look_upd, if_pos h]
  have hT' : ∀ id, id ∉ (r k).T → look (upd (r k).T (r k).hout hE) id = look hE id := fun id h => by rw [look_upd, if_neg h]
  -- an object of the new heap: one that the operation left behind, or one that it did not see
  have parts : ∀ id o, look (upd (r k).T (r k).hout hE) id = some o → look (r k).hout id = some o ∨ (look hE id = some o ∧ (∀ o', look (r k).F id ≠ some o')) := fun id o e => by
    by_cases h : id ∈ (r k).T
    · rw [hT id h] at e; exact .inl e
    · rw [hT' id h] at e
      cases h' : look (r k).F id with
      | none => exact .inr ⟨e, fun o' x => by cases x⟩
      | some o' =>
        have := (fin id o' h').1
        rw [e] at this; cases this
        exact .inl (by rw [hs.same k hk id h, h'])
  have hblk : ∀ id o, look hE id = some o → o.real → (∀ o', look (r k).F id ≠ some o') → ∀ j o', look (r k).F j = some o' → o'.real → c.ι j ≠ c.ι id := fun id o e q hno j o' e' q' hj => by
    have := I.rel.h.inj j id o' o (fin j o' e').1 q' e q hj
    subst this; exact hno o' e'
  have hrel : HRel c2 (upd (r k).T (r k).hout hE) := by
    refine ⟨fun id o e => ?_, fun id o e q => ?_, fun id o e q => ?_, fun id o e q => ?_, fun i j o o' e q e' q' hij => ?_, hh.st, fun id b o e => ?_⟩
    · rcases parts id o e with h | ⟨h, _⟩
      · have := hh.lt id o h; show id < (st m).n; omega
      · have := I.rel.h.lt id o h; show id < (st m).n; omega
    · rcases parts id o e with h | ⟨h, _⟩
      · rw [i1 id (by have := hh.lt id o h; omega)]; exact hh.blk id o h q
      · rw [i2 id (avh id o h).1]; exact Nat.lt_of_lt_of_le (I.rel.h.blk id o h q) he.size
    · rcases parts id o e with h | ⟨h, hno⟩
      · rw [i1 id (by have := hh.lt id o h; omega)]; exact hh.own id o h q
      · rw [i2 id (avh id o h).1]
        intro hst
        rcases he.new _ hst with h1 | h1 | ⟨j, o', h1, h2, h3⟩
        · exact I.rel.h.own id o h q h1
        · have := I.rel.h.blk id o h q
          exact absurd h1 (Nat.not_le_of_lt this)
        · exact hblk id o h q hno j o' h1 h2 h3
    · rcases parts id o e with h | ⟨h, hno⟩
      · rw [i1 id (by have := hh.lt id o h; omega)]
        exact (hh.rel id o h q).re R1 rfl (hh.nm (fun _ _ => rfl) h)
      · rw [i2 id (avh id o h).1]
        exact (I.rel.h.rel id o h q).re R2 (he.frame _ (I.rel.h.blk id o h q) (fun j o' e' q' => hblk id o h q hno j o' e' q')) (avh id o h).2
    · have mixed : ∀ i j o o', look (r k).hout i = some o → o.real → look hE j = some o' → (∀ o', look (r k).F j ≠ some o') → o'.real → c'.ι i ≠ c.ι j := fun i j o o' e q e' hno q' hij => by
        rcases he.objs i o e q with h1 | ⟨i', o'', h1, h2, h3⟩
        · have := I.rel.h.blk j o' e' q'
          rw [hij] at h1
          exact absurd h1 (Nat.not_le_of_lt this)
        · exact hblk j o' e' q' hno i' o'' h1 h2 (h3.trans hij)
      rcases parts i o e with h | ⟨h, hno⟩ <;> rcases parts j o' e' with g | ⟨g, gno⟩
      · rw [i1 i (by have := hh.lt i o h; omega), i1 j (by have := hh.lt j o' g; omega)] at hij
        exact hh.inj i j o o' h q g q' hij
      · rw [i1 i (by have := hh.lt i o h; omega), i2 j (avh j o' g).1] at hij
        exact absurd hij (mixed i j o o' h q g gno q')
      · rw [i1 j (by have := hh.lt j o' g; omega), i2 i (avh i o h).1] at hij
        exact absurd hij.symm (mixed j i o' o g q' h hno q)
      · rw [i2 i (avh i o h).1, i2 j (avh j o' g).1] at hij
        exact I.rel.h.inj i j o o' h q g q' hij
    · rcases parts id _ e with h | ⟨h, _⟩
      · exact hh.fact id b o h
      · exact Fct.goes (c := { c with n := (r k).nin }) (c' := c') he.go (I.rel.h.fact id b o h)
  have hev : Ev { c with n := (st 0).n } hE { c2 with n := (st 0).n } (upd (r k).T (r k).hout hE) := by
    refine ⟨⟨Nat.le_refl _, fun id hi => i2 id (outB_iff.2 (.inl (Nat.lt_of_lt_of_le hi hn0))), he.go.st, he.go.shape⟩, he.os, he.tape, he.output, he.size, fun b hb hno => ?_, fun b hb => ?_, fun id o e q => ?_⟩
    · exact he.frame b hb fun id o e q => hno id o (fin id o e).1 q
    · rcases he.new b hb with h | h | ⟨id, o, h1, h2, h3⟩
      · exact .inl h
      · exact .inr (.inl h)
      · exact .inr (.inr ⟨id, o, (fin id o h1).1, h2, h3⟩)
    · rcases parts id o e with h | ⟨h, hno⟩
      · show _ ≤ c2.ι id ∨ _
        rw [i1 id (by have := hh.lt id o h; omega)]
        rcases he.objs id o h q with g | ⟨i, o', g1, g2, g3⟩
        · exact .inl g
        · exact .inr ⟨i, o', (fin i o' g1).1, g2, g3⟩
      · refine .inr ⟨id, o, h, q, ?_⟩
        show c.ι id = c2.ι id
        rw [i2 id (avh id o h).1]
  have hxnm : (r k).x.nm (belB (r k).nout) = true := hv.nm fun id hi => belB_iff.2 (by omega)
  have honm : ∀ id o, look (r k).hout id = some o → id < (r k).nout ∧ o.nm (belB (r k).nout) = true := fun id o e => ⟨by have := hh.lt id o e; omega, hh.nm (fun id hi => belB_iff.2 (by omega)) e⟩
  let tE' : List (Nat × AV) := match (r k).d with | some d => (d, (r k).x) :: tE | none => tE
  have t1 : ∀ d, (r k).d = some d → look tE' d = some (r k).x := fun d e => by simp only [tE', e]; rw [look_cons, if_pos rfl]
  have t2 : ∀ d, (r k).d ≠ some d → look tE' d = look tE d := fun d e => by
    simp only [tE']
    cases hd : (r k).d with
    | none => rfl
    | some d' => rw [look_cons, if_neg (fun x => e (by rw [hd, x]))]
  refine hK (a.put (r k).d v) c2 tE' (upd (r k).T (r k).hout hE) ⟨by simp [I.size], ⟨?_, rfl, ?_, hrel⟩, I.ev.trans hev, ?_, ?_, fun p hp hpe => ?_, I.belt, I.belh, fun p hp hpe => ?_, hcl⟩
  · cases (r k).d <;> exact I.rel.defers
  · have base : TRel c2 N tE a.tmps := ⟨I.rel.t.size, fun d x e => let ⟨u, h1, h2⟩ := I.rel.t.get d x e; ⟨u, h1, h2.re R2 (avt d x e)⟩⟩
    have hvx : AVal c2 (r k).x v := hv.re R1 (hv.nm fun _ _ => rfl)
    simp only [tE']
    have hdst := hs.dst k hk
    cases hd : (r k).d with
    | none => exact base
    | some d => rw [hd] at hdst; exact base.put (dstOk_lt hdst d rfl) hvx
  · exact I.ct.step' (fun p hp => hex p hp) hk (fun d hd => by rw [t1 d hd]) (fun d hd => t2 d hd) (fun p hp hpm he d hd hd' => by
      have := (hb2 p hp hpm he).d1 d hd
      exact this.2 hd') hn
  · exact I.ch.step' (fun p hp => hex p hp) hk (fun id hd => hT id hd) (fun id hd => hT' id hd) (fun p hp hpm he id hd hd' => ((hb2 p hp hpm he).h1 id hd).2 hd') hn
  · rcases (hex p hp).1 hpe with h | rfl
    · exact I.bel p hp h
    · exact ⟨hxnm, honm⟩
  · have hne : ¬ Exd r listed p := fun h => hpe ((hex p hp).2 (.inl h))
    have hpk : p ≠ k := fun h => hpe ((hex p hp).2 (.inr h))
    obtain ⟨a1, a2⟩ := I.av p hp hne
    have hsep : (r k).x.nm (outB (r p).nin (r p).nout) = true ∧ ∀ id o, id ∈ (r k).T → look (r k).hout id = some o → outB (r p).nin (r p).nout id = true ∧ o.nm (outB (r p).nin (r p).nout) = true := by
      rcases Nat.lt_or_ge p k with hlt | hge
      · rcases hb1 p hlt with h | h
        · exact absurd h hne
        · exact ⟨h.x, h.o⟩
      · have hlt : k < p := by omega
        have hle := hs.ole hlt hp
        have up : ∀ id, belB (r k).nout id = true → outB (r p).nin (r p).nout id = true := fun id hi => outB_iff.2 (.inl (Nat.lt_of_lt_of_le (belB_iff.1 hi) hle))
        exact ⟨AV.nm_mono up hxnm, fun id o _ e => ⟨up id (belB_iff.2 (honm id o e).1), AO.nm_mono up (honm id o e).2⟩⟩
    refine ⟨fun d x e => ?_, fun id o e => ?_⟩
    · by_cases hd : (r k).d = some d
      · rw [t1 d hd] at e; cases e; exact hsep.1
      · rw [t2 d hd] at e; exact a1 d x e
    · by_cases hd : id ∈ (r k).T
      · rw [hT id hd] at e; exact hsep.2 id o hd e
      · rw [hT' id hd] at e; exact a2 id o e
end
end Go.Proofs.YtohmbpcjapjkbaaGreatDoorAl
