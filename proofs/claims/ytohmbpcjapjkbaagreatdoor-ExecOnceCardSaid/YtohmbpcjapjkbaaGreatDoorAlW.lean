/- The A-logic, part 22: the rules of the walk. -/
import Derived.Test.YtohmbpcjapjkbaaGreatDoorAlV
set_option linter.all false
namespace Go.Proofs.YtohmbpcjapjkbaaGreatDoorAl

/-- Is an operation to be carried out? -/
def gst (ops : Array Oper) : Option (Nat × Bool) → List (Nat × AV) → Option Bool
  | none, _ => some true
  | some (j, w), t => match (ops[j]?).bind (·.dst) with
    | some tg => match look t tg with
      | some (.st (.bool b)) => some (b == w)
      | some (.tuple []) => some false
      | _ => none
    | none => none
theorem gst_ok {ops : Array Oper} {o : Oper} {c : Cfg} {s : S} {a : Act} (hs : SRel c s a) {b : Bool} (h : gst ops o.guard s.t = some b) : Region.wanted o (yielded ops a.tmps) = b := by
  unfold Region.wanted
  unfold gst at h
  split at h
  · rename_i hg; rw [hg]; cases h; rfl
  · rename_i j w hg
    rw [hg]
    split at h
    · rename_i tg hj
      split at h
      · rename_i b' ht
        cases h
        simp only [yielded_of hs hj ht]
        cases b' <;> cases w <;> rfl
      · rename_i ht
        cases h
        obtain ⟨v, h1, h2⟩ := hs.t.get tg _ ht
        have h3 : v = .tuple #[] := by cases h2 with | tuple _ _ h => cases h; rfl
        simp only [yielded, hj, Option.bind_some, h1, h3]
        rfl
      · cases h
    · cases h

section
variable {P : Program} {ops : Array Oper} {N : Nat} {q : S → Prop}

theorem spec_run {r : Rec} {o : Oper} {tout : List (Nat × AV)} (ho : ops[r.i]? = some o) (hg : gst ops o.guard r.tin = some true) (hd : dstOk N o.dst = true) (hrd : r.d = o.dst)
    (hx : ∀ d, o.dst = some d → look tout d = some r.x) (hx' : o.dst = none → r.x = .top)
    (h : OpG P #[] 0 o [] ⟨N, r.nin, r.tin, r.F⟩ (fun s' => s' = ⟨N, r.nout, tout, r.hout⟩)) : OpSpec P ops N r := fun c a hs K Qx hK => by
  have hw := gst_ok (o := o) hs hg
  unfold wpOp
  simp only [ho, hw, if_true]
  refine .inl (h c a hs K Qx ?_)
  rintro x1 h1 n1 v c1 hk hev rfl hh hxv
  have hrel := hs.after hev hh hxv (dstOk_lt hd)
  have h2 := hk (fun i => by simp) c1 _ hrel (fun _ a' w' => ∃ c2, SRel c2 ⟨N, r.nout, tout, r.hout⟩ a' ∧ Ev c1 h1 c2 r.hout ∧ c2.w = w') (fun s' c2 a' hq hr he => by
    subst hq; exact ⟨c2, hr, he, rfl⟩)
  simp only [List.length_nil, List.range'_zero, wpOps] at h2
  obtain ⟨c2, g1, g2, g3⟩ := h2
  rw [← g3, ← hrd]
  rw [← hrd] at g1
  have hv2 : ∃ v', AVal c2 r.x v' ∧ a.put r.d v = a.put r.d v' := by
    cases hod : o.dst with
    | none => exact ⟨v, by rw [hx' hod]; exact .top _, rfl⟩
    | some d =>
      obtain ⟨v', e1, e2⟩ := g1.t.get d _ (hx d hod)
      rw [hrd, hod] at e1 ⊢
      have hlt : d < a.tmps.size := by
        have h5 : a.tmps.size = N := hs.t.size
        rw [h5]; exact dstOk_lt hd d hod
      have : v' = v := by
        have e3 : (a.put (some d) v).tmps[d]? = some v := by simp [Act.put, hlt]
        rw [e3] at e1; cases e1; rfl
      subst this
      exact ⟨v', e2, rfl⟩
  obtain ⟨v', e1, e2⟩ := hv2
  rw [e2]
  exact hK v' c2 e1 g1.h (hev.trans g2) g1.n

theorem spec_skip {r : Rec} {o : Oper} (ho : ops[r.i]? = some o) (hg : gst ops o.guard r.tin = some false) (hrd : r.d = o.dst) (hx : r.x = .tuple []) (hh : r.hout = r.F) (hn : r.nout = r.nin) : OpSpec P ops N r := fun c a hs K Qx hK => by
  have hw := gst_ok (o := o) hs hg
  unfold wpOp
  simp only [ho, hw, Bool.false_eq_true, if_false]
  rw [← hrd]
  have hn' : c.n = r.nin := hs.n
  exact hK undef c (by rw [hx]; exact .tuple _ _ .nil) (by rw [hh]; exact hs.h) (by rw [hh]; exact .refl _ _) (by rw [hn, hn'])

/-- Against those that have been walked. -/
def sepB (A : List Nat) (F : List Nat) (x : AV) (T : List Nat) (hout : Heap) : List Mini → Bool
  | [] => true
  | p :: l => (hasN A p.i || (p.T.all (fun id => !hasN F id && !hasN T id) && T.all (fun id => !hasN p.F id && outB p.nin p.nout id) && (Nat.beq p.nin p.nout || (x.nm (outB p.nin p.nout) && (keepAll T hout).all fun e => e.2.nm (outB p.nin p.nout))))) && sepB A F x T hout l
theorem look_mem {α : Type} {id : Nat} {o : α} : ∀ {l : List (Nat × α)}, look l id = some o → (id, o) ∈ l
  | [], e => by cases e
  | (i, x) :: l, e => by
    rw [look_cons] at e
    split at e
    · rename_i h; subst h; cases e; exact .head _
    · exact .tail _ (look_mem e)
theorem outB_same {n id : Nat} : outB n n id = true := outB_iff.2 (by omega)
theorem sepB_ok {A : List Nat} {r : Rec} : ∀ {done : List Mini}, (∀ p ∈ done, True) → sepB A (r.F.map (·.1)) r.x r.T r.hout done = true → (∀ n, r.x.nm (outB n n) = true) → (∀ n id o, look r.hout id = some o → o.nm (outB n n) = true) → ∀ p ∈ done, p.i ∈ A ∨ MSep p r
  | [], _, _, _, _, p, hp => by simp at hp
  | p' :: l, _, h, hx, ho, p, hp => by
    simp only [sepB, Bool.and_eq_true, Bool.or_eq_true] at h
    rcases List.mem_cons.1 hp with rfl | hp
    · rcases h.1 with h1 | ⟨⟨h1, h2⟩, h3⟩
      · exact .inl (hasN_iff.1 h1)
      · have a1 : ∀ id, id ∈ p.T → id ∉ r.F.map (·.1) ∧ id ∉ r.T := fun id hid => by
          have := List.all_eq_true.1 h1 id hid
          simp only [Bool.and_eq_true, Bool.not_eq_true'] at this
          exact ⟨fun x => (by rw [hasN_iff.2 x] at this; cases this.1), fun x => (by rw [hasN_iff.2 x] at this; cases this.2)⟩
        have a2 : ∀ id, id ∈ r.T → id ∉ p.F ∧ outB p.nin p.nout id = true := fun id hid => by
          have := List.all_eq_true.1 h2 id hid
          simp only [Bool.and_eq_true, Bool.not_eq_true'] at this
          exact ⟨fun x => (by rw [hasN_iff.2 x] at this; cases this.1), this.2⟩
        refine .inr ⟨fun id hid => ⟨mini_F (a1 id hid).1, (a1 id hid).2⟩, fun id hid => (a2 id hid).1, ?_, fun id o hid e => ⟨(a2 id hid).2, ?_⟩⟩
        · rcases h3 with h3 | h3
          · rw [← Nat.eq_of_beq_eq_true h3]; exact hx _
          · exact h3.1
        · rcases h3 with h3 | h3
          · rw [← Nat.eq_of_beq_eq_true h3]; exact ho _ id o e
          · have hm : (id, o) ∈ keepAll r.T r.hout := look_mem (by rw [look_keepAll, if_pos hid]; exact e)
            exact List.all_eq_true.1 h3.2 _ hm
    · exact sepB_ok (fun _ _ => trivial) h.2 hx ho p hp

mutual
theorem AV.nm_true {f : Nat → Bool} (h : ∀ id, f id = true) : ∀ {x : AV}, x.nm f = true
  | .top => rfl
  | .st _ => rfl
  | .ptr id _ => h id
  | .eptr id _ _ _ => h id
  | .lsl id _ _ _ => h id
  | .map id => h id
  | .iter id => h id
  | .fn _ a b => by simp only [AV.nm, Bool.and_eq_true]; exact ⟨nmL_true h, nmL_true h⟩
  | .iface _ x => by simp only [AV.nm]; exact AV.nm_true h
  | .agg cells => by simp only [AV.nm]; exact nmL_true h
  | .tuple vs => by simp only [AV.nm]; exact nmL_true h
theorem nmL_true {f : Nat → Bool} (h : ∀ id, f id = true) : ∀ {xs : List AV}, nmL f xs = true
  | [] => rfl
  | x :: xs => by simp only [nmL, Bool.and_eq_true]; exact ⟨AV.nm_true h, nmL_true h⟩
end
theorem nmR_true {f : Nat → Bool} (h : ∀ id, f id = true) : ∀ {xs : List (List AV)}, nmR f xs = true
  | [] => rfl
  | x :: xs => by simp only [nmR, Bool.and_eq_true]; exact ⟨nmL_true h, nmR_true h⟩
theorem AO.nm_true {f : Nat → Bool} (h : ∀ id, f id = true) : ∀ {o : AO}, o.nm f = true
  | .cells _ => by simp only [AO.nm]; exact nmL_true h
  | .rows _ _ => by simp only [AO.nm]; exact nmR_true h
  | .arr _ _ => rfl
  | .map _ => rfl
  | .siter _ _ => rfl
  | .fact _ _ => rfl

variable {done : List Mini} {i : Nat} {A D : List Nat} {l : List Entry} {n d : Nat} {t : List (Nat × AV)} {h : Heap} {op : Op} {ty : TypeId} {pos : String} {af : Array Edge} {g : Option (Nat × Bool)} {x : AV} {F : Heap}

theorem sep_all {r : Rec} (hm : sepB A (r.F.map (·.1)) r.x r.T r.hout done = true) : ∀ p ∈ done, p.i ∈ A ∨ MSep p r :=
  sepB_ok (fun _ _ => trivial) hm (fun _ => AV.nm_true fun _ => outB_same) (fun _ _ _ _ => AO.nm_true fun _ => outB_same)

theorem sepB_hout {hout : Heap} {Fn : List Nat} (hm : sepB A Fn x [] [] done = true) : sepB A Fn x [] hout done = true := by
  have : ∀ dn : List Mini, sepB A Fn x [] hout dn = sepB A Fn x [] [] dn := by
    have hk : ∀ ho : Heap, keepAll [] ho = [] := by
      intro ho
      induction ho with
      | nil => rfl
      | cons p ho ih => obtain ⟨a, b⟩ := p; exact ih
    intro dn
    induction dn with
    | nil => rfl
    | cons p dn ih => simp only [sepB, ih, hk]
  rw [this]; exact hm
/-- An operation that changes no object and makes none. -/
theorem dw_pure (F : Heap) (hF : Sub F h) (ho : ops[i]? = some ⟨some d, op, ty, pos, af, g⟩) (hg : gst ops g (delT D t) = some true) (hd : Nat.blt d N = true)
    (hs : OpG P #[] 0 ⟨some d, op, ty, pos, af, g⟩ [] ⟨N, n, delT D t, F⟩ (fun s' => s' = ⟨N, n, (d, x) :: delT D t, F⟩)) (hm : sepB A (F.map (·.1)) x [] F done = true)
    (k : DW P ops N q (⟨i, n, n, [], F.map (·.1)⟩ :: done) l ⟨N, n, (d, x) :: t, h⟩) : DW P ops N q done ((i, A, D) :: l) ⟨N, n, t, h⟩ := by
  refine ⟨⟨i, some d, A, delT D t, F, n, x, F, n, []⟩, ⟨N, n, (d, x) :: t, h⟩, ⟨rfl, rfl, by simp [dstOf, ho], rfl, rfl, rfl, Nat.le_refl _, fun id o e => Sub.look hF id o e, fun d' y e => ?_, fun id o e => .inr ⟨by simp, e⟩, fun _ _ => rfl, hd, ?_⟩, sep_all hm, k⟩
  · simp only at e
    rw [look_cons] at e
    split at e
    · rename_i h1; subst h1; cases e; exact .inl ⟨rfl, rfl⟩
    · rename_i h1; exact .inr ⟨fun e' => h1 (Option.some.inj e'), e⟩
  · exact spec_run (r := ⟨i, some d, A, delT D t, F, n, x, F, n, []⟩) ho hg hd rfl (fun d' e => by cases e; rw [look_cons, if_pos rfl]) (fun e => by cases e) hs

/-- An operation that makes one object. -/
theorem dw_new (F : Heap) {o : AO} (hF : Sub F h) (ho : ops[i]? = some ⟨some d, op, ty, pos, af, g⟩) (hg : gst ops g (delT D t) = some true) (hd : Nat.blt d N = true)
    (hs : OpG P #[] 0 ⟨some d, op, ty, pos, af, g⟩ [] ⟨N, n, delT D t, F⟩ (fun s' => s' = ⟨N, n + 1, (d, x) :: delT D t, (n, o) :: F⟩)) (hm : sepB A (F.map (·.1)) x [n] ((n, o) :: F) done = true)
    (k : DW P ops N q (⟨i, n, n + 1, [n], F.map (·.1)⟩ :: done) l ⟨N, n + 1, (d, x) :: t, (n, o) :: h⟩) : DW P ops N q done ((i, A, D) :: l) ⟨N, n, t, h⟩ := by
  refine ⟨⟨i, some d, A, delT D t, F, n, x, (n, o) :: F, n + 1, [n]⟩, ⟨N, n + 1, (d, x) :: t, (n, o) :: h⟩, ⟨rfl, rfl, by simp [dstOf, ho], rfl, rfl, rfl, Nat.le_succ _, fun id o e => Sub.look hF id o e, fun d' y e => ?_, fun id o' e => ?_, fun id hid => ?_, hd, ?_⟩, sep_all hm, k⟩
  · simp only at e
    rw [look_cons] at e
    split at e
    · rename_i h1; subst h1; cases e; exact .inl ⟨rfl, rfl⟩
    · rename_i h1; exact .inr ⟨fun e' => h1 (Option.some.inj e'), e⟩
  · simp only at e
    rw [look_cons] at e
    split at e
    · rename_i h1; subst h1; cases e; exact .inl ⟨by simp, by rw [look_cons, if_pos rfl]⟩
    · rename_i h1; exact .inr ⟨by simpa using fun e' => h1 e'.symm, e⟩
  · simp only [List.mem_singleton] at hid
    simp only
    rw [look_cons, if_neg (fun e => hid e.symm)]
  · exact spec_run (r := ⟨i, some d, A, delT D t, F, n, x, (n, o) :: F, n + 1, [n]⟩) ho hg hd rfl (fun d' e => by cases e; rw [look_cons, if_pos rfl]) (fun e => by cases e) hs

/-- An operation that is passed by. -/
theorem dw_skip (ho : ops[i]? = some ⟨some d, op, ty, pos, af, g⟩) (hg : gst ops g (delT D t) = some false) (hd : Nat.blt d N = true)
    (k : DW P ops N q (⟨i, n, n, [], []⟩ :: done) l ⟨N, n, (d, .tuple []) :: t, h⟩) : DW P ops N q done ((i, A, D) :: l) ⟨N, n, t, h⟩ := by
  refine ⟨⟨i, some d, A, delT D t, [], n, .tuple [], [], n, []⟩, ⟨N, n, (d, .tuple []) :: t, h⟩, ⟨rfl, rfl, by simp [dstOf, ho], rfl, rfl, rfl, Nat.le_refl _, fun id o e => (by cases e), fun d' y e => ?_, fun id o e => .inr ⟨by simp, e⟩, fun _ _ => rfl, hd, ?_⟩,
    sepB_ok (fun _ _ => trivial) ?_ (fun _ => AV.nm_true fun _ => outB_same) (fun _ _ _ e => by cases e), k⟩
  · simp only at e
    rw [look_cons] at e
    split at e
    · rename_i h1; subst h1; cases e; exact .inl ⟨rfl, rfl⟩
    · rename_i h1; exact .inr ⟨fun e' => h1 (Option.some.inj e'), e⟩
  · exact spec_skip (r := ⟨i, some d, A, delT D t, [], n, .tuple [], [], n, []⟩) ho hg rfl rfl rfl rfl
  · have : ∀ dn : List Mini, sepB A [] (.tuple []) [] [] dn = true := by
      intro dn
      induction dn with
      | nil => rfl
      | cons p dn ih => simp [sepB, ih, hasN, AV.nm, nmL, keepAll]
    exact this done

/-- The end. -/
theorem dw_end (k : q ⟨N, n, t, h⟩) : DW P ops N q done [] ⟨N, n, t, h⟩ := ⟨t, fun _ _ e => e, k⟩

theorem DW.weak {s : S} {t' : List (Nat × AV)} (ht : ∀ d x, look t' d = some x → look s.t d = some x) : ∀ {l : List Entry} {done : List Mini}, DW P ops N q done l { s with t := t' } → DW P ops N q done l s
  | [], _, ⟨t'', h1, h2⟩ => ⟨t'', fun d x e => ht d x (h1 d x e), h2⟩
  | e :: l, done, ⟨r, s1, h1, h2, h3⟩ => by
    refine ⟨{ r with tin := delT e.2.2 s.t }, s1, ⟨h1.i, h1.A, h1.d, rfl, h1.nin, h1.nout, h1.mono, h1.fin, fun d x hx => ?_, h1.hh, h1.same, h1.dst, ?_⟩, fun p hp => ?_, h3⟩
    · rcases h1.tt d x hx with h | ⟨a, b⟩
      · exact .inl h
      · exact .inr ⟨a, ht d x b⟩
    · intro c a hs K Qx hK
      refine h1.spec c a ⟨hs.defers, hs.n, ⟨hs.t.size, fun d x hx => ?_⟩, hs.h⟩ K Qx hK
      rw [h1.tin, look_delT] at hx
      refine hs.t.get d x ?_
      show look (delT e.2.2 s.t) d = _
      rw [look_delT]
      split at hx
      · cases hx
      · rename_i hd; rw [if_neg hd]; exact ht d x hx
    · rcases h2 p hp with h | h
      · exact .inl h
      · exact .inr ⟨h.h1, h.h2, h.x, h.o⟩

/-- A truth value that isn't known: both ways. -/
theorem dw_both (tg : Nat) {b : Bool} (ht : look t tg = some (.st (.bool b))) (h1 : b = true → DW P ops N q done l ⟨N, n, (tg, .st (.bool true)) :: t, h⟩) (h2 : b = false → DW P ops N q done l ⟨N, n, (tg, .st (.bool false)) :: t, h⟩) :
    DW P ops N q done l ⟨N, n, t, h⟩ := by
  have key : ∀ b', b = b' → ∀ d x, look ((tg, .st (.bool b')) :: t) d = some x → look t d = some x := fun b' e d x e' => by
    subst e
    rw [look_cons] at e'
    split at e'
    · rename_i h3; subst h3; cases e'; exact ht
    · exact e'
  cases b with
  | true => exact (h1 rfl).weak (s := ⟨N, n, t, h⟩) (key true rfl)
  | false => exact (h2 rfl).weak (s := ⟨N, n, t, h⟩) (key false rfl)

variable {L : Lay}
variable {dd : Option Nat} {j tg : Nat} {w : Bool}
theorem dw_dec {p : Prop} [Decidable p] (_ : ops[i]? = some ⟨dd, op, ty, pos, af, some (j, w)⟩) (_ : (ops[j]?).bind (·.dst) = some tg) (ht : look t tg = some (.st (.bool (decide p)))) (h1 : p → DW P ops N q done ((i, A, D) :: l) ⟨N, n, (tg, .st (.bool true)) :: t, h⟩)
    (h2 : ¬ p → DW P ops N q done ((i, A, D) :: l) ⟨N, n, (tg, .st (.bool false)) :: t, h⟩) : DW P ops N q done ((i, A, D) :: l) ⟨N, n, t, h⟩ := dw_both tg ht (fun e => h1 (of_decide_eq_true e)) (fun e => h2 (of_decide_eq_false e))
end
end Go.Proofs.YtohmbpcjapjkbaaGreatDoorAl
