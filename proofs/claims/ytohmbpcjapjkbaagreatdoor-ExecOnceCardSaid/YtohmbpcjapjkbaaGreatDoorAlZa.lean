/- The A-logic: loops told by what changes; functions' ends; frozen arrays. -/
import Derived.Test.YtohmbpcjapjkbaaGreatDoorAlZ
set_option linter.all false
namespace Go.Proofs.YtohmbpcjapjkbaaGreatDoorAl
section
variable {P : Program} {ops : Array Oper} {j : Nat} {l : List Oper} {q : S → Prop} {s : S} {N n : Nat} {t : Tm} {h : Heap} {Q : Exit → S → Prop} {L : Lay}

/-! ### states in their normal form -/
theorem nrm {x : Code} {t' : Tm} {h' : Heap} (ht : frc t some = some t') (hh : frc h some = some h') (k : CodeOk P x ⟨N, n, t', h'⟩ Q) : CodeOk P x ⟨N, n, t, h⟩ Q := by
  rw [frc_eq] at ht hh; cases ht; cases hh; exact k

/-! ### loops -/
def keepL {α : Type} : List Nat → List (Nat × α) → List (Nat × α)
  | [], _ => []
  | i :: r, t => match look t i with
    | some x => (i, x) :: keepL r t
    | none => keepL r t
theorem keepL_sub {α : Type} : ∀ (is : List Nat) (t : List (Nat × α)), Sub (keepL is t) t
  | [], _ => trivial
  | i :: r, t => by
    simp only [keepL]
    split
    · rename_i x hx; exact ⟨hx, keepL_sub r t⟩
    · exact keepL_sub r t
/-- The same world; of the names the first m stay, the others may be given anew. -/
structure EvR (m : Nat) (c : Cfg) (h : Heap) (c' : Cfg) (h' : Heap) : Prop where
  ι : ∀ id, id < m → c'.ι id = c.ι id
  w : c'.w = c.w
  sub : ∀ b, c.St b → c'.St b
  new : ∀ b, c'.St b → c.St b ∨ ∃ id o, look h id = some o ∧ o.real ∧ c.ι id = b
  objs : ∀ id o, look h' id = some o → o.real → ∃ i o', look h i = some o' ∧ o'.real ∧ c.ι i = c'.ι id
theorem EvW.r {c c' : Cfg} {h h' : Heap} (x : EvW c h c' h') (m : Nat) : EvR m c h c' h' :=
  ⟨fun _ _ => by rw [x.ι], x.w, x.sub, x.new, fun id o e r => by rw [x.ι]; exact x.objs id o e r⟩
theorem EvR.trans {m : Nat} {a b c : Cfg} {ha hb hc : Heap} (x : EvR m a ha b hb) (y : EvR m b hb c hc) : EvR m a ha c hc := by
  refine ⟨fun id hi => (y.ι id hi).trans (x.ι id hi), y.w.trans x.w, fun k hk => y.sub k (x.sub k hk), fun k hk => ?_, fun id o e r => ?_⟩
  · rcases y.new k hk with h | ⟨id, o, e, r, h⟩
    · exact x.new k h
    · obtain ⟨i, o', e', r', h'⟩ := x.objs id o e r
      exact .inr ⟨i, o', e', r', h'.trans h⟩
  · obtain ⟨i, o', e', r', h'⟩ := y.objs id o e r
    obtain ⟨j, o'', e'', r'', h''⟩ := x.objs i o' e' r'
    exact ⟨j, o'', e'', r'', h''.trans h'⟩
theorem Ev.wkR {m : Nat} {a b c : Cfg} {ha hb hc : Heap} (x : Ev a ha b hb) (y : EvR m b hb c hc) (hm : a.n ≤ m) (hn : a.n ≤ c.n) : Ev a ha c hc := by
  refine ⟨⟨hn, fun id hi => (y.ι id (Nat.lt_of_lt_of_le hi hm)).trans (x.go.ids id hi), ⟨fun k hk => y.sub k (x.go.st.sub k hk), fun k hk => by rw [y.w]; exact x.go.st.same k hk⟩, fun k s hs => by rw [y.w]; exact x.go.shape k s hs⟩,
    by rw [y.w]; exact x.os, by rw [y.w]; exact x.tape, by rw [y.w]; exact x.output, by rw [y.w]; exact x.size, fun k hk hk' => by rw [y.w]; exact x.frame k hk hk', fun k hk => ?_, fun id o e r => ?_⟩
  · rcases y.new k hk with h | ⟨id, o, e, r, h⟩
    · exact x.new k h
    · rcases x.objs id o e r with h' | ⟨i, o', e', r', h'⟩
      · exact .inr (.inl (h ▸ h'))
      · exact .inr (.inr ⟨i, o', e', r', h'.trans h⟩)
  · obtain ⟨i, o', e', r', h'⟩ := y.objs id o e r
    rcases x.objs i o' e' r' with h'' | ⟨j, o'', e'', r'', h''⟩
    · exact .inl (h' ▸ h'')
    · exact .inr ⟨j, o'', e'', r'', h''.trans h'⟩
def WkR (m : Nat) (s s' : S) : Prop := ∀ (c : Cfg) (a : Act), SRel c s a → ∃ c', SRel c' s' a ∧ EvR m c s.h c' s'.h
theorem Wk.r {s s' : S} (hw : Wk s s') {m : Nat} : WkR m s s' := fun c a hs => let ⟨c', h1, h2⟩ := hw c a hs; ⟨c', h1, h2.r m⟩
theorem WkR.trans {m : Nat} {s s' s'' : S} (h : WkR m s s') (k : WkR m s' s'') : WkR m s s'' := fun c a hs =>
  let ⟨c1, h1, h2⟩ := h c a hs
  let ⟨c2, k1, k2⟩ := k c1 a h1
  ⟨c2, k1, h2.trans k2⟩
/-- Wk, then WkR. -/
theorem Wk.then {m : Nat} {s s' s'' : S} (h : Wk s s') (k : WkR m s' s'') : WkR m s s'' := h.r.trans k
/-- The new names: the first m as they are, then those of l. -/
def nmX (m : Nat) (l : List Nat) (i : Nat) : Nat := cond (Nat.blt i m) i (l.getD (i - m) 0)
def renT (ρ : Nat → Nat) : Tm → Tm
  | [] => []
  | (i, x) :: r => (i, x.ren ρ) :: renT ρ r
theorem look_renT {ρ : Nat → Nat} : ∀ {t : Tm} {i : Nat} {x : AV}, look t i = some x → look (renT ρ t) i = some (x.ren ρ)
  | [], _, _, e => by cases e
  | (a, y) :: r, i, x, e => by
    simp only [renT, look_cons] at e ⊢
    split at e
    · rename_i hi; cases e; simp [hi]
    · rename_i hi; simp only [hi, if_false]; exact look_renT e
def ndB : List Nat → Bool
  | [] => true
  | x :: r => !hasN r x && ndB r
def keysR (ρ : Nat → Nat) : Heap → List Nat
  | [] => []
  | (i, _) :: r => ρ i :: keysR ρ r
theorem mem_keysR {ρ : Nat → Nat} : ∀ {h : Heap} {i : Nat} {o : AO}, look h i = some o → ρ i ∈ keysR ρ h
  | [], _, _, e => by cases e
  | (k, p) :: r, i, o, e => by
    rw [look_cons] at e
    split at e
    · rename_i hi; subst hi; simp [keysR]
    · exact List.mem_cons_of_mem _ (mem_keysR e)
theorem keysR_inj {ρ : Nat → Nat} : ∀ {h : Heap}, ndB (keysR ρ h) = true → ∀ {i j : Nat} {o o' : AO}, look h i = some o → look h j = some o' → ρ i = ρ j → i = j
  | [], _, _, _, _, _, e, _, _ => by cases e
  | (k, p) :: r, hn, i, j, o, o', e, e', he => by
    simp only [keysR, ndB, Bool.and_eq_true, Bool.not_eq_true'] at hn
    have hx : ρ k ∉ keysR ρ r := fun hm => by rw [← hasN_iff] at hm; rw [hm] at hn; simp at hn
    rw [look_cons] at e e'
    split at e <;> split at e'
    · omega
    · rename_i h1 h2; subst h1; exact absurd (by rw [he]; exact mem_keysR e') hx
    · rename_i h1 h2; subst h2; exact absurd (by rw [← he]; exact mem_keysR e) hx
    · exact keysR_inj hn.2 e e' he
theorem look_renH_nd {ρ : Nat → Nat} : ∀ {h : Heap}, ndB (keysR ρ h) = true → ∀ {i : Nat} {o : AO}, look h i = some o → look (renH ρ h) (ρ i) = some (o.ren ρ)
  | [], _, _, _, e => by cases e
  | (k, p) :: r, hn, i, o, e => by
    simp only [keysR, ndB, Bool.and_eq_true, Bool.not_eq_true'] at hn
    have hx : ρ k ∉ keysR ρ r := fun hm => by rw [← hasN_iff] at hm; rw [hm] at hn; simp at hn
    simp only [renH, look_cons] at e ⊢
    split at e
    · rename_i hki; subst hki; cases e; simp
    · rename_i hki
      have : ¬ ρ k = ρ i := fun x => hx (by rw [x]; exact mem_keysR e)
      simp only [this, if_false]; exact look_renH_nd hn.2 e
theorem WkR.of {m n'' : Nat} {s : S} {t'' : Tm} {h'' : Heap} (l : List Nat) (ht : Sub (renT (nmX m l) t'') s.t) (hh : Sub (renH (nmX m l) h'') s.h)
    (hb : (belT n'' t'' && belH n'' h'' && ndB (keysR (nmX m l) h'')) = true) : WkR m s ⟨s.N, n'', t'', h''⟩ := fun c a hs => by
  simp only [Bool.and_eq_true] at hb
  obtain ⟨⟨b1, b2⟩, b3⟩ := hb
  have U : UnNames (nmX m l) n'' ⟨fun i => c.ι (nmX m l i), n'', c.St, c.w⟩ c := ⟨rfl, fun _ h => h, fun _ _ => rfl, Nat.le_refl _⟩
  have dom : ∀ id o, look h'' id = some o → id < n'' ∧ look s.h (nmX m l id) = some (o.ren (nmX m l)) ∧ o.bel n'' = true := fun id o e => by
    obtain ⟨g1, g2⟩ := belH_look b2 id o e
    exact ⟨g1, hh.look _ _ (look_renH_nd b3 e), g2⟩
  have rr : ∀ o : AO, (o.ren (nmX m l)).real ↔ o.real := fun o => by cases o <;> exact Iff.rfl
  refine ⟨⟨fun i => c.ι (nmX m l i), n'', c.St, c.w⟩, ⟨hs.defers, rfl, ⟨hs.t.size, fun i x e => ?_⟩, ?_⟩, ⟨fun id hi => ?_, rfl, fun _ h => h, fun _ h => .inl h, fun id o e r => ?_⟩⟩
  · obtain ⟨v, h1, h2⟩ := hs.t.get i _ (ht.look i _ (look_renT e))
    exact ⟨v, h1, AVal.unren U x h2 (belT_look b1 i x e)⟩
  · refine ⟨fun id o e => (dom id o e).1, fun id o e r => hs.h.blk _ _ (dom id o e).2.1 ((rr o).2 r), fun id o e r => hs.h.own _ _ (dom id o e).2.1 ((rr o).2 r), fun id o e r => ?_, fun i j o o' e r e' r' hij => ?_, hs.h.st, fun id b o e => hs.h.fact _ b o (dom id _ e).2.1⟩
    · exact ORel.unren U o (hs.h.rel _ _ (dom id o e).2.1 ((rr o).2 r)) (dom id o e).2.2
    · exact keysR_inj b3 e e' (hs.h.inj _ _ _ _ (dom i o e).2.1 ((rr o).2 r) (dom j o' e').2.1 ((rr o').2 r') hij)
  · have : Nat.blt id m = true := by simpa [Nat.blt_eq] using hi
    show c.ι (nmX m l id) = _
    simp [nmX, this]
  · exact ⟨_, _, (dom id o e).2.1, (rr o).2 r, rfl⟩

/-! ### loops that give names anew -/
def rndR {α : Type} (Φ : α → Prop) (m : α → Nat) (V : α → Tm) (H : α → Heap) (t0 : Tm) (h0 : Heap) (N n n0 : Nat) (a : α) (Q : Exit → S → Prop) : Exit → S → Prop
  | .normal, s' => ∃ a', m a' < m a ∧ WkR n s' ⟨N, n0, V a' ++ t0, H a' ++ h0⟩ ∧ Φ a'
  | e, s' => Q e s'
section
variable {α : Type} {Φ : α → Prop} {m : α → Nat} {V : α → Tm} {H : α → Heap} {t0 : Tm} {h0 : Heap} {a : α} {n0 : Nat}
theorem e_rr {id : Nat} (k : Q (.exit id) s) : rndR Φ m V H t0 h0 N n n0 a Q (.exit id) s := k
theorem r_rr (k : Q .ret s) : rndR Φ m V H t0 h0 N n n0 a Q .ret s := k
theorem n_rr (a' : α) (h1 : m a' < m a) (hw : WkR n s ⟨N, n0, V a' ++ t0, H a' ++ h0⟩) (h2 : Φ a') : rndR Φ m V H t0 h0 N n n0 a Q .normal s :=
  ⟨a', h1, hw, h2⟩
end
theorem lpR {α : Type} {x : Code} (Φ : α → Prop) (m : α → Nat) (V : α → Tm) (H : α → Heap) (a0 : α) (lt lh nl : List Nat) {t0 : Tm} {h0 : Heap} {n0 : Nat} (ht : frc (keepL lt t) some = some t0) (hh : frc (delAll (lh ++ nl) h) some = some h0)
    (hn : n + nl.length = n0) (hw : WkR n ⟨N, n, t, h⟩ ⟨N, n0, V a0 ++ t0, H a0 ++ h0⟩) (hΦ : Φ a0) (round : ∀ a, Φ a → CodeOk P x ⟨N, n0, V a ++ t0, H a ++ h0⟩ (rndR Φ m V H t0 h0 N n n0 a Q)) : CodeOk P (.loop x) ⟨N, n, t, h⟩ Q := fun c a hs => by
  have hn : n ≤ n0 := by omega
  obtain ⟨c0, k1, k2⟩ := hw c a hs
  have key : ∀ {c' c'' : Cfg} {h' h'' : Heap}, Ev c h c' h' → EvR n c' h' c'' h'' → c''.n = n0 → Ev c h c'' h'' := fun x y hz => x.wkR y (by rw [hs.n]; exact Nat.le_refl _) (by rw [hs.n, hz]; exact hn)
  refine wp_loop_ghost (fun k a w => ∃ y c', k = m y ∧ Φ y ∧ SRel c' ⟨N, n0, V y ++ t0, H y ++ h0⟩ a ∧ c'.w = w ∧ Ev c h c' (H y ++ h0)) (m a0) ⟨a0, c0, rfl, hΦ, k1, k2.w, key (Ev.refl c h) k2 k1.n⟩ ?_
  rintro k a w ⟨y, c', rfl, hI, hr, rfl, hev⟩
  refine wp_mono (round y hI c' a hr) ?_
  rintro e a' w' ⟨s2, c2, q, r1, rfl, r3⟩
  cases e with
  | normal =>
    obtain ⟨y', hlt, hwk, hI'⟩ := q
    obtain ⟨c3, u1, u2⟩ := hwk c2 a' r1
    exact ⟨m y', hlt, y', c3, rfl, hI', u1, u2.w, key (hev.trans r3) u2 u1.n⟩
  | _ => exact ⟨s2, c2, q, r1, rfl, hev.trans r3⟩

/-! ### a cut that gives names anew -/
def cutR (M : S → Prop) (m : Nat) (Q : Exit → S → Prop) : Exit → S → Prop
  | .normal, s' => ∃ s'', WkR m s' s'' ∧ m ≤ s''.n ∧ M s''
  | e, s' => Q e s'
/-! ### functions -/
def fnR (L : Lay) (rs : List ResultVar) (m : Nat) (R : AV → Heap → Prop) : Exit → S → Prop
  | .normal, s => ∃ s'' xs, WkR m s s'' ∧ m ≤ s''.n ∧ retVals L s'' rs = some xs ∧ R (retOf xs) s''.h
  | .ret, s => ∃ s'' xs, WkR m s s'' ∧ m ≤ s''.n ∧ retVals L s'' rs = some xs ∧ R (retOf xs) s''.h
  | _, _ => False
theorem fnC {f m : Nat} {args : List AV} {R : AV → Heap → Prop} {fn : Func} {code : Code} (hL : LayOk P L) (hf : P.funcs[f]? = some fn) (hb : fn.body = some code) (hN : fn.ntmps = N) (ha : Nat.ble args.length N = true)
    {t0 : Tm} (ht : frc (params 0 args) some = some t0) {rs : List ResultVar} (hr : fn.results.toList = rs) (k : CodeOk P code ⟨N, m, t0, h⟩ (fnR L rs m R)) : ACalls P f m args h R := by
  rw [frc_eq] at ht; cases ht; subst hN hr
  intro c vals hn hrel hl
  have hlen := hl.length
  have ha' := Nat.le_of_ble_eq_true ha
  refine calls_of_wp hf hb (wp_mono (k c _ ⟨rfl, hn, ⟨by simp; omega, fun i x e => ?_⟩, hrel⟩) ?_)
  · obtain ⟨h1, h2⟩ := params_look e
    obtain ⟨v, h3, h4⟩ := hl.get i x (by simpa using h2)
    refine ⟨v, ?_, h4⟩
    have hi : i < vals.length := by
      rcases Nat.lt_or_ge i vals.length with h' | h'
      · exact h'
      · simp [List.getElem?_eq_none h'] at h3
    simp only
    rw [Array.getElem?_append_left (by simpa using hi)]
    simpa using h3
  · rintro e a' w' ⟨s', c', hq, hs', rfl, hev⟩
    have fin : (∃ s'' xs, WkR m s' s'' ∧ m ≤ s''.n ∧ retVals L s'' fn.results.toList = some xs ∧ R (retOf xs) s''.h) →
        ∃ v, (results fn a'.tmps).run P c'.w = .ok v c'.w ∧ ∃ r h' c2 v', R r h' ∧ Ending.returned v = .returned v' ∧ c2.w = c'.w ∧ AVal c2 r v' ∧ HRel c2 h' ∧ Ev c h c2 h' := by
      rintro ⟨s'', xs, hwk, hm, hret, hR⟩
      obtain ⟨c2, u1, u2⟩ := hwk c' a' hs'
      obtain ⟨v, g1, g2⟩ := run_results hL u1 hret
      have hev' : Ev c h c2 s''.h := hev.wkR u2 (by rw [hn]; exact Nat.le_refl _) (by rw [hn, u1.n]; exact hm)
      rw [u2.w] at g1
      exact ⟨v, g1, _, _, c2, v, hR, rfl, u2.w, g2, u1.h, hev'⟩
    cases e with
    | normal => exact ⟨hs'.defers, fin hq⟩
    | ret => exact ⟨hs'.defers, fin hq⟩
    | _ => exact hq.elim
theorem f_end {rs : List ResultVar} {m n0 : Nat} {R : AV → Heap → Prop} {xs : List AV} {t'' : Tm} {h'' : Heap} (hw : WkR m s ⟨s.N, n0, t'', h''⟩) (h4 : Nat.ble m n0 = true) (h1 : retVals L ⟨s.N, n0, t'', h''⟩ rs = some xs) (h5 : R (retOf xs) h'') : fnR L rs m R .ret s :=
  ⟨_, xs, hw, Nat.le_of_ble_eq_true h4, h1, h5⟩
theorem f_endn {rs : List ResultVar} {m n0 : Nat} {R : AV → Heap → Prop} {xs : List AV} {t'' : Tm} {h'' : Heap} (hw : WkR m s ⟨s.N, n0, t'', h''⟩) (h4 : Nat.ble m n0 = true) (h1 : retVals L ⟨s.N, n0, t'', h''⟩ rs = some xs) (h5 : R (retOf xs) h'') : fnR L rs m R .normal s :=
  ⟨_, xs, hw, Nat.le_of_ble_eq_true h4, h1, h5⟩
/-- The results, and of the objects the first m. -/
theorem f_r {rs : List ResultVar} {m : Nat} {R : AV → Heap → Prop} {xs : List AV} (h' : Heap) (h1 : retVals L ⟨N, m, keepT rs t, h'⟩ rs = some xs) (h2 : Sub h' h) (h3 : (belT m (keepT rs t) && belH m h') = true) (h5 : R (retOf xs) h') : fnR L rs m R .ret ⟨N, n, t, h⟩ :=
  ⟨⟨N, m, keepT rs t, h'⟩, xs, Wk.r (s := ⟨N, n, t, h⟩) (s' := ⟨N, m, keepT rs t, h'⟩) (Wk.of (s := ⟨N, n, t, h⟩) (s' := ⟨N, m, keepT rs t, h'⟩) rfl (keepT_sub rs t) h2 h3), Nat.le_refl _, h1, h5⟩
/-! ### weaker states between two operations -/
theorem OpsL.wk {s s' : S} (hw : Wk s s') (hn : s.n ≤ s'.n) (k : OpsL P ops j l s' q) : OpsL P ops j l s q := fun hl c a hs Qx hQ => by
  obtain ⟨c1, h1, h2⟩ := hw c a hs
  have h3 : Ev c s.h c1 s'.h := (Ev.refl c s.h).wk h2 (by rw [hs.n, h1.n]; exact hn)
  rw [← h2.w]
  exact k hl c1 a h1 Qx fun s2 c2 a2 u1 u2 u3 => hQ s2 c2 a2 u1 u2 (h3.trans u3)

/-! ### frozen arrays -/
mutual
/-- Each place where an array is named. -/
def AV.occ (id : Nat) (p : Nat → Nat → Nat → Prop) : AV → Prop
  | .top => True
  | .st _ => True
  | .ptr i _ => cond (Nat.beq i id) False True
  | .eptr i _ _ _ => cond (Nat.beq i id) False True
  | .lsl i k off len => cond (Nat.beq i id) (p k off len) True
  | .map i => cond (Nat.beq i id) False True
  | .iter i => cond (Nat.beq i id) False True
  | .fn _ first caps => occL id p first ∧ occL id p caps
  | .iface _ x => x.occ id p
  | .agg cells => occL id p cells
  | .tuple vs => occL id p vs
def occL (id : Nat) (p : Nat → Nat → Nat → Prop) : List AV → Prop
  | [] => True
  | x :: xs => x.occ id p ∧ occL id p xs
end
def occT (id : Nat) (p : Nat → Nat → Nat → Prop) : Tm → Prop
  | [] => True
  | (_, x) :: r => x.occ id p ∧ occT id p r
def AO.occ (id : Nat) (p : Nat → Nat → Nat → Prop) : AO → Prop
  | .cells cs => occL id p cs
  | .rows _ _ => False
  | _ => True
def occH (id : Nat) (p : Nat → Nat → Nat → Prop) : Heap → Prop
  | [] => True
  | (_, o) :: r => o.occ id p ∧ occH id p r
mutual
def AV.frz (id k : Nat) (rows : List (List SV)) : AV → AV
  | .top => .top
  | .st x => .st x
  | .ptr i o => .ptr i o
  | .eptr i a b d => .eptr i a b d
  | .lsl i a b d => cond (Nat.beq i id) (.st (.sl k rows)) (.lsl i a b d)
  | .map i => .map i
  | .iter i => .iter i
  | .fn f first caps => .fn f (frzL id k rows first) (frzL id k rows caps)
  | .iface t x => match x.frz id k rows with
    | .st y => .st (.iface t y)
    | y => .iface t y
  | .agg cells => mkAgg (frzL id k rows cells)
  | .tuple vs => .tuple (frzL id k rows vs)
def frzL (id k : Nat) (rows : List (List SV)) : List AV → List AV
  | [] => []
  | x :: xs => x.frz id k rows :: frzL id k rows xs
end
def frzT (id k : Nat) (rows : List (List SV)) : Tm → Tm
  | [] => []
  | (i, x) :: r => (i, x.frz id k rows) :: frzT id k rows r
def AO.frz (id k : Nat) (rows : List (List SV)) : AO → AO
  | .cells cs => .cells (frzL id k rows cs)
  | .arr a b => .arr a b
  | .rows a b => .rows a b
  | .map es => .map es
  | .siter s p => .siter s p
  | .fact b o => .fact b o
def frzH (id k : Nat) (rows : List (List SV)) : Heap → Heap
  | [] => []
  | (i, o) :: r => (i, o.frz id k rows) :: frzH id k rows r

/-- The configuration in which a block is stable. -/
def Cfg.froze (c : Cfg) (id : Nat) (rows : List (List SV)) : Cfg := { c with St := fun b => c.St b ∨ (rows ≠ [] ∧ b = c.ι id) }
theorem go_froze (c : Cfg) (id : Nat) (rows : List (List SV)) : CGo c (c.froze id rows) :=
  ⟨Nat.le_refl _, fun _ _ => rfl, ⟨fun _ hb => .inl hb, fun _ _ => rfl⟩, fun _ _ hs => hs⟩

section
variable {c : Cfg} {id k : Nat} {rows : List (List SV)}
/-- What is said of the slices over the array. -/
abbrev whole (k m : Nat) (a b d : Nat) : Prop := a = k ∧ b = 0 ∧ d = m
mutual
theorem AVal.frz (hr : rows ≠ [] → SRows (c.froze id rows).St c.w k (c.ι id) 0 rows) : ∀ {x : AV} {v : Value}, AVal c x v → x.occ id (whole k rows.length) → AVal (c.froze id rows) (x.frz id k rows) v
  | _, _, .top v, _ => .top v
  | _, _, .st x v h, _ => .st x v (h.goes (go_froze c id rows).st)
  | _, _, .ptr i o hi, _ => .ptr i o hi
  | _, _, .eptr i a b d hi, _ => .eptr i a b d hi
  | _, _, .lsl i a b d cap T size hi h1 h2 h3, ho => by
    simp only [AV.occ] at ho
    simp only [AV.frz]
    cases hb : Nat.beq i id with
    | false => exact .lsl i a b d cap T size hi h1 h2 h3
    | true =>
      rw [hb] at ho
      obtain ⟨rfl, rfl, rfl⟩ := ho
      have := Nat.eq_of_beq_eq_true hb
      subst this
      refine .st _ _ ?_
      cases rows with
      | nil => exact .slnil _ _ _
      | cons r rs =>
        rw [Nat.zero_mul]
        exact .sl _ _ _ _ _ (.inr ⟨by simp, rfl⟩) (hr (by simp)) h1.1
  | _, _, .lslr i a cap T size hi h2 h3, ho => by
    simp only [AV.occ] at ho
    simp only [AV.frz]
    cases hb : Nat.beq i id with
    | false => exact .lslr i a cap T size hi h2 h3
    | true =>
      rw [hb] at ho
      exact absurd ho.2.1 (by decide)
  | _, _, .lsl0 i a ad hi, ho => by
    simp only [AV.occ] at ho
    simp only [AV.frz]
    cases hb : Nat.beq i id with
    | false => exact .lsl0 i a ad hi
    | true =>
      rw [hb] at ho
      obtain ⟨rfl, _, h0⟩ := ho
      have : rows = [] := List.eq_nil_of_length_eq_zero h0.symm
      subst this
      exact .st _ _ (.slnil _ _ _)
  | _, _, .map i hi, _ => .map i hi
  | _, _, .iter i hi, _ => .iter i hi
  | _, _, .fn f first caps vf vc h1 h2, ho => .fn f _ _ vf vc (h1.frz hr ho.1) (h2.frz hr ho.2)
  | _, _, .iface ty x v h1, ho => by
    have h2 := h1.frz hr ho
    simp only [AV.frz]
    split
    · rename_i y e; rw [e] at h2; exact .st _ _ (.iface _ _ _ (st_inv h2))
    · exact .iface _ _ _ h2
  | _, _, .agg cells vs h1, ho => mkAgg_val (h1.frz hr ho)
  | _, _, .tuple xs vs h1, ho => .tuple _ vs (h1.frz hr ho)
theorem AList.frz (hr : rows ≠ [] → SRows (c.froze id rows).St c.w k (c.ι id) 0 rows) : ∀ {xs : List AV} {vs : List Value}, AList c xs vs → occL id (whole k rows.length) xs → AList (c.froze id rows) (frzL id k rows xs) vs
  | _, _, .nil, _ => .nil
  | _, _, .cons x v xs vs h1 h2, ho => .cons _ v _ vs (h1.frz hr ho.1) (h2.frz hr ho.2)
end
theorem ORel.frz (hr : rows ≠ [] → SRows (c.froze id rows).St c.w k (c.ι id) 0 rows) {b : Nat} : ∀ {o : AO}, ORel c b o → o.occ id (whole k rows.length) → ORel (c.froze id rows) b (o.frz id k rows)
  | .cells _, ⟨vs, T, fr, h1, h2, h3⟩, ho => ⟨vs, T, fr, h1, h2, h3.frz hr ho⟩
  | .arr _ _, ⟨cs, T, fr, h1, h2, h3, h4⟩, _ => ⟨cs, T, fr, h1, h2, h3, h4.goes (go_froze c id rows).st rfl⟩
  | .rows _ _, _, ho => ho.elim
  | .map _, ⟨mes, clock, h1, h2, h3, h4⟩, _ => ⟨mes, clock, h1, h2, fun i k v e => let ⟨x, a, b', d⟩ := h3 i k v e; ⟨x, a, b'.goes (go_froze c id rows).st, d.goes (go_froze c id rows).st⟩, h4⟩
  | .siter _ _, h, _ => h
  | .fact _ _, h, _ => ⟨.inl h.1, h.2⟩
end
theorem look_frzT {id k : Nat} {rows : List (List SV)} : ∀ {t : Tm} {i : Nat} {x : AV}, look (frzT id k rows t) i = some x → ∃ y, look t i = some y ∧ x = y.frz id k rows
  | [], _, _, e => by cases e
  | (a, y) :: r, i, x, e => by
    simp only [frzT, look_cons] at e ⊢
    split at e
    · cases e; exact ⟨y, by simp_all, rfl⟩
    · obtain ⟨z, h1, h2⟩ := look_frzT e; exact ⟨z, by simp_all, h2⟩
theorem look_frzH {id k : Nat} {rows : List (List SV)} : ∀ {t : Heap} {i : Nat} {x : AO}, look (frzH id k rows t) i = some x → ∃ y, look t i = some y ∧ x = y.frz id k rows
  | [], _, _, e => by cases e
  | (a, y) :: r, i, x, e => by
    simp only [frzH, look_cons] at e ⊢
    split at e
    · cases e; exact ⟨y, by simp_all, rfl⟩
    · obtain ⟨z, h1, h2⟩ := look_frzH e; exact ⟨z, by simp_all, h2⟩
theorem occT_look {id : Nat} {p : Nat → Nat → Nat → Prop} : ∀ {t : Tm}, occT id p t → ∀ i x, look t i = some x → x.occ id p
  | [], _, i, x, e => by cases e
  | (a, y) :: r, h, i, x, e => by
    rw [look_cons] at e
    split at e
    · cases e; exact h.1
    · exact occT_look h.2 i x e
theorem occH_look {id : Nat} {p : Nat → Nat → Nat → Prop} : ∀ {t : Heap}, occH id p t → ∀ i x, look t i = some x → x.occ id p
  | [], _, i, x, e => by cases e
  | (a, y) :: r, h, i, x, e => by
    rw [look_cons] at e
    split at e
    · cases e; exact h.1
    · exact occH_look h.2 i x e
theorem real_frz {id k : Nat} {rows : List (List SV)} {o : AO} : (o.frz id k rows).real ↔ o.real := by cases o <;> exact Iff.rfl
/-- An array that nobody writes any more: its slices are stable values. -/
theorem Wk.frz {k : Nat} {rows : List (List SV)} (id : Nat) (lt : List Nat) (hl : look h id = some (.arr k rows)) {t1 t2 : Tm} {h1 h2 : Heap} (e1 : keepL lt t = t1) (e2 : del h id = h1) (ht : occT id (whole k rows.length) t1) (hh : occH id (whole k rows.length) h1)
    (e3 : frzT id k rows t1 = t2) (e4 : frzH id k rows h1 = h2) : Wk ⟨N, n, t, h⟩ ⟨N, n, t2, h2⟩ := by
  subst e1 e2 e3 e4
  intro c a hs
  have hr : rows ≠ [] → SRows (c.froze id rows).St c.w k (c.ι id) 0 rows := fun hne => by
    obtain ⟨cs, T, fr, g1, g2, g3, g4⟩ := hs.h.rel id _ hl hne
    exact g4.goes (go_froze c id rows).st rfl
  have dom : ∀ i o, look (frzH id k rows (del h id)) i = some o → i ≠ id ∧ ∃ o', look h i = some o' ∧ o = o'.frz id k rows ∧ o'.occ id (whole k rows.length) := fun i o e => by
    obtain ⟨y, g1, g2⟩ := look_frzH e
    have g3 := occH_look hh i y g1
    rw [look_del] at g1
    split at g1
    · cases g1
    · rename_i hi; exact ⟨fun x => hi x.symm, y, g1, g2, g3⟩
  refine ⟨c.froze id rows, ⟨hs.defers, hs.n, ⟨hs.t.size, fun i x e => ?_⟩, ?_⟩, ⟨rfl, rfl, fun _ hb => .inl hb, fun b hb => ?_, fun i o e r => ?_⟩⟩
  · obtain ⟨y, g1, rfl⟩ := look_frzT e
    obtain ⟨v, g2, g3⟩ := hs.t.get i y ((keepL_sub lt t).look i y g1)
    exact ⟨v, g2, g3.frz hr (occT_look ht i y g1)⟩
  · refine ⟨fun i o e => ?_, fun i o e r => ?_, fun i o e r hb => ?_, fun i o e r => ?_, fun i i' o o' e r e' r' hij => ?_, fun b hb => ?_, fun i b o e => ?_⟩
    · obtain ⟨_, y, g1, _⟩ := dom i o e; exact hs.h.lt i y g1
    · obtain ⟨_, y, g1, rfl, _⟩ := dom i o e; exact hs.h.blk i y g1 (real_frz.1 r)
    · obtain ⟨g0, y, g1, rfl, _⟩ := dom i o e
      rcases hb with hb | ⟨hne, hb⟩
      · exact hs.h.own i y g1 (real_frz.1 r) hb
      · exact g0 (hs.h.inj i id y _ g1 (real_frz.1 r) hl hne hb)
    · obtain ⟨_, y, g1, rfl, g2⟩ := dom i o e
      exact (hs.h.rel i y g1 (real_frz.1 r)).frz hr g2
    · obtain ⟨_, y, g1, rfl, _⟩ := dom i o e
      obtain ⟨_, y', g1', rfl, _⟩ := dom i' o' e'
      exact hs.h.inj i i' y y' g1 (real_frz.1 r) g1' (real_frz.1 r') hij
    · rcases hb with hb | ⟨hne, hb⟩
      · exact hs.h.st b hb
      · have h0 : b = c.ι id := hb
        rw [h0]; exact hs.h.blk id _ hl hne
    · obtain ⟨_, y, g1, e1, _⟩ := dom i _ e
      cases y <;> cases e1
      exact ⟨.inl (hs.h.fact i b o g1).1, (hs.h.fact i b o g1).2⟩
  · rcases hb with hb | ⟨hne, hb⟩
    · exact .inl hb
    · exact .inr ⟨id, _, hl, hne, hb.symm⟩
  · obtain ⟨_, y, g1, rfl, _⟩ := dom i o e
    exact ⟨i, y, g1, real_frz.1 r, rfl⟩

/-! ### draws, computed -/
def fpT (t : Tm) : Op → List Nat
  | .load _ x => match evT t x with
    | some (.ptr id _) => [id]
    | _ => []
  | _ => []
variable {done : List Mini} {i : Nat} {A D : List Nat} {le : List Entry} {d : Nat} {op : Op} {ty : TypeId} {pos : String} {af : Array Edge} {g : Option (Nat × Bool)} {x : AV} {F : Heap} {fn : List Nat}
theorem dws (hL : LayOk P L) (ho : ops[i]? = some ⟨some d, op, ty, pos, af, g⟩) (hg : gst ops g (delT D t) = some true) (hd : Nat.blt d N = true) (hF : frc (keepL (fpT (delT D t) op) h) some = some F)
    (hr : opT L (delT D t) F n op = some (x, F, n)) (hf : frc (F.map (·.1)) some = some fn) (hm : sepB A fn x [] [] done = true)
    (k : DW P ops N q (⟨i, n, n, [], fn⟩ :: done) le ⟨N, n, (d, x) :: t, h⟩) : DW P ops N q done ((i, A, D) :: le) ⟨N, n, t, h⟩ := by
  rw [frc_eq] at hF hf; cases hF; cases hf
  exact dw_pure _ (keepL_sub _ _) ho hg hd (gT hL hr (fin rfl)) (sepB_hout hm) k
theorem dwn (hL : LayOk P L) (ho : ops[i]? = some ⟨some d, op, ty, pos, af, g⟩) (hg : gst ops g (delT D t) = some true) (hd : Nat.blt d N = true) {o : AO}
    (hr : opT L (delT D t) [] n op = some (x, [(n, o)], n + 1)) (hm : sepB A [] x [n] [(n, o)] done = true)
    (k : DW P ops N q (⟨i, n, n + 1, [n], []⟩ :: done) le ⟨N, n + 1, (d, x) :: t, (n, o) :: h⟩) : DW P ops N q done ((i, A, D) :: le) ⟨N, n, t, h⟩ :=
  dw_new [] trivial ho hg hd (gT hL hr (fin rfl)) hm k
theorem dwr {e : Int} (h1 : -9223372036854775808 ≤ e ∧ e < 9223372036854775808) (k : DW P ops N q done le ⟨N, n, (d, .st (.int .i64 e)) :: t, h⟩) : DW P ops N q done le ⟨N, n, (d, .st (.int .i64 (IntKind.i64.wrap e))) :: t, h⟩ := by
  rw [IntWalk.i64_in _ (by omega)]; exact k
theorem dwl {α β : Type} {f : α → β} {xs : List α} (k : DW P ops N q done le ⟨N, n, (d, .st (.int .i64 (xs.length : Int))) :: t, h⟩) : DW P ops N q done le ⟨N, n, (d, .st (.int .i64 ((xs.map f).length : Int))) :: t, h⟩ := by
  rw [List.length_map]; exact k
end
end Go.Proofs.YtohmbpcjapjkbaaGreatDoorAl
