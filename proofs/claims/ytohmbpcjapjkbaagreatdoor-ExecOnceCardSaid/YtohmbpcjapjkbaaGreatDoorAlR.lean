/- The A-logic, part 18: regions that draw their order: one walk serves every order. -/
import Derived.Test.YtohmbpcjapjkbaaGreatDoorAlN
import Derived.Orders
set_option linter.all false
namespace Go.Proofs.YtohmbpcjapjkbaaGreatDoorAl

/-! ### names that a value speaks of -/
mutual
def AV.nm (f : Nat → Bool) : AV → Bool
  | .top => true
  | .st _ => true
  | .ptr id _ => f id
  | .eptr id _ _ _ => f id
  | .lsl id _ _ _ => f id
  | .map id => f id
  | .iter id => f id
  | .fn _ first caps => nmL f first && nmL f caps
  | .iface _ x => x.nm f
  | .agg cells => nmL f cells
  | .tuple vs => nmL f vs
def nmL (f : Nat → Bool) : List AV → Bool
  | [] => true
  | x :: xs => x.nm f && nmL f xs
end
def nmR (f : Nat → Bool) : List (List AV) → Bool
  | [] => true
  | x :: xs => nmL f x && nmR f xs
def AO.nm (f : Nat → Bool) : AO → Bool
  | .cells cs => nmL f cs
  | .rows _ rs => nmR f rs
  | _ => true
theorem nmR_get {f : Nat → Bool} : ∀ {rows : List (List AV)}, nmR f rows = true → ∀ (i : Nat) row, rows[i]? = some row → nmL f row = true
  | [], _, i, row, e => by simp at e
  | r :: rs, h, 0, row, e => by
    simp only [nmR, Bool.and_eq_true] at h
    simp at e; subst e; exact h.1
  | r :: rs, h, i + 1, row, e => by
    simp only [nmR, Bool.and_eq_true] at h
    simp at e; exact nmR_get h.2 i row e

/-- Another configuration, that agrees on the names that f lets through. -/
structure Ren (f : Nat → Bool) (c c' : Cfg) : Prop where
  goes : Goes c.St c'.St c.w c'.w
  shape : ∀ b s, c.w.shape? b = some s → c'.w.shape? b = some s
  ids : ∀ id, f id = true → id < c.n → c'.ι id = c.ι id
  n : ∀ id, f id = true → id < c.n → id < c'.n

section
variable {f : Nat → Bool} {c c' : Cfg}
mutual
theorem AVal.re (R : Ren f c c') : ∀ {x : AV} {v : Value}, AVal c x v → x.nm f = true → AVal c' x v
  | _, _, .top v, _ => .top v
  | _, _, .st x v h, _ => .st x v (h.goes R.goes)
  | _, _, .ptr id off h, k => by rw [← R.ids id k h]; exact .ptr id off (R.n id k h)
  | _, _, .eptr id a b d h, k => by rw [← R.ids id k h]; exact .eptr id a b d (R.n id k h)
  | _, _, .lsl id a off len cap T size h h1 h2 h3, k => by
    rw [← R.ids id k h]
    exact .lsl id a off len cap T size (R.n id k h) h1 (by rw [R.ids id k h]; exact R.shape _ _ h2) h3
  | _, _, .lsl0 id a b h, k => .lsl0 id a b (R.n id k h)
  | _, _, .lslr id a cap T size h h2 h3, k => by
    rw [← R.ids id k h]
    exact .lslr id a cap T size (R.n id k h) (by rw [R.ids id k h]; exact R.shape _ _ h2) h3
  | _, _, .map id h, k => by rw [← R.ids id k h]; exact .map id (R.n id k h)
  | _, _, .iter id h, k => by rw [← R.ids id k h]; exact .iter id (R.n id k h)
  | _, _, .fn g first caps vf vc h1 h2, k => by
    simp only [AV.nm, Bool.and_eq_true] at k
    exact .fn g first caps vf vc (h1.re R k.1) (h2.re R k.2)
  | _, _, .iface t x v h, k => .iface t x v (h.re R (by simpa [AV.nm] using k))
  | _, _, .agg cells vs h, k => .agg cells vs (h.re R (by simpa [AV.nm] using k))
  | _, _, .tuple xs vs h, k => .tuple xs vs (h.re R (by simpa [AV.nm] using k))
theorem AList.re (R : Ren f c c') : ∀ {xs : List AV} {vs : List Value}, AList c xs vs → nmL f xs = true → AList c' xs vs
  | _, _, .nil, _ => .nil
  | _, _, .cons x v xs vs h hs, k => by
    simp only [nmL, Bool.and_eq_true] at k
    exact .cons x v xs vs (h.re R k.1) (hs.re R k.2)
end
theorem ACells.re (R : Ren f c c') : ∀ {b off : Nat} {xs : List AV}, ACells c b off xs → c'.w.heap[b]? = c.w.heap[b]? → nmL f xs = true → ACells c' b off xs
  | _, _, _, .nil b off, _, _ => .nil b off
  | _, _, _, .cons b off x v xs h1 h2 h3, hb, k => by
    simp only [nmL, Bool.and_eq_true] at k
    exact .cons b off x v xs ((cell_of_block hb).trans h1) (h2.re R k.1) (h3.re R hb k.2)
theorem ORel.re (R : Ren f c c') {b : Nat} (hb : c'.w.heap[b]? = c.w.heap[b]?) : ∀ {o : AO}, ORel c b o → o.nm f = true → ORel c' b o
  | .cells _, ⟨vs, T, fr, h1, h2, h3⟩, k => ⟨vs, T, fr, hb.trans h1, h2, h3.re R (by simpa [AO.nm] using k)⟩
  | .arr _ _, ⟨cs, T, fr, h1, h2, h3, h4⟩, _ => ⟨cs, T, fr, hb.trans h1, h2, h3, h4.goes R.goes hb⟩
  | .rows _ _, ⟨cs, T, fr, h1, h2, h3, h4⟩, k => ⟨cs, T, fr, hb.trans h1, h2, h3, fun i row e => ⟨(h4 i row e).1, (h4 i row e).2.re R hb (nmR_get (by simpa [AO.nm] using k) i row e)⟩⟩
  | .map _, ⟨mes, clock, h1, h2, h3, h4⟩, _ => ⟨mes, clock, hb.trans h1, h2, fun i k v e => let ⟨x, a, b', d⟩ := h3 i k v e; ⟨x, a, b'.goes R.goes, d.goes R.goes⟩, h4⟩
  | .siter _ _, h, _ => hb.trans h
  | .fact b0 _, h, _ => ⟨R.goes.sub b0 h.1, (R.goes.same b0 h.1).trans h.2⟩

mutual
/-- The names that a value speaks of are given. -/
theorem AVal.nm {g : Nat → Bool} (hg : ∀ id, id < c.n → g id = true) : ∀ {x : AV} {v : Value}, AVal c x v → x.nm g = true
  | _, _, .top v => rfl
  | _, _, .st x v h => rfl
  | _, _, .ptr id off h => hg id h
  | _, _, .eptr id a b d h => hg id h
  | _, _, .lsl id a off len cap T size h h1 h2 h3 => hg id h
  | _, _, .lsl0 id a b h => hg id h
  | _, _, .lslr id a cap T size h h2 h3 => hg id h
  | _, _, .map id h => hg id h
  | _, _, .iter id h => hg id h
  | _, _, .fn g first caps vf vc h1 h2 => by simp only [AV.nm, Bool.and_eq_true]; exact ⟨h1.nm hg, h2.nm hg⟩
  | _, _, .iface t x v h => by simp only [AV.nm]; exact h.nm hg
  | _, _, .agg cells vs h => by simp only [AV.nm]; exact h.nm hg
  | _, _, .tuple xs vs h => by simp only [AV.nm]; exact h.nm hg
theorem AList.nm {g : Nat → Bool} (hg : ∀ id, id < c.n → g id = true) : ∀ {xs : List AV} {vs : List Value}, AList c xs vs → nmL g xs = true
  | _, _, .nil => rfl
  | _, _, .cons x v xs vs h hs => by simp only [nmL, Bool.and_eq_true]; exact ⟨h.nm hg, hs.nm hg⟩
end
theorem ACells.nm {g : Nat → Bool} (hg : ∀ id, id < c.n → g id = true) : ∀ {b off : Nat} {xs : List AV}, ACells c b off xs → nmL g xs = true
  | _, _, _, .nil b off => rfl
  | _, _, _, .cons b off x v xs h1 h2 h3 => by simp only [nmL, Bool.and_eq_true]; exact ⟨h2.nm hg, h3.nm hg⟩
theorem nmR_of {g : Nat → Bool} : ∀ {rows : List (List AV)}, (∀ (i : Nat) row, rows[i]? = some row → nmL g row = true) → nmR g rows = true
  | [], _ => rfl
  | r :: rs, h => by
    simp only [nmR, Bool.and_eq_true]
    exact ⟨h 0 r rfl, nmR_of fun i row e => h (i + 1) row (by simpa using e)⟩
theorem ORel.nm {g : Nat → Bool} (hg : ∀ id, id < c.n → g id = true) {b : Nat} : ∀ {o : AO}, ORel c b o → o.nm g = true
  | .cells _, ⟨_, _, _, _, _, h3⟩ => by simp only [AO.nm]; exact h3.nm hg
  | .arr _ _, _ => rfl
  | .rows _ _, ⟨_, _, _, _, _, _, h4⟩ => by simp only [AO.nm]; exact nmR_of fun i row e => (h4 i row e).2.nm hg
  | .map _, _ => rfl
  | .siter _ _, _ => rfl
  | .fact _ _, _ => rfl
theorem HRel.nm {g : Nat → Bool} (hg : ∀ id, id < c.n → g id = true) {h : Heap} (hr : HRel c h) {id : Nat} {o : AO} (e : look h id = some o) : o.nm g = true := by
  by_cases r : o.real
  · exact (hr.rel id o e r).nm hg
  · cases o <;> first | rfl | exact absurd trivial r
end

mutual
theorem AV.nm_mono {f g : Nat → Bool} (h : ∀ id, f id = true → g id = true) : ∀ {x : AV}, x.nm f = true → x.nm g = true
  | .top, _ => rfl
  | .st _, _ => rfl
  | .ptr id _, k => h id k
  | .eptr id _ _ _, k => h id k
  | .lsl id _ _ _, k => h id k
  | .map id, k => h id k
  | .iter id, k => h id k
  | .fn _ a b, k => by
    simp only [AV.nm, Bool.and_eq_true] at *
    exact ⟨nmL_mono h k.1, nmL_mono h k.2⟩
  | .iface _ x, k => by
    simp only [AV.nm] at *
    exact AV.nm_mono h k
  | .agg cells, k => by
    simp only [AV.nm] at *
    exact nmL_mono h k
  | .tuple vs, k => by
    simp only [AV.nm] at *
    exact nmL_mono h k
theorem nmL_mono {f g : Nat → Bool} (h : ∀ id, f id = true → g id = true) : ∀ {xs : List AV}, nmL f xs = true → nmL g xs = true
  | [], _ => rfl
  | x :: xs, k => by
    simp only [nmL, Bool.and_eq_true] at *
    exact ⟨AV.nm_mono h k.1, nmL_mono h k.2⟩
end
theorem nmR_mono {f g : Nat → Bool} (h : ∀ id, f id = true → g id = true) : ∀ {rs : List (List AV)}, nmR f rs = true → nmR g rs = true
  | [], _ => rfl
  | x :: xs, k => by
    simp only [nmR, Bool.and_eq_true] at *
    exact ⟨nmL_mono h k.1, nmR_mono h k.2⟩
theorem AO.nm_mono {f g : Nat → Bool} (h : ∀ id, f id = true → g id = true) : ∀ {o : AO}, o.nm f = true → o.nm g = true
  | .cells _, k => by simp only [AO.nm] at *; exact nmL_mono h k
  | .rows _ _, k => by simp only [AO.nm] at *; exact nmR_mono h k
  | .arr _ _, _ => rfl
  | .map _, _ => rfl
  | .siter _ _, _ => rfl
  | .fact _ _, _ => rfl

/-! ### what the executed ones have left behind -/
section
variable {α : Type} {m : Nat} {T : Nat → Nat → Prop} {out f : Nat → Nat → Option α}

/-- The lexical states: behind number k, what it touched is its own, the rest is as before. -/
def Track (m : Nat) (T : Nat → Nat → Prop) (out f : Nat → Nat → Option α) : Prop :=
  ∀ k, k < m → ∀ id o, f (k + 1) id = some o → (T k id ∧ out k id = some o) ∨ (¬ T k id ∧ f k id = some o)
/-- Now, behind those in E. -/
structure Cur (m : Nat) (T : Nat → Nat → Prop) (out f : Nat → Nat → Option α) (E : Nat → Prop) (g : Nat → Option α) : Prop where
  last : ∀ p, p < m → E p → ∀ id, T p id → (∀ p', p < p' → p' < m → E p' → ¬ T p' id) → ∀ o, out p id = some o → g id = some o
  none : ∀ id, (∀ p, p < m → E p → ¬ T p id) → ∀ o, f 0 id = some o → g id = some o

theorem Track.source (h : Track m T out f) : ∀ k, k ≤ m → ∀ id o, f k id = some o →
    (∃ p, p < k ∧ T p id ∧ out p id = some o ∧ ∀ p', p < p' → p' < k → ¬ T p' id) ∨ (f 0 id = some o ∧ ∀ p, p < k → ¬ T p id)
  | 0, _, id, o, e => .inr ⟨e, fun p hp => by omega⟩
  | k + 1, hk, id, o, e => by
    rcases h k (by omega) id o e with ⟨h1, h2⟩ | ⟨h1, h2⟩
    · exact .inl ⟨k, by omega, h1, h2, fun p' a b => by omega⟩
    · rcases Track.source h k (by omega) id o h2 with ⟨p, a, b, d, n⟩ | ⟨a, b⟩
      · refine .inl ⟨p, by omega, b, d, fun p' x y => ?_⟩
        rcases Nat.lt_or_ge p' k with hp | hp
        · exact n p' x hp
        · have : p' = k := by omega
          subst this; exact h1
      · refine .inr ⟨a, fun p hp => ?_⟩
        rcases Nat.lt_or_ge p k with hp' | hp'
        · exact b p hp'
        · have : p = k := by omega
          subst this; exact h1

theorem Cur.get {E : Nat → Prop} {g : Nat → Option α} (c : Cur m T out f E g) (h : Track m T out f) {k : Nat} (hk : k ≤ m) {id : Nat} {o : α} (e : f k id = some o)
    (h1 : ∀ p, p < k → T p id → E p) (h2 : ∀ p, k ≤ p → p < m → E p → ¬ T p id) : g id = some o := by
  rcases h.source k hk id o e with ⟨p, a, b, d, n⟩ | ⟨a, b⟩
  · refine c.last p (by omega) (h1 p a b) id b (fun p' x y z => ?_) o d
    rcases Nat.lt_or_ge p' k with hp | hp
    · exact n p' x hp
    · exact h2 p' hp y z
  · refine c.none id (fun p hp he => ?_) o a
    rcases Nat.lt_or_ge p k with hp' | hp'
    · exact b p hp'
    · exact h2 p hp' hp he

theorem Cur.step' {E E' : Nat → Prop} {g g' : Nat → Option α} (c : Cur m T out f E g) {k : Nat} (hE : ∀ p, p < m → (E' p ↔ (E p ∨ p = k))) (hk : k < m)
    (h1 : ∀ id, T k id → g' id = out k id) (h2 : ∀ id, ¬ T k id → g' id = g id) (h3 : ∀ p, k < p → p < m → E p → ∀ id, T k id → ¬ T p id) (hn : ¬ E k) : Cur m T out f E' g' := by
  refine ⟨fun p hp he id ht hl o e => ?_, fun id hl o e => ?_⟩
  · by_cases hk' : T k id
    · rw [h1 id hk']
      rcases (hE p hp).1 he with he' | rfl
      · have hpk : p ≠ k := fun x => hn (x ▸ he')
        rcases Nat.lt_or_ge p k with x | x
        · exact absurd hk' (hl k x hk ((hE k hk).2 (.inr rfl)))
        · exact absurd ht (h3 p (by omega) hp he' id hk')
      · exact e
    · rw [h2 id hk']
      rcases (hE p hp).1 he with he' | rfl
      · exact c.last p hp he' id ht (fun p' a b d => hl p' a b ((hE p' b).2 (.inl d))) o e
      · exact absurd ht hk'
  · have hk' : ¬ T k id := hl k hk ((hE k hk).2 (.inr rfl))
    rw [h2 id hk']
    exact c.none id (fun p hp he => hl p hp ((hE p hp).2 (.inl he))) o e
end
end Go.Proofs.YtohmbpcjapjkbaaGreatDoorAl
