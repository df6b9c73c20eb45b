/- The A-logic, part 10: names changed; the rule of calls. -/
import Derived.Test.YtohmbpcjapjkbaaGreatDoorAlI
set_option linter.all false
namespace Go.Proofs.YtohmbpcjapjkbaaGreatDoorAl

mutual
def AV.ren (ρ : Nat → Nat) : AV → AV
  | .top => .top
  | .st x => .st x
  | .ptr id off => .ptr (ρ id) off
  | .eptr id k i j => .eptr (ρ id) k i j
  | .lsl id k off len => .lsl (ρ id) k off len
  | .map id => .map (ρ id)
  | .iter id => .iter (ρ id)
  | .fn f first caps => .fn f (renL ρ first) (renL ρ caps)
  | .iface t x => .iface t (x.ren ρ)
  | .agg cells => .agg (renL ρ cells)
  | .tuple vs => .tuple (renL ρ vs)
def renL (ρ : Nat → Nat) : List AV → List AV
  | [] => []
  | x :: xs => x.ren ρ :: renL ρ xs
end
def renR (ρ : Nat → Nat) : List (List AV) → List (List AV)
  | [] => []
  | x :: xs => renL ρ x :: renR ρ xs
def AO.ren (ρ : Nat → Nat) : AO → AO
  | .cells cs => .cells (renL ρ cs)
  | .rows k rs => .rows k (renR ρ rs)
  | .arr k rs => .arr k rs
  | .map es => .map es
  | .siter s p => .siter s p
  | .fact b o => .fact b o
def renH (ρ : Nat → Nat) : List (Nat × AO) → List (Nat × AO)
  | [] => []
  | (i, o) :: r => (ρ i, o.ren ρ) :: renH ρ r

/-- Two configurations that name the same blocks, by ρ, as far as B. -/
structure Names (ρ : Nat → Nat) (B : Nat) (c c' : Cfg) : Prop where
  w : c'.w = c.w
  st : ∀ b, c.St b → c'.St b
  ι : ∀ i, i < B → c'.ι (ρ i) = c.ι i
  n : ∀ i, i < B → ρ i < c'.n

section
variable {ρ : Nat → Nat} {B : Nat} {c c' : Cfg}
theorem Names.goes (N : Names ρ B c c') : Goes c.St c'.St c.w c'.w := ⟨N.st, fun b _ => by rw [N.w]⟩

mutual
theorem AVal.ren (N : Names ρ B c c') : ∀ {x : AV} {v : Value}, AVal c x v → x.bel B = true → AVal c' (x.ren ρ) v
  | _, _, .top v, _ => .top v
  | _, _, .st x v h, _ => .st x v (h.goes N.goes)
  | _, _, .ptr id off _, h => by
    have hi : id < B := by simpa [AV.bel, Nat.blt_eq] using h
    rw [← N.ι id hi]; exact .ptr _ _ (N.n id hi)
  | _, _, .eptr id k i j _, h => by
    have hi : id < B := by simpa [AV.bel, Nat.blt_eq] using h
    rw [← N.ι id hi]; exact .eptr _ _ _ _ (N.n id hi)
  | _, _, .lsl id k off len cap T size _ h1 h2 h3, h => by
    have hi : id < B := by simpa [AV.bel, Nat.blt_eq] using h
    rw [← N.ι id hi]; exact .lsl _ _ _ _ _ T size (N.n id hi) h1 (by rw [N.ι id hi, N.w]; exact h2) h3
  | _, _, .lsl0 id k a _, h => by
    have hi : id < B := by simpa [AV.bel, Nat.blt_eq] using h
    exact .lsl0 _ _ _ (N.n id hi)
  | _, _, .lslr id k cap T size _ h2 h3, h => by
    have hi : id < B := by simpa [AV.bel, Nat.blt_eq] using h
    rw [← N.ι id hi]; exact .lslr _ _ _ T size (N.n id hi) (by rw [N.ι id hi, N.w]; exact h2) h3
  | _, _, .map id _, h => by
    have hi : id < B := by simpa [AV.bel, Nat.blt_eq] using h
    rw [← N.ι id hi]; exact .map _ (N.n id hi)
  | _, _, .iter id _, h => by
    have hi : id < B := by simpa [AV.bel, Nat.blt_eq] using h
    rw [← N.ι id hi]; exact .iter _ (N.n id hi)
  | _, _, .fn f first caps vf vc h1 h2, h => by
    simp only [AV.bel, Bool.and_eq_true] at h
    exact .fn _ _ _ _ _ (h1.ren N h.1) (h2.ren N h.2)
  | _, _, .iface t x v h1, h => .iface _ _ _ (h1.ren N (by simpa [AV.bel] using h))
  | _, _, .agg cells vs h1, h => .agg _ _ (h1.ren N (by simpa [AV.bel] using h))
  | _, _, .tuple xs vs h1, h => .tuple _ _ (h1.ren N (by simpa [AV.bel] using h))
theorem AList.ren (N : Names ρ B c c') : ∀ {xs : List AV} {vs : List Value}, AList c xs vs → belL B xs = true → AList c' (renL ρ xs) vs
  | _, _, .nil, _ => .nil
  | _, _, .cons x v xs vs h1 h2, h => by
    simp only [belL, Bool.and_eq_true] at h
    exact .cons _ _ _ _ (h1.ren N h.1) (h2.ren N h.2)
end
theorem ACells.ren (N : Names ρ B c c') : ∀ {b off : Nat} {xs : List AV}, ACells c b off xs → belL B xs = true → ACells c' b off (renL ρ xs)
  | _, _, _, .nil b off, _ => .nil b off
  | _, _, _, .cons b off x v xs h1 h2 h3, h => by
    simp only [belL, Bool.and_eq_true] at h
    exact .cons _ _ _ _ _ (by rw [N.w]; exact h1) (h2.ren N h.1) (h3.ren N h.2)
theorem renL_length (xs : List AV) : (renL ρ xs).length = xs.length := by
  induction xs with
  | nil => rfl
  | cons x xs ih => simp [renL, ih]
theorem renR_length (xs : List (List AV)) : (renR ρ xs).length = xs.length := by
  induction xs with
  | nil => rfl
  | cons x xs ih => simp [renR, ih]
theorem renR_get : ∀ {rs : List (List AV)} (i : Nat) row', (renR ρ rs)[i]? = some row' → ∃ row, rs[i]? = some row ∧ row' = renL ρ row
  | [], i, row', e => by simp [renR] at e
  | r :: rs, 0, row', e => by simp [renR] at e; exact ⟨r, rfl, e.symm⟩
  | r :: rs, i + 1, row', e => by simp [renR] at e; simpa using renR_get i row' e
theorem ORel.ren (N : Names ρ B c c') {b : Nat} : ∀ {o : AO}, ORel c b o → o.bel B = true → ORel c' b (o.ren ρ)
  | .cells cs, ⟨vs, T, fr, h1, h2, h3⟩, h => ⟨vs, T, fr, by rw [N.w]; exact h1, h2, h3.ren N (by simpa [AO.bel] using h)⟩
  | .arr _ _, ⟨vs, T, fr, h1, h2, h3, h4⟩, _ => ⟨vs, T, fr, by rw [N.w]; exact h1, h2, h3, h4.goes N.goes (by rw [N.w])⟩
  | .rows k rs, ⟨vs, T, fr, h1, h2, h3, h4⟩, h => ⟨vs, T, fr, by rw [N.w]; exact h1, h2, by rw [renR_length]; exact h3, fun i row' e => by
      obtain ⟨row, e1, e2⟩ := renR_get i row' e
      subst e2
      exact ⟨by rw [renL_length]; exact (h4 i row e1).1, (h4 i row e1).2.ren N (belR_get (by simpa [AO.bel] using h) i row e1)⟩⟩
  | .map _, ⟨mes, clock, h1, h2, h3, h4⟩, _ => ⟨mes, clock, by rw [N.w]; exact h1, h2, fun i k v e => let ⟨x, a, b', d⟩ := h3 i k v e; ⟨x, a, b'.goes N.goes, d.goes N.goes⟩, h4⟩
  | .siter _ _, h, _ => by unfold ORel at *; rw [N.w]; exact h
  | .fact b0 _, h, _ => ⟨N.goes.sub b0 h.1, (N.goes.same b0 h.1).trans h.2⟩
end

/-- And back: c0 names, by ρ, what c names. -/
structure UnNames (ρ : Nat → Nat) (m : Nat) (c0 c : Cfg) : Prop where
  w : c0.w = c.w
  st : ∀ b, c.St b → c0.St b
  ι : ∀ i, i < m → c0.ι i = c.ι (ρ i)
  n : m ≤ c0.n
section
variable {ρ : Nat → Nat} {m : Nat} {c0 c : Cfg}
theorem UnNames.goes (U : UnNames ρ m c0 c) : Goes c.St c0.St c.w c0.w := ⟨U.st, fun b _ => by rw [U.w]⟩
mutual
theorem AVal.unren (U : UnNames ρ m c0 c) : ∀ (x : AV) {v : Value}, AVal c (x.ren ρ) v → x.bel m = true → AVal c0 x v
  | .top, v, _, _ => .top v
  | .st x, v, h, _ => by cases h with | st _ _ h => exact .st _ _ (h.goes U.goes)
  | .ptr id off, v, h, hb => by
    have hi : id < m := by simpa [AV.bel, Nat.blt_eq] using hb
    cases h with | ptr _ _ h => rw [← U.ι id hi]; exact .ptr _ _ (Nat.lt_of_lt_of_le hi U.n)
  | .eptr id k i j, v, h, hb => by
    have hi : id < m := by simpa [AV.bel, Nat.blt_eq] using hb
    cases h with | eptr _ _ _ _ h => rw [← U.ι id hi]; exact .eptr _ _ _ _ (Nat.lt_of_lt_of_le hi U.n)
  | .lsl id k off len, v, h, hb => by
    have hi : id < m := by simpa [AV.bel, Nat.blt_eq] using hb
    cases h with
    | lsl _ _ _ _ cap T size h h1 h2 h3 => rw [← U.ι id hi]; exact .lsl _ _ _ _ _ T size (Nat.lt_of_lt_of_le hi U.n) h1 (by rw [U.ι id hi, U.w]; exact h2) h3
    | lsl0 _ _ a h => exact .lsl0 _ _ _ (Nat.lt_of_lt_of_le hi U.n)
    | lslr _ _ cap T size h h2 h3 => rw [← U.ι id hi]; exact .lslr _ _ _ T size (Nat.lt_of_lt_of_le hi U.n) (by rw [U.ι id hi, U.w]; exact h2) h3
  | .map id, v, h, hb => by
    have hi : id < m := by simpa [AV.bel, Nat.blt_eq] using hb
    cases h with | map _ h => rw [← U.ι id hi]; exact .map _ (Nat.lt_of_lt_of_le hi U.n)
  | .iter id, v, h, hb => by
    have hi : id < m := by simpa [AV.bel, Nat.blt_eq] using hb
    cases h with | iter _ h => rw [← U.ι id hi]; exact .iter _ (Nat.lt_of_lt_of_le hi U.n)
  | .fn f first caps, v, h, hb => by
    simp only [AV.bel, Bool.and_eq_true] at hb
    cases h with | fn _ _ _ _ _ h1 h2 => exact .fn _ _ _ _ _ (AList.unren U _ h1 hb.1) (AList.unren U _ h2 hb.2)
  | .iface t x, v, h, hb => by
    cases h with | iface _ _ _ h => exact .iface _ _ _ (AVal.unren U x h (by simpa [AV.bel] using hb))
  | .agg cells, v, h, hb => by
    cases h with | agg _ _ h => exact .agg _ _ (AList.unren U _ h (by simpa [AV.bel] using hb))
  | .tuple xs, v, h, hb => by
    cases h with | tuple _ _ h => exact .tuple _ _ (AList.unren U _ h (by simpa [AV.bel] using hb))
theorem AList.unren (U : UnNames ρ m c0 c) : ∀ (xs : List AV) {vs : List Value}, AList c (renL ρ xs) vs → belL m xs = true → AList c0 xs vs
  | [], vs, h, _ => by cases h; exact .nil
  | x :: xs, vs, h, hb => by
    simp only [belL, Bool.and_eq_true] at hb
    cases h with | cons _ _ _ _ h1 h2 => exact .cons _ _ _ _ (AVal.unren U x h1 hb.1) (AList.unren U xs h2 hb.2)
end
theorem ACells.unren (U : UnNames ρ m c0 c) : ∀ {b off : Nat} (xs : List AV), ACells c b off (renL ρ xs) → belL m xs = true → ACells c0 b off xs
  | b, off, [], _, _ => .nil b off
  | b, off, x :: xs, h, hb => by
    simp only [belL, Bool.and_eq_true] at hb
    cases h with | cons _ _ v _ h1 h2 h3 => exact .cons _ _ _ v _ (by rw [U.w]; exact h1) (AVal.unren U x h2 hb.1) (ACells.unren U xs h3 hb.2)
theorem renR_get' : ∀ {rs : List (List AV)} (i : Nat) row, rs[i]? = some row → (renR ρ rs)[i]? = some (renL ρ row)
  | [], i, row, e => by simp at e
  | r :: rs, 0, row, e => by simp at e; subst e; rfl
  | r :: rs, i + 1, row, e => by simp at e; simpa [renR] using renR_get' i row e
theorem ORel.unren (U : UnNames ρ m c0 c) {b : Nat} : ∀ (o : AO), ORel c b (o.ren ρ) → o.bel m = true → ORel c0 b o
  | .cells cs, ⟨vs, T, fr, h1, h2, h3⟩, h => ⟨vs, T, fr, by rw [U.w]; exact h1, h2, AList.unren U _ h3 (by simpa [AO.bel] using h)⟩
  | .arr _ _, ⟨vs, T, fr, h1, h2, h3, h4⟩, _ => ⟨vs, T, fr, by rw [U.w]; exact h1, h2, h3, h4.goes U.goes (by rw [U.w])⟩
  | .rows k rs, ⟨vs, T, fr, h1, h2, h3, h4⟩, h => ⟨vs, T, fr, by rw [U.w]; exact h1, h2, by rw [renR_length] at h3; exact h3, fun i row e => by
      have h5 := h4 i _ (renR_get' i row e)
      exact ⟨by rw [← renL_length (ρ := ρ)]; exact h5.1, ACells.unren U row h5.2 (belR_get (by simpa [AO.bel] using h) i row e)⟩⟩
  | .map _, ⟨mes, clock, h1, h2, h3, h4⟩, _ => ⟨mes, clock, by rw [U.w]; exact h1, h2, fun i k v e => let ⟨x, a, b', d⟩ := h3 i k v e; ⟨x, a, b'.goes U.goes, d.goes U.goes⟩, h4⟩
  | .siter _ _, h, _ => by unfold ORel at *; rw [U.w]; exact h
  | .fact b0 _, h, _ => ⟨U.goes.sub b0 h.1, (U.goes.same b0 h.1).trans h.2⟩
end

/-- From the names of a callee to those of the caller: the first ones are given, what comes anew is new. -/
def nam (l : List Nat) (n i : Nat) : Nat := cond (Nat.blt i l.length) (l.getD i 0) (n + (i - l.length))
theorem nam_old {l : List Nat} {n i : Nat} (h : i < l.length) : nam l n i = l.getD i 0 := by
  have : Nat.blt i l.length = true := by simpa [Nat.blt_eq] using h
  simp [nam, this]
theorem nam_new {l : List Nat} {n i : Nat} (h : l.length ≤ i) : nam l n i = n + (i - l.length) := by
  have : Nat.blt i l.length = false := by
    cases hb : Nat.blt i l.length with
    | true => rw [Nat.blt_eq] at hb; omega
    | false => rfl
  simp [nam, this]

def hasN (l : List Nat) (j : Nat) : Bool := match l with
  | [] => false
  | i :: r => Nat.beq i j || hasN r j
def okNames (n : Nat) : List Nat → Bool
  | [] => true
  | i :: r => Nat.blt i n && !hasN r i && okNames n r
theorem hasN_iff {l : List Nat} {j : Nat} : hasN l j = true ↔ j ∈ l := by
  induction l with
  | nil => simp [hasN]
  | cons i r ih =>
    simp only [hasN, Bool.or_eq_true, ih, List.mem_cons]
    constructor
    · rintro (h | h)
      · exact .inl (Nat.eq_of_beq_eq_true h).symm
      · exact .inr h
    · rintro (h | h)
      · subst h; exact .inl (Nat.beq_refl _)
      · exact .inr h
theorem okNames_lt {n : Nat} : ∀ {l : List Nat}, okNames n l = true → ∀ i, i < l.length → l.getD i 0 < n
  | [], _, i, hi => by simp at hi
  | j :: r, h, 0, _ => by
    simp only [okNames, Bool.and_eq_true] at h
    simpa [Nat.blt_eq] using h.1.1
  | j :: r, h, i + 1, hi => by
    simp only [okNames, Bool.and_eq_true] at h
    simpa using okNames_lt h.2 i (by simpa using hi)
theorem okNames_nodup {n : Nat} : ∀ {l : List Nat}, okNames n l = true → l.Nodup
  | [], _ => .nil
  | j :: r, h => by
    simp only [okNames, Bool.and_eq_true, Bool.not_eq_true'] at h
    refine List.nodup_cons.2 ⟨fun hm => ?_, okNames_nodup h.2⟩
    have h1 := hasN_iff.2 hm
    rw [h1] at h; exact absurd h.1.2 (by simp)
theorem nam_inj {l : List Nat} {n i j : Nat} (h : okNames n l = true) (e : nam l n i = nam l n j) : i = j := by
  rcases Nat.lt_or_ge i l.length with hi | hi <;> rcases Nat.lt_or_ge j l.length with hj | hj
  · rw [nam_old hi, nam_old hj] at e
    have hn := okNames_nodup h
    simp only [List.getD_eq_getElem?_getD, List.getElem?_eq_getElem hi, List.getElem?_eq_getElem hj, Option.getD_some] at e
    exact (List.getElem_inj hn).1 e
  · rw [nam_old hi, nam_new hj] at e
    have := okNames_lt h i hi; omega
  · rw [nam_new hi, nam_old hj] at e
    have := okNames_lt h j hj; omega
  · rw [nam_new hi, nam_new hj] at e; omega

theorem look_renH {l : List Nat} {n : Nat} (hl : okNames n l = true) : ∀ {h : List (Nat × AO)} (i : Nat), look (renH (nam l n) h) (nam l n i) = (look h i).map (·.ren (nam l n))
  | [], i => rfl
  | (j, o) :: r, i => by
    simp only [renH]
    rw [look_cons, look_cons]
    by_cases hij : j = i
    · subst hij; simp
    · rw [if_neg hij, if_neg (fun e => hij (nam_inj hl e)), look_renH hl i]
theorem look_renH_inv {l : List Nat} {n : Nat} : ∀ {h : List (Nat × AO)} {k : Nat} {o : AO}, look (renH (nam l n) h) k = some o → ∃ i o', look h i = some o' ∧ k = nam l n i
  | [], k, o, e => by cases e
  | (j, p) :: r, k, o, e => by
    simp only [renH] at e
    rw [look_cons] at e
    split at e
    · rename_i hk; exact ⟨j, p, by rw [look_cons, if_pos rfl], hk.symm⟩
    · obtain ⟨i, o', h1, h2⟩ := look_renH_inv e
      by_cases hji : j = i
      · exact ⟨j, p, by rw [look_cons, if_pos rfl], by rw [hji]; exact h2⟩
      · exact ⟨i, o', by rw [look_cons, if_neg hji]; exact h1, h2⟩
def delAll (l : List Nat) : List (Nat × AO) → List (Nat × AO)
  | [] => []
  | (i, o) :: r => cond (hasN l i) (delAll l r) ((i, o) :: delAll l r)
theorem look_delAll {l : List Nat} : ∀ {h : List (Nat × AO)} {k : Nat} {o : AO}, look (delAll l h) k = some o → look h k = some o ∧ k ∉ l
  | [], k, o, e => by cases e
  | (j, p) :: r, k, o, e => by
    simp only [delAll] at e
    cases hj : hasN l j with
    | true =>
      rw [hj] at e
      obtain ⟨h1, h2⟩ := look_delAll e
      refine ⟨?_, h2⟩
      rw [look_cons, if_neg (fun e' : j = k => h2 (by rw [← e']; exact hasN_iff.1 hj))]
      exact h1
    | false =>
      rw [hj] at e
      simp only [cond_false] at e
      rw [look_cons] at e
      split at e
      · rename_i hk; subst hk; cases e
        refine ⟨by rw [look_cons, if_pos rfl], fun hm => ?_⟩
        rw [hasN_iff.2 hm] at hj; cases hj
      · rename_i hk
        obtain ⟨h1, h2⟩ := look_delAll e
        exact ⟨by rw [look_cons, if_neg hk]; exact h1, h2⟩
theorem look_app {α : Type} : ∀ {a b : List (Nat × α)} {k : Nat} {o : α}, look (a ++ b) k = some o → look a k = some o ∨ (look b k = some o ∧ ∀ o', look a k ≠ some o')
  | [], b, k, o, e => .inr ⟨e, fun o' h => by cases h⟩
  | (j, p) :: r, b, k, o, e => by
    rw [List.cons_append, look_cons] at e
    rw [look_cons]
    split at e
    · rename_i hk; exact .inl (by rw [if_pos hk]; exact e)
    · rename_i hk; simpa [hk] using look_app e

/-- Who is called, with what. -/
def callArgs (s : S) (f : Operand) (args : List Operand) : Option (Nat × List AV) :=
  match s.ev f, s.evs args with
  | some (.st (.fn (.func f) first caps)), some xs => some (f, stAll first ++ (xs ++ stAll caps))
  | some (.fn (.func f) first caps), some xs => some (f, first ++ (xs ++ caps))
  | _, _ => none

/-- A function that has a body. -/
def HasBody (P : Program) (f : Nat) : Prop := ∃ fn, P.funcs[f]? = some fn ∧ fn.body ≠ none ∧ fn.name ≠ "runtime.NumGoroutine"

theorem run_call {P : Program} {s : S} {c : Cfg} {a : Act} (hs : SRel c s a) {f : Operand} {args : Array Operand} {ts : Array TypeId} {ty : TypeId} {k : Nat} {xs : List AV} (hc : callArgs s f args.toList = some (k, xs)) (hb : HasBody P k) :
    ∃ vals, (do let dd ← resolve a.eval ⟨.value f, args, ts⟩ ty; invoke dd.target dd.args : Sem Next).run P c.w = .ok (.enter k vals) c.w ∧ AList c xs vals.toList := by
  obtain ⟨fn, g1, g2, g3⟩ := hb
  unfold callArgs at hc
  split at hc
  · rename_i k' first caps ys h1 h2
    cases hc
    have hv := st_inv (S.ev_val hs h1)
    have hvs := S.evs_val hs h2
    generalize hp : a.eval f = p at hv
    cases hv with
    | fn _ _ _ vf vc h3 h4 =>
      refine ⟨vf.toArray ++ args.map a.eval ++ vc.toArray, ?_, ?_⟩
      · simp [resolve, hp, Deferred.ofValue, invoke, callFunc, g1, g2, g3]
      · simpa using (stAll_val h3).append (hvs.append (stAll_val h4))
  · rename_i k' first caps ys h1 h2
    cases hc
    have hv := S.ev_val hs h1
    have hvs := S.evs_val hs h2
    generalize hp : a.eval f = p at hv
    cases hv with
    | fn _ _ _ vf vc h3 h4 =>
      refine ⟨vf.toArray ++ args.map a.eval ++ vc.toArray, ?_, ?_⟩
      · simp [resolve, hp, Deferred.ofValue, invoke, callFunc, g1, g2, g3]
      · simpa using h3.append (hvs.append h4)
  · cases hc

section
variable {P : Program} {s : S} {K : AV → Heap → Nat → Prop} {d : Option Tmp} {ty : TypeId} {pos : String} {af : Array Edge} {g : Option (Nat × Bool)}

theorem ok_call {fo : Operand} {args : Array Operand} {ts : Array TypeId} {f : Nat} (l : List Nat) (B : Nat) {args0 : List AV} {h0 : Heap} {R : AV → Heap → Prop} (hc : ACalls P f l.length args0 h0 R) (hb : HasBody P f)
    (hargs : callArgs s fo args.toList = some (f, renL (nam l s.n) args0)) (hb0 : (belL l.length args0 && belH l.length h0 && okNames s.n l && Nat.ble l.length B) = true) (hh : Sub (renH (nam l s.n) h0) s.h)
    (k : ∀ r h', R r h' → (r.bel B && belH B h') = true ∧ K (r.ren (nam l s.n)) (renH (nam l s.n) h' ++ delAll l s.h) (s.n + (B - l.length))) : OpOk P ⟨d, .call ⟨.value fo, args, ts⟩, ty, pos, af, g⟩ s K := by
  intro c a hs next Q hn
  simp only [Bool.and_eq_true] at hb0
  obtain ⟨⟨⟨b1, b2⟩, b3⟩, b4⟩ := hb0
  have b4 := Nat.le_of_ble_eq_true b4
  obtain ⟨vals, hrun, hvals⟩ := run_call (P := P) (ts := ts) (ty := ty) hs hargs hb
  unfold Oper.wp
  simp only [execOp, hrun]
  have hnlt : ∀ i, i < l.length → nam l s.n i < c.n := fun i hi => by rw [nam_old hi, hs.n]; exact okNames_lt b3 i hi
  -- the callee's configuration
  let c0 : Cfg := ⟨fun i => c.ι (nam l s.n i), l.length, c.St, c.w⟩
  have U : UnNames (nam l s.n) l.length c0 c := ⟨rfl, fun _ h => h, fun _ _ => rfl, Nat.le_refl _⟩
  have at0 : ∀ i o, look h0 i = some o → i < l.length ∧ o.bel l.length = true ∧ look s.h (nam l s.n i) = some (o.ren (nam l s.n)) := fun i o e => by
    obtain ⟨h1, h2⟩ := belH_look b2 i o e
    exact ⟨h1, h2, hh.look _ _ (by rw [look_renH b3, e]; rfl)⟩
  have rr : ∀ {o : AO}, o.real → (o.ren (nam l s.n)).real := fun {o} r => by cases o <;> first | exact r | exact trivial
  have H0 : HRel c0 h0 := by
    refine ⟨fun i o e => (at0 i o e).1, fun i o e r => hs.h.blk _ _ (at0 i o e).2.2 (rr r), fun i o e r => hs.h.own _ _ (at0 i o e).2.2 (rr r), fun i o e r => ?_, fun i j o o' e r e' r' hij => ?_, hs.h.st, fun i b o e => hs.h.fact _ b o (at0 i _ e).2.2⟩
    · exact ORel.unren U o (hs.h.rel _ _ (at0 i o e).2.2 (rr r)) (at0 i o e).2.1
    · exact nam_inj b3 (hs.h.inj _ _ _ _ (at0 i o e).2.2 (rr r) (at0 j o' e').2.2 (rr r') hij)
  have hav : AList c0 args0 vals.toList := AList.unren U _ hvals b1
  have hcall := hc c0 vals.toList rfl H0 hav
  simp only [Array.toArray_toList] at hcall
  refine hcall.mono ?_
  rintro e w' ⟨r, h', c0', v, hR, rfl, rfl, hr, hh', hev⟩
  obtain ⟨hb1, hk⟩ := k r h' hR
  simp only [Bool.and_eq_true] at hb1
  let c' : Cfg := ⟨fun j => if j < s.n then c.ι j else c0'.ι (j - s.n + l.length), s.n + (B - l.length), c0'.St, c0'.w⟩
  have hN : Names (nam l s.n) B c0' c' := by
    refine ⟨rfl, fun _ h => h, fun i hi => ?_, fun i hi => ?_⟩
    · rcases Nat.lt_or_ge i l.length with h1 | h1
      · show (if nam l s.n i < s.n then c.ι (nam l s.n i) else _) = _
        rw [if_pos (by have := hnlt i h1; rw [hs.n] at this; exact this)]
        exact (hev.go.ids i h1).symm
      · show (if nam l s.n i < s.n then c.ι (nam l s.n i) else c0'.ι (nam l s.n i - s.n + l.length)) = _
        rw [nam_new h1, if_neg (by omega)]
        congr 1; omega
    · show nam l s.n i < s.n + (B - l.length)
      rcases Nat.lt_or_ge i l.length with h1 | h1
      · have := hnlt i h1; rw [hs.n] at this; omega
      · rw [nam_new h1]; omega
  have hold : ∀ j, j < s.n → c'.ι j = c.ι j := fun j hj => by show (if j < s.n then _ else _) = _; rw [if_pos hj]
  have hfr : ∀ b, b < c.w.heap.size → (∀ id o, look s.h id = some o → o.real → id ∈ l → c.ι id ≠ b) → c0'.w.heap[b]? = c.w.heap[b]? := fun b hb hne =>
    hev.frame b hb fun i o e r => hne _ _ (at0 i o e).2.2 (rr r) (by
      have hi := (at0 i o e).1
      rw [nam_old hi, List.getD_eq_getElem?_getD, List.getElem?_eq_getElem hi]
      exact List.getElem_mem hi)
  have hgo : CGo c c' := ⟨by show c.n ≤ s.n + _; rw [hs.n]; omega, fun id hi => hold id (by rw [← hs.n]; exact hi), ⟨hev.go.st.sub, hev.go.st.same⟩, hev.go.shape⟩
  have hparts : ∀ id o, look (renH (nam l s.n) h' ++ delAll l s.h) id = some o → (∃ i o', look h' i = some o' ∧ id = nam l s.n i ∧ o = o'.ren (nam l s.n) ∧ i < B ∧ o'.bel B = true ∧ (o.real → o'.real)) ∨ (look s.h id = some o ∧ id ∉ l) := fun id o e => by
    rcases look_app e with e | ⟨e, _⟩
    · obtain ⟨i, o', h1, h2⟩ := look_renH_inv e
      subst h2
      rw [look_renH b3, h1] at e
      simp only [Option.map_some, Option.some.injEq] at e
      obtain ⟨h3, h4⟩ := belH_look hb1.2 i o' h1
      exact .inl ⟨i, o', h1, rfl, e.symm, h3, h4, fun r => by subst e; cases o' <;> first | exact r | exact trivial⟩
    · exact .inr (look_delAll e)
  have hrest : ∀ id o, look s.h id = some o → o.real → id ∉ l → ∀ i o', look h0 i = some o' → o'.real → c0.ι i ≠ c.ι id := fun id o e r hid i o' e' r' he => by
    have hi := (at0 i o' e').1
    have := hs.h.inj _ _ _ _ (at0 i o' e').2.2 (rr r') e r he
    apply hid
    rw [← this, nam_old hi, List.getD_eq_getElem?_getD, List.getElem?_eq_getElem hi]
    exact List.getElem_mem hi
  have hEv : Ev c s.h c' (renH (nam l s.n) h' ++ delAll l s.h) := by
    refine ⟨hgo, hev.os, hev.tape, hev.output, hev.size, fun b hb hne => hfr b hb fun id o e r _ => hne id o e r, fun b hb => ?_, fun id o e r => ?_⟩
    · rcases hev.new b hb with h1 | h1 | ⟨i, o, e, r, h1⟩
      · exact .inl h1
      · exact .inr (.inl h1)
      · exact .inr (.inr ⟨_, _, (at0 i o e).2.2, rr r, h1⟩)
    · rcases hparts id o e with ⟨i, o', h1, rfl, _, h3, _, hr'⟩ | ⟨h1, h2⟩
      · rw [hN.ι i h3]
        rcases hev.objs i o' h1 (hr' r) with h4 | ⟨j, o2, h4, r4, h5⟩
        · exact .inl h4
        · exact .inr ⟨_, _, (at0 j o2 h4).2.2, rr r4, h5⟩
      · exact .inr ⟨id, o, h1, r, (hold id (by rw [← hs.n]; exact hs.h.lt id o h1)).symm⟩
  have hH : HRel c' (renH (nam l s.n) h' ++ delAll l s.h) := by
    refine ⟨fun id o e => ?_, fun id o e r => ?_, fun id o e r => ?_, fun id o e r => ?_, fun i j o o' e r e' r' hij => ?_, hh'.st, fun id b o e => ?_⟩
    · rcases hparts id o e with ⟨i, o', h1, rfl, _, h3, _⟩ | ⟨h1, h2⟩
      · exact hN.n i h3
      · have := hs.h.lt id o h1; rw [hs.n] at this; show id < s.n + _; omega
    · rcases hparts id o e with ⟨i, o', h1, rfl, _, h3, _, hr'⟩ | ⟨h1, h2⟩
      · rw [hN.ι i h3]; exact hh'.blk i o' h1 (hr' r)
      · rw [hold id (by rw [← hs.n]; exact hs.h.lt id o h1)]; exact Nat.lt_of_lt_of_le (hs.h.blk id o h1 r) hev.size
    · rcases hparts id o e with ⟨i, o', h1, rfl, _, h3, _, hr'⟩ | ⟨h1, h2⟩
      · rw [hN.ι i h3]; exact hh'.own i o' h1 (hr' r)
      · rw [hold id (by rw [← hs.n]; exact hs.h.lt id o h1)]
        intro hst
        rcases hev.new _ hst with h4 | h4 | ⟨i, o', h4, r4, h5⟩
        · exact hs.h.own id o h1 r h4
        · have := hs.h.blk id o h1 r; have h4' : c.w.heap.size ≤ c.ι id := h4; omega
        · exact hrest id o h1 r h2 i o' h4 r4 h5
    · rcases hparts id o e with ⟨i, o', h1, rfl, rfl, h3, h4, hr'⟩ | ⟨h1, h2⟩
      · rw [hN.ι i h3]; exact (hh'.rel i o' h1 (hr' r)).ren hN h4
      · have h5 := hold id (by rw [← hs.n]; exact hs.h.lt id o h1)
        rw [h5]
        refine (hs.h.rel id o h1 r).goes hgo (hfr _ (hs.h.blk id o h1 r) fun j o' e' r' hj he => ?_)
        have := hs.h.inj _ _ _ _ e' r' h1 r he
        exact h2 (this ▸ hj)
    · rcases hparts i o e with ⟨i0, o1, h1, rfl, _, h3, _, q1⟩ | ⟨h1, h2⟩ <;> rcases hparts j o' e' with ⟨j0, o2, g1, rfl, _, g3, _, q2⟩ | ⟨g1, g2⟩
      · rw [hN.ι i0 h3, hN.ι j0 g3] at hij
        rw [hh'.inj i0 j0 o1 o2 h1 (q1 r) g1 (q2 r') hij]
      · rw [hN.ι i0 h3, hold j (by rw [← hs.n]; exact hs.h.lt j o' g1)] at hij
        exfalso
        rcases hev.objs i0 o1 h1 (q1 r) with h4 | ⟨k0, o3, h4, r4, h5⟩
        · have := hs.h.blk j o' g1 r'; have h4' : c.w.heap.size ≤ c0'.ι i0 := h4; omega
        · exact hrest j o' g1 r' g2 k0 o3 h4 r4 (h5.trans hij)
      · rw [hN.ι j0 g3, hold i (by rw [← hs.n]; exact hs.h.lt i o h1)] at hij
        exfalso
        rcases hev.objs j0 o2 g1 (q2 r') with h4 | ⟨k0, o3, h4, r4, h5⟩
        · have := hs.h.blk i o h1 r; have h4' : c.w.heap.size ≤ c0'.ι j0 := h4; omega
        · exact hrest i o h1 r h2 k0 o3 h4 r4 (h5.trans hij.symm)
      · rw [hold i (by rw [← hs.n]; exact hs.h.lt i o h1), hold j (by rw [← hs.n]; exact hs.h.lt j o' g1)] at hij
        exact hs.h.inj i j o o' h1 r g1 r' hij
    · rcases hparts id _ e with ⟨i0, o1, h1, _, e1, _⟩ | ⟨h1, _⟩
      · cases o1 <;> cases e1
        exact hh'.fact i0 b o h1
      · exact Fct.goes hgo (hs.h.fact id b o h1)
  exact hn _ _ _ v c' hk hEv rfl hH (hr.ren hN hb1.1)
end
end Go.Proofs.YtohmbpcjapjkbaaGreatDoorAl
