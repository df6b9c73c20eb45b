/- The A-logic, part 15: append. -/
import Derived.Test.YtohmbpcjapjkbaaGreatDoorAlN
import Derived.Deep.AppendSrc
set_option linter.all false
namespace Go.Proofs.YtohmbpcjapjkbaaGreatDoorAl

section
variable {St : Nat → Prop} {w : World}
theorem SList.append : ∀ {xs ys : List SV} {vs us : List Value}, SList St w xs vs → SList St w ys us → SList St w (xs ++ ys) (vs ++ us)
  | _, _, _, _, .nil, k => k
  | _, _, _, _, .cons _ _ _ _ h hs, k => .cons _ _ _ _ h (hs.append k)
/-- Rows, one behind the other. -/
theorem SRows.flat : ∀ {k b off : Nat} {rows : List (List SV)}, SRows St w k b off rows →
    ∃ vs, vs.length = rows.length * k ∧ SList St w rows.flatten vs ∧ (∀ j v, vs[j]? = some v → w.cell? ⟨b, off + j, none⟩ = some v) ∧ (∀ row ∈ rows, row.length = k)
  | _, _, _, _, .nil k b off => ⟨[], by simp, .nil, by simp, by simp⟩
  | _, _, _, _, .cons k b off row rows hl hc hs => by
    obtain ⟨us, h1, h2⟩ := hc.list
    obtain ⟨vs, g1, g2, g3, g4⟩ := hs.flat
    have hu : us.length = k := by rw [h1.length, hl]
    refine ⟨us ++ vs, by simp [hu, g1, Nat.add_mul, Nat.add_comm], by simpa using h1.append g2, fun j v e => ?_, fun r hr => ?_⟩
    · rcases Nat.lt_or_ge j us.length with h | h
      · rw [List.getElem?_append_left h] at e
        exact h2 j v e
      · rw [List.getElem?_append_right h] at e
        have := g3 _ v e
        rw [← this]; congr 2; omega
    · rcases List.mem_cons.1 hr with rfl | hr
      · exact hl
      · exact g4 r hr
theorem SList.split : ∀ {xs ys : List SV} {vs : List Value}, SList St w (xs ++ ys) vs → ∃ us ws, vs = us ++ ws ∧ SList St w xs us ∧ SList St w ys ws
  | [], _, vs, h => ⟨[], vs, rfl, .nil, h⟩
  | x :: xs, ys, _, .cons _ v _ vs h hs => by
    obtain ⟨us, ws, rfl, h1, h2⟩ := SList.split hs
    exact ⟨v :: us, ws, rfl, .cons _ _ _ _ h h1, h2⟩
theorem SCells.of_list : ∀ {b off : Nat} {xs : List SV} {vs : List Value}, SList St w xs vs → (∀ j v, vs[j]? = some v → w.cell? ⟨b, off + j, none⟩ = some v) → SCells St w b off xs
  | _, _, _, _, .nil, _ => .nil _ _
  | b, off, _, _, .cons x v xs vs h hs, hc => .cons _ _ _ _ _ (by simpa using hc 0 v rfl) h (SCells.of_list hs fun j u e => by
      have := hc (j + 1) u (by simpa using e)
      rw [← this]; congr 2; omega)
theorem SRows.of_flat : ∀ {k b off : Nat} {rows : List (List SV)} {vs : List Value}, (∀ row ∈ rows, row.length = k) → SList St w rows.flatten vs → (∀ j v, vs[j]? = some v → w.cell? ⟨b, off + j, none⟩ = some v) → SRows St w k b off rows
  | k, b, off, [], _, _, _, _ => .nil _ _ _
  | k, b, off, row :: rows, vs, hk, h, hc => by
    obtain ⟨us, ws, rfl, h1, h2⟩ := SList.split (xs := row) (by simpa using h)
    have hu : us.length = k := by rw [h1.length]; exact hk row (.head _)
    refine .cons _ _ _ _ _ (hk row (.head _)) (SCells.of_list h1 fun j v e => hc j v (by rw [List.getElem?_append_left (List.getElem?_eq_some_iff.1 e).1]; exact e)) (SRows.of_flat (fun r hr => hk r (.tail _ hr)) h2 fun j v e => ?_)
    have := hc (us.length + j) v (by rw [List.getElem?_append_right (Nat.le_add_right _ _)]; simpa using e)
    rw [← this]; congr 2; omega
theorem sval_one {x : SV} {v : Value} (h : SVal St w x v) (hx : x.one = true) : v.oneCell' = true := by cases h <;> first | rfl | cases hx
theorem slist_one : ∀ {xs : List SV} {vs : List Value}, SList St w xs vs → (∀ x ∈ xs, x.one = true) → ∀ v ∈ vs, v.oneCell' = true
  | _, _, .nil, _, v, hv => by cases hv
  | _, _, .cons x u xs vs h hs, hx, v, hv => by
    rcases List.mem_cons.1 hv with rfl | hv
    · exact sval_one h (hx x (.head _))
    · exact slist_one hs (fun y hy => hx y (.tail _ hy)) v hv
end

/-- What is appended, in rows: off a stable slice; off an array of one's own. -/
def srcRows (h : Heap) (k : Nat) : AV → Option (List (List SV))
  | .st .nilsl => some []
  | .st .sl0 => some []
  | .st (.sl k' rows) => cond (Nat.beq k' k) (some rows) none
  | .lsl id k' 0 len => match look h id with
    | some (.arr k'' rows) => cond (Nat.beq k' k && Nat.beq k'' k && Nat.beq len rows.length) (some rows) none
    | _ => none
  | _ => none
def delO (o : Option Nat) (h : Heap) : Heap :=
  match o with
  | some id => del h id
  | none => h
theorem look_delO {o : Option Nat} {h : Heap} {i : Nat} {x : AO} (e : look (delO o h) i = some x) : look h i = some x ∧ o ≠ some i := by
  cases o with
  | none => exact ⟨e, fun h => by cases h⟩
  | some id =>
    simp only [delO, look_del] at e
    split at e
    · cases e
    · rename_i hne; exact ⟨e, fun h => hne (by cases h; rfl)⟩

section
variable {P : Program} {c : Cfg} {h : Heap} {k e tx : Nat} {ii : TypeInfo}
/-- The source's rows, as the append reads them. -/
theorem src_of (hr : HRel c h) {X : AV} {x : Value} {rows : List (List SV)} (hx : AVal c X x) (hs : srcRows h k X = some rows) (hone : ∀ row ∈ rows, ∀ y ∈ row, SV.one y = true) (htx : P.underlying tx = some (.slice e)) :
    ∃ news, Src P k tx x rows.length news c.w ∧ SList c.St c.w rows.flatten news ∧ (∀ row ∈ rows, row.length = k) := by
  have flat1 : ∀ {vs : List Value}, SList c.St c.w rows.flatten vs → ∀ u ∈ vs, u.oneCell' = true := fun h => slist_one h fun x hx => by
    obtain ⟨row, h1, h2⟩ := List.mem_flatten.1 hx
    exact hone row h1 x h2
  have empty : ∀ (a : Option Addr) (cap : Nat), Src P k tx (.slice a 0 cap) 0 [] c.w := fun a cap => by
    cases a with
    | none => exact .ofNil c.w htx cap
    | some a => exact .ofSlice c.w htx a 0 cap [] (by simp) (by simp) (by simp)
  have some_ : ∀ (b off cap : Nat), SRows c.St c.w k b off rows → ∃ news, Src P k tx (.slice (some ⟨b, off, none⟩) rows.length cap) rows.length news c.w ∧ SList c.St c.w rows.flatten news ∧ (∀ row ∈ rows, row.length = k) := fun b off cap hh => by
    obtain ⟨vs, g1, g2, g3, g4⟩ := hh.flat
    exact ⟨vs, .ofSlice c.w htx _ _ _ vs g1 (fun j u e => by rw [add_lit]; exact g3 j u e) (flat1 g2), g2, g4⟩
  cases hx with
  | st z v hz =>
    cases hz <;> simp only [srcRows, Option.some.injEq, reduceCtorEq] at hs
    case nilsl => subst hs; exact ⟨[], empty _ _, .nil, by simp⟩
    case sl0 => subst hs; exact ⟨[], empty _ _, .nil, by simp⟩
    case slnil k' a cap =>
      cases hb : Nat.beq k' k <;> rw [hb] at hs <;> cases hs
      exact ⟨[], empty _ _, .nil, by simp⟩
    case sl k' b off cap rows' hb hh hc =>
      cases hbk : Nat.beq k' k <;> rw [hbk] at hs <;> cases hs
      have := Nat.eq_of_beq_eq_true hbk; subst this
      exact some_ b off cap hh
  | lsl id k' off len cap T size a1 a2 a3 a4 =>
    cases off with
    | succ off => cases hs
    | zero =>
      simp only [srcRows] at hs
      split at hs
      · rename_i k'' rows' hl
        cases hbk : (Nat.beq k' k && Nat.beq k'' k && Nat.beq len rows'.length) <;> rw [hbk] at hs <;> cases hs
        simp only [Bool.and_eq_true] at hbk
        have e1 := Nat.eq_of_beq_eq_true hbk.1.1
        have e2 := Nat.eq_of_beq_eq_true hbk.1.2
        have e3 := Nat.eq_of_beq_eq_true hbk.2
        subst e1 e2 e3
        by_cases h0 : rows = []
        · subst h0; exact ⟨[], empty _ _, .nil, by simp⟩
        · obtain ⟨cs, T', fr, _, _, _, hh⟩ := hr.rel id _ hl h0
          rw [Nat.zero_mul]
          exact some_ _ _ _ hh
      · cases hs
  | lsl0 id k' a a1 =>
    simp only [srcRows] at hs
    split at hs
    · rename_i k'' rows' hl
      cases hbk : (Nat.beq k' k && Nat.beq k'' k && Nat.beq 0 rows'.length) <;> rw [hbk] at hs <;> cases hs
      simp only [Bool.and_eq_true] at hbk
      have e3 := Nat.eq_of_beq_eq_true hbk.2
      have : rows = [] := List.length_eq_zero_iff.1 e3.symm
      subst this
      exact ⟨[], empty _ _, .nil, by simp⟩
    · cases hs
  | _ => cases hs
end
end Go.Proofs.YtohmbpcjapjkbaaGreatDoorAl
