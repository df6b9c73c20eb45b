/- The A-logic, part 16: the row of a law. -/
import Derived.Test.YtohmbpcjapjkbaaGreatDoorAlP
set_option linter.all false
namespace Go.Proofs.YtohmbpcjapjkbaaGreatDoorAl
open Go.ChangeShapes Go.WideShapes Go.ChangeAt Go.RowKit

/-- What a parameter's value is: a struct's cells, or one. -/
def argP (agg : Bool) (Φ : List SV → Prop) (x : SV) : Prop :=
  match agg with
  | true => ∃ xs, x = .agg xs ∧ Φ xs
  | false => Φ [x]
structure Par where
  t : TypeId
  agg : Bool
  Φ : List SV → Prop
def ParsOk (P : Program) : List Par → Prop
  | [] => True
  | p :: r => Rd P p.t p.Φ ∧ (∃ d, P.underlying p.t = some d ∧ aggDesc d = p.agg) ∧ P.readableRec p.t = true ∧ p.t < P.types.size ∧ ParsOk P r
def ArgsP : List Par → List SV → Prop
  | [], xs => xs = []
  | p :: r, xs => ∃ x ys, xs = x :: ys ∧ argP p.agg p.Φ x ∧ ArgsP r ys

section
variable {P : Program}
theorem arg_one {t : TypeId} {Φ : List SV → Prop} {agg : Bool} {H : Type} {enc : TypeId × Value → H} {W : World} {base : Nat} {v : Value} {d : DataW H} {p : List MemPlace} (hr : Rd P t Φ) (ha : ∃ dd, P.underlying t = some dd ∧ aggDesc dd = agg)
    (hok : Value.okWide P W .any base t v) (ht : DataW.Trod enc P W 0 (fun _ => true) true t v d p) (hw : ∀ m ∈ d.weights P t, m ≤ reachBytes) : ∃ x, SVal (fun b => b < W.heap.size) W x v ∧ argP agg Φ x := by
  obtain ⟨dd, h1, h2⟩ := ha
  obtain ⟨fuel, hf⟩ := ht
  obtain ⟨xs, h3, h4⟩ := hr H enc W fuel _ d p hf hw
  cases agg with
  | true =>
    have : ∃ cs, v = .agg cs := by
      unfold Value.okWide at hok
      rw [h1] at hok
      cases dd <;> simp only [aggDesc] at h2 <;> first | (cases h2; done) | skip
      all_goals (obtain ⟨cs, h5, _⟩ := hok; exact ⟨cs, h5⟩)
    obtain ⟨cs, rfl⟩ := this
    refine ⟨.agg xs, ?_, xs, rfl, h4⟩
    have := SVal.agg (St := fun b => b < W.heap.size) (w := W) xs cs.toList (by simpa [Value.cells] using h3)
    simpa using this
  | false =>
    have hna : ∀ cs, v ≠ .agg cs := by
      intro cs e
      subst e
      unfold Value.okWide at hok
      rw [h1] at hok
      cases dd <;> simp only [aggDesc] at h2 <;> first | (cases h2; done) | (simp [Cell.okWide, Cell.ok, h1] at hok)
    have hc : v.cells = #[v] := by
      cases v <;> first | rfl | exact absurd rfl (hna _)
    rw [hc] at h3
    cases h3 with
    | cons x _ _ _ hx hs => cases hs; exact ⟨x, hx, h4⟩

theorem args_all {H : Type} {enc : TypeId × Value → H} {W : World} {base : Nat} : ∀ {ps : List Par} {vs : List Value} {ds : List (DataW H)} {p : List MemPlace}, ParsOk P ps →
    (∀ (j : Nat) t v, (ps.map (·.t))[j]? = some t → vs[j]? = some v → Value.okWide P W .any base t v) → DataW.TrodAll enc P W 0 (fun _ => true) true (ps.map (·.t)) vs ds p → (∀ m ∈ DataW.weightsEach P (ps.map (·.t)) ds, m ≤ reachBytes) →
    ∃ svs, SList (fun b => b < W.heap.size) W svs vs ∧ ArgsP ps svs
  | [], vs, ds, p, _, _, h, _ => by
    obtain ⟨rfl, _, _⟩ := trodAll_nil h
    exact ⟨[], .nil, rfl⟩
  | q :: r, vs, ds, p, ⟨h1, h2, _, _, h5⟩, hok, h, hw => by
    obtain ⟨v, vs', d, ds', p1, p2, rfl, rfl, rfl, g1, g2⟩ := trodAll_cons h
    simp only [List.map_cons, DataW.weightsEach, List.mem_append] at hw
    obtain ⟨x, k1, k2⟩ := arg_one h1 h2 (hok 0 q.t v rfl rfl) g1 fun m hm => hw m (.inl hm)
    obtain ⟨svs, k3, k4⟩ := args_all h5 (fun j t v' e1 e2 => hok (j + 1) t v' (by simpa using e1) (by simpa using e2)) g2 fun m hm => hw m (.inr hm)
    exact ⟨x :: svs, .cons _ _ _ _ k1 k3, x, svs, rfl, k2, k4⟩

theorem back_all {H : Type} {enc : TypeId × Value → H} {W W' : World} (hl : laidOutB P = true) (hb : Below W.heap.size W W') : ∀ {ps : List Par} {vs : List Value} {ds : List (DataW H)} {p : List MemPlace}, ParsOk P ps →
    DataW.TrodAll enc P W 0 (fun _ => true) true (ps.map (·.t)) vs ds p → ∃ p', DataW.TrodAll enc P W' 0 (fun b => decide (b < W.heap.size)) true (ps.map (·.t)) vs ds p'
  | [], vs, ds, p, _, h => by
    obtain ⟨rfl, rfl, _⟩ := trodAll_nil h
    exact ⟨[], trodAll_mk0⟩
  | q :: r, vs, ds, p, ⟨_, _, h3, h4, h5⟩, h => by
    obtain ⟨v, vs', d, ds', p1, p2, rfl, rfl, rfl, g1, g2⟩ := trodAll_cons h
    obtain ⟨p', k⟩ := back_all hl hb h5 g2
    have lt : ∀ x ∈ p1, x.block < W.heap.size := by obtain ⟨m, hm⟩ := g1; exact DataW.trod_lt m _ _ _ hm
    exact ⟨_, trodAll_cons_mk (Below.trod hl h3 h4 g1 hb lt) k⟩

/-- A law's contract, for whatever arguments are of its parameters' types. -/
def LawOk (P : Program) (f : Nat) (ps : List Par) : Prop := ∀ svs, ArgsP ps svs → ACalls P f 0 (stAll svs) [] fun x h' => x = .st (.bool true) ∧ h' = []
end

end Go.Proofs.YtohmbpcjapjkbaaGreatDoorAl
