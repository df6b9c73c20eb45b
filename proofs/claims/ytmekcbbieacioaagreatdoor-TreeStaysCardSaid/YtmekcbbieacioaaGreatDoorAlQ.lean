/- The A-logic, part 16: the row of a law. -/
import Derived.Test.YtmekcbbieacioaaGreatDoorAlP
set_option linter.all false
namespace Go.Proofs.YtmekcbbieacioaaGreatDoorAl
open Go.ChangeShapes Go.WideShapes Go.ChangeAt Go.RowKit

/-- What a parameter's value is: a struct's cells, or one. -/
def argP (agg : Bool) (Φ : List SV → Prop) (x : SV) : Prop :=
  match agg with
  | true => ∃ xs, x = .agg xs ∧ Φ xs
  | false => Φ [x]
structure Par where
  t : TypeId
  agg : Bool
  Φ : List SV → Prop
def ParsOk (P : Program) : List Par → Prop
  | [] => True
  | p :: r => Rd P p.t p.Φ ∧ (∃ d, P.underlying p.t = some d ∧ aggDesc d = p.agg) ∧ P.readableRec p.t = true ∧ p.t < P.types.size ∧ ParsOk P r
def ArgsP : List Par → List SV → Prop
  | [], xs => xs = []
  | p :: r, xs => ∃ x ys, xs = x :: ys ∧ argP p.agg p.Φ x ∧ ArgsP r ys

section
variable {P : Program}
theorem arg_one {t : TypeId} {Φ : List SV → Prop} {agg : Bool} {H : Type} {enc : TypeId × Value → H} {W : World} {base : Nat} {v : Value} {d : DataW H} {p : List MemPlace} (hr : Rd P t Φ) (ha : ∃ dd, P.underlying t = some dd ∧ aggDesc dd = agg)
    (hok : Value.okWide P W .any base t v) (ht : DataW.Trod enc P W 0 (fun _ => true) true t v d p) (hw : ∀ m ∈ d.weights P t, m ≤ reachBytes) : ∃ x, SVal (fun b => b < W.heap.size) W x v ∧ argP agg Φ x := by
  obtain ⟨dd, h1, h2⟩ := ha
  obtain ⟨fuel, hf⟩ := ht
  obtain ⟨xs, h3, h4⟩ := hr H enc W fuel _ d p hf hw
  cases agg with
  | true =>
    have : ∃ cs, v = .agg cs := by
      unfold Value.okWide at hok
      rw [h1] at hok
      cases dd <;> simp only [aggDesc] at h2 <;> first | (cases h2; done) | skip
      all_goals (obtain ⟨cs, h5, _⟩ := hok; exact ⟨cs, h5⟩)
    obtain ⟨cs, rfl⟩ := this
    refine ⟨.agg xs, ?_, xs, rfl, h4⟩
    have := SVal.agg (St := fun b => b < W.heap.size) (w := W) xs cs.toList (by simpa [Value.cells] using h3)
    simpa using this
  | false =>
    have hna : ∀ cs, v ≠ .agg cs := by
      intro cs e
      subst e
      unfold Value.okWide at hok
      rw [h1] at hok
      cases dd <;> simp only [aggDesc] at h2 <;> first | (cases h2; done) | (simp [Cell.okWide, Cell.ok, h1] at hok)
    have hc : v.cells = #[v] := by
      cases v <;> first | rfl | exact absurd rfl (hna _)
    rw [hc] at h3
    cases h3 with
    | cons x _ _ _ hx hs => cases hs; exact ⟨x, hx, h4⟩

theorem args_all {H : Type} {enc : TypeId × Value → H} {W : World} {base : Nat} : ∀ {ps : List Par} {vs : List Value} {ds : List (DataW H)} {p : List MemPlace}, ParsOk P ps →
    (∀ (j : Nat) t v, (ps.map (·.t))[j]? = some t → vs[j]? = some v → Value.okWide P W .any base t v) → DataW.TrodAll enc P W 0 (fun _ => true) true (ps.map (·.t)) vs ds p → (∀ m ∈ DataW.weightsEach P (ps.map (·.t)) ds, m ≤ reachBytes) →
    ∃ svs, SList (fun b => b < W.heap.size) W svs vs ∧ ArgsP ps svs
  | [], vs, ds, p, _, _, h, _ => by
    obtain ⟨rfl, _, _⟩ := trodAll_nil h
    exact ⟨[], .nil, rfl⟩
  | q :: r, vs, ds, p, ⟨h1, h2, _, _, h5⟩, hok, h, hw => by
    obtain ⟨v, vs', d, ds', p1, p2, rfl, rfl, rfl, g1, g2⟩ := trodAll_cons h
    simp only [List.map_cons, DataW.weightsEach, List.mem_append] at hw
    obtain ⟨x, k1, k2⟩ := arg_one h1 h2 (hok 0 q.t v rfl rfl) g1 fun m hm => hw m (.inl hm)
    obtain ⟨svs, k3, k4⟩ := args_all h5 (fun j t v' e1 e2 => hok (j + 1) t v' (by simpa using e1) (by simpa using e2)) g2 fun m hm => hw m (.inr hm)
    exact ⟨x :: svs, .cons _ _ _ _ k1 k3, x, svs, rfl, k2, k4⟩

theorem back_all {H : Type} {enc : TypeId × Value → H} {W W' : World} (hl : laidOutB P = true) (hb : Below W.heap.size W W') : ∀ {ps : List Par} {vs : List Value} {ds : List (DataW H)} {p : List MemPlace}, ParsOk P ps →
    DataW.TrodAll enc P W 0 (fun _ => true) true (ps.map (·.t)) vs ds p → ∃ p', DataW.TrodAll enc P W' 0 (fun b => decide (b < W.heap.size)) true (ps.map (·.t)) vs ds p'
  | [], vs, ds, p, _, h => by
    obtain ⟨rfl, rfl, _⟩ := trodAll_nil h
    exact ⟨[], trodAll_mk0⟩
  | q :: r, vs, ds, p, ⟨_, _, h3, h4, h5⟩, h => by
    obtain ⟨v, vs', d, ds', p1, p2, rfl, rfl, rfl, g1, g2⟩ := trodAll_cons h
    obtain ⟨p', k⟩ := back_all hl hb h5 g2
    have lt : ∀ x ∈ p1, x.block < W.heap.size := by obtain ⟨m, hm⟩ := g1; exact DataW.trod_lt m _ _ _ hm
    exact ⟨_, trodAll_cons_mk (Below.trod hl h3 h4 g1 hb lt) k⟩

/-- A law's contract, for whatever arguments are of its parameters' types. -/
def LawOk (P : Program) (f : Nat) (ps : List Par) : Prop := ∀ svs, ArgsP ps svs → ACalls P f 0 (stAll svs) [] fun x h' => x = .st (.bool true) ∧ h' = []
end

/-- The lifted form of a law's row. -/
theorem law_lifted {C : Checked} {f : Nat} {fn : Func} {s : ChangeSpec} {rt : TypeId} {ps : List Par} {conds : List PathCond} {os : Os} {H : Type} {enc : TypeId × Value → H} (own : ownKnob C.prog.godebug = none) (started : os.Started) (noInit : C.prog.inits.idxOf? f = none)
    (hfn : C.prog.funcs[f]? = some fn) (witness : ∃ (w : World) (tape : Tape) (i : Input), w.os = os ∧ (w.forCall tape i).Shaped C.prog ∧ i.vars = [] ∧ Input.okWide C.prog (w.forCall tape i) .any w.heap.size f i ∧
      s.pre6 enc C.prog fn conds false (w.forCall tape i).memory i.args ∧ ({} : Assume).holds C.prog (lone (Frame.enter C.prog f i.args .normal) [] (w.forCall tape i)))
    (laid : laidOutB C.prog = true) (hp : fn.params.toList = ps.map (·.t)) (hr : fn.resultTypes.toList = [rt]) (hrt : C.prog.underlying rt = some .bool) (hv : s.vars = [])
    (hs : ∀ ds : List (DataW H), ds.length = ps.length → s.fn H ds = { results := [.lit (.bool true)], args := ds }) (hps : ParsOk C.prog ps) (law : LawOk C.prog f ps) :
    ReturnsInHanded {} C os f .any (s.pre6 enc C.prog fn conds false) (s.post enc C.prog fn false true false false) := by
  refine returnsInHanded_of_change_sized own started noInit hfn witness ?_
  intro W base args ds gs before hval hW _ hsz _
  have hW' := hW
  obtain ⟨p, q, hA, hV, rfl, hfz, hnd⟩ := hW
  rw [hv] at hV
  obtain ⟨rfl, rfl⟩ := trodVars_none hV
  have hvt : s.plain.varTypes C.prog = [] := by unfold DataSpec.varTypes ChangeSpec.plain; rw [hv]; rfl
  rw [hvt, List.append_nil, List.append_nil] at hsz
  rw [hp] at hA hsz
  have hlen : ds.length = ps.length := by
    have key : ∀ {ps : List Par} {vs : List Value} {ds : List (DataW H)} {p : List MemPlace}, DataW.TrodAll enc C.prog W 0 (fun _ => true) true (ps.map (·.t)) vs ds p → ds.length = ps.length := by
      intro ps
      induction ps with
      | nil => intro vs ds p h; obtain ⟨_, rfl, _⟩ := trodAll_nil h; rfl
      | cons q r ih =>
        intro vs ds p h
        obtain ⟨v, vs', d, ds', p1, p2, rfl, rfl, rfl, g1, g2⟩ := trodAll_cons h
        simp [ih g2]
    exact key hA
  obtain ⟨svs, k1, k2⟩ := args_all hps (fun j t v e1 e2 => hval j t v (by rw [← Array.getElem?_toList, hp]; exact e1) (by rw [← Array.getElem?_toList]; exact e2)) hA (fun m hm => by simpa using List.all_eq_true.1 hsz m hm)
  refine ((law svs k2).law k1).mono fun e W' ⟨he, bel⟩ => ?_
  subst he
  obtain ⟨pa, hback⟩ := back_all laid bel hps hA
  have hs' := hs ds hlen
  have hsize : fn.resultTypes.size = 1 := by rw [← Array.length_toList, hr]; rfl
  refine ⟨_, rfl, ds, [], _, [], pa, [], hW', ?_, ?_, ?_, bel.frame _, fun h => by cases h⟩
  · rw [List.append_nil, hs', hr, hsize]
    exact trodAll_mk1 (shut_bool hrt _)
  · rw [List.append_nil, hs', hp]
    exact hback
  · rw [hv, List.append_nil, hs']
    rfl
end Go.Proofs.YtmekcbbieacioaaGreatDoorAl
