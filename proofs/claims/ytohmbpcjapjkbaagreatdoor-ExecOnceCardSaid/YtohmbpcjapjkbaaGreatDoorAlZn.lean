/- The A-logic: the row of a law that lists package variables: they are a premise that the walk does not need. -/
import Derived.Test.YtohmbpcjapjkbaaGreatDoorAlQ
import Derived.Lay
import Derived.LaidOnce
import Derived.SevenTiedAt
set_option linter.all false
namespace Go.Proofs.YtohmbpcjapjkbaaGreatDoorAl
open Go.ChangeShapes Go.WideShapes Go.ChangeAt Go.RowKit
theorem law_liftedL {C : Checked} {f : Nat} {fn : Func} {s : ChangeSpec} {rt : TypeId} {ps : List Par} {conds : List PathCond} {laidv : List (String × DataW Unit)} {os : Os} {H : Type} {enc : TypeId × Value → H} (own : ownKnob C.prog.godebug = none) (started : os.Started) (noInit : C.prog.inits.idxOf? f = none)
    (hfn : C.prog.funcs[f]? = some fn) (witness : ∃ (w : World) (tape : Tape) (i : Input), w.os = os ∧ (w.forCall tape i).Shaped C.prog ∧ i.vars = [] ∧ Input.okWide C.prog (w.forCall tape i) .any w.heap.size f i ∧
      ((s.pre enc C.prog fn conds false (w.forCall tape i).memory i.args ∧ laidMetH C.prog laidv (w.forCall tape i).memory) ∧ sizedMet enc C.prog fn (OpenSpec.ofChange s) false (w.forCall tape i).memory i.args) ∧ ({} : Assume).holds C.prog (lone (Frame.enter C.prog f i.args .normal) [] (w.forCall tape i)))
    (laid : laidOutB C.prog = true) (hp : fn.params.toList = ps.map (·.t)) (hr : fn.resultTypes.toList = [rt]) (hrt : C.prog.underlying rt = some .bool) (hv : s.vars = [])
    (hs : ∀ ds : List (DataW H), ds.length = ps.length → s.fn H ds = { results := [.lit (.bool true)], args := ds }) (hps : ParsOk C.prog ps) (law : LawOk C.prog f ps) :
    ReturnsInHanded {} C os f .any (fun w args => (s.pre enc C.prog fn conds false w args ∧ laidMetH C.prog laidv w) ∧ sizedMet enc C.prog fn (OpenSpec.ofChange s) false w args) (s.post enc C.prog fn false true false false) := by
  refine returnsInHanded_of_change_and (X := fun w _ => laidMetH C.prog laidv w) (fun _ _ _ hh h => h.of_heap hh) own started noInit hfn witness ?_
  intro W base args ds gs before hval hW _ hsz _ _
  have hW' := hW
  obtain ⟨p, q, hA, hV, rfl, hfz, hnd⟩ := hW
  rw [hv] at hV
  obtain ⟨rfl, rfl⟩ := trodVars_none hV
  have hvt : s.plain.varTypes C.prog = [] := by unfold DataSpec.varTypes ChangeSpec.plain; rw [hv]; rfl
  rw [hvt, List.append_nil, List.append_nil] at hsz
  rw [hp] at hA hsz
  have hlen : ds.length = ps.length := by
    have key : ∀ {ps : List Par} {vs : List Value} {ds : List (DataW H)} {p : List MemPlace}, DataW.TrodAll enc C.prog W 0 (fun _ => true) true (ps.map (·.t)) vs ds p → ds.length = ps.length := by
      intro ps
      induction ps with
      | nil => intro vs ds p h; obtain ⟨_, rfl, _⟩ := trodAll_nil h; rfl
      | cons q r ih =>
        intro vs ds p h
        obtain ⟨v, vs', d, ds', p1, p2, rfl, rfl, rfl, g1, g2⟩ := trodAll_cons h
        simp [ih g2]
    exact key hA
  obtain ⟨svs, k1, k2⟩ := args_all hps (fun j t v e1 e2 => hval j t v (by rw [← Array.getElem?_toList, hp]; exact e1) (by rw [← Array.getElem?_toList]; exact e2)) hA (fun m hm => by simpa using List.all_eq_true.1 hsz m hm)
  refine ((law svs k2).law k1).mono fun e W' ⟨he, bel⟩ => ?_
  subst he
  obtain ⟨pa, hback⟩ := back_all laid bel hps hA
  have hs' := hs ds hlen
  have hsize : fn.resultTypes.size = 1 := by rw [← Array.length_toList, hr]; rfl
  refine ⟨_, rfl, ds, [], _, [], pa, [], hW', ?_, ?_, ?_, bel.frame _, fun h => by cases h⟩
  · rw [List.append_nil, hs', hr, hsize]
    exact trodAll_mk1 (shut_bool hrt _)
  · rw [List.append_nil, hs', hp]
    exact hback
  · rw [hv, List.append_nil, hs']
    rfl
end Go.Proofs.YtohmbpcjapjkbaaGreatDoorAl
