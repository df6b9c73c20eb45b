/- The law CertMore: for every input it says true: changes that hold do so with one more that does, of a greater node; and without one, just if they are a quorum still. No condition. -/
import Derived.Test.YtcandekalmjfaaaRows
import Derived.Test.YtcandekalmjfaaaAlUb
set_option linter.all false
namespace Go.Proofs.Ytcandekalmjfaaa
open Go.Proofs.YtcandekalmjfaaaAl Go.ChangeAt Go.RowKit
open Go.Proofs.YtcandekalmjfaaaFn
theorem own : ownKnob Try.prog.godebug = none := by kernel_rfl
theorem laidOut : laidOutB Try.prog = true := by kernel_rfl

/-! ### the parameters' types -/
abbrev ΦI (xs : List SV) : Prop := ∃ n, xs = [.int .i64 n] ∧ (Lit.int .i64 n).wf = true
theorem rdI : Rd Try.prog 3 ΦI := rd_int Try.underlying3
abbrev ΦS (xs : List SV) : Prop := ∃ s : ByteArray, xs = [.str s] ∧ s.size ≤ reachBytes
theorem rdS : Rd Try.prog 9 ΦS := rd_str Try.underlying9
abbrev ΦL (sz bytes : Nat) (Φ : List SV → Prop) (xs : List SV) : Prop := ∃ rows, xs = [.sl sz rows] ∧ (∀ row ∈ rows, Φ row) ∧ rows.length * bytes ≤ reachBytes
theorem rdLI : Rd Try.prog 22 (ΦL 1 8 ΦI) := rd_slice Try.underlying22 (by kernel_rfl) (by kernel_rfl) rfl rdI
abbrev ΦP : List SV → Prop := Pieces [ΦI, ΦI, ΦS, ΦL 1 8 ΦI]
theorem cellsI : Try.prog.cellsOf 3 = 1 := by kernel_rfl
theorem cellsS : Try.prog.cellsOf 9 = 1 := by kernel_rfl
theorem cellsLI : Try.prog.cellsOf 22 = 1 := by kernel_rfl
theorem cellsP : Try.prog.cellsOf 24 = 4 := by kernel_rfl
theorem cellsLP : Try.prog.cellsOf 27 = 1 := by kernel_rfl
theorem cellsC : Try.prog.cellsOf 40 = 3 := by kernel_rfl
theorem rdP : Rd Try.prog 24 ΦP := rd_struct Try.underlying24 ⟨rfl, rdI, by rw [cellsI], rdI, by rw [cellsI], rdS, by rw [cellsS, cellsI], rdLI, by rw [cellsP, cellsI, cellsS, cellsLI]; rfl⟩
theorem rdLP : Rd Try.prog 27 (ΦL 4 56 ΦP) := rd_slice Try.underlying27 (by kernel_rfl) (by kernel_rfl) rfl rdP
abbrev ΦC : List SV → Prop := Pieces [ΦI, ΦI, ΦL 4 56 ΦP]
theorem rdC : Rd Try.prog 40 ΦC := rd_struct Try.underlying40 ⟨rfl, rdI, by rw [cellsI], rdI, by rw [cellsI], rdLP, by rw [cellsC, cellsI, cellsLP]; rfl⟩
theorem rdLC : Rd Try.prog 28 (ΦL 3 40 ΦC) := rd_slice Try.underlying28 (by kernel_rfl) (by kernel_rfl) rfl rdC
theorem pf_of {xs : List SV} (h : ΦP xs) : ∃ p : Pf, xs = p.cells := by
  obtain ⟨_, _, rfl, ⟨a, rfl, _⟩, _, _, rfl, ⟨b, rfl, _⟩, _, _, rfl, ⟨c, rfl, _⟩, _, _, rfl, ⟨rows, rfl, hr, _⟩, rfl⟩ := h
  obtain ⟨l, rfl, _⟩ := rows_map (f := row1) (Ok := fun n => (Lit.int .i64 n).wf = true) hr
  exact ⟨⟨a, b, c, l⟩, rfl⟩
theorem ch_of {xs : List SV} (h : ΦC xs) : ∃ c : Ch, xs = c.cells := by
  obtain ⟨_, _, rfl, ⟨a, rfl, _⟩, _, _, rfl, ⟨b, rfl, _⟩, _, _, rfl, ⟨rows, rfl, hr, _⟩, rfl⟩ := h
  obtain ⟨l, rfl, _⟩ := rows_map (f := Pf.cells) (Ok := fun _ => True) (fun row hm => let ⟨p, e⟩ := pf_of (hr row hm); ⟨p, e, trivial⟩)
  exact ⟨⟨a, b, l⟩, rfl⟩

def morePars : List Par := [⟨3, false, ΦI⟩, ⟨28, false, ΦL 3 40 ΦC⟩, ⟨40, true, ΦC⟩, ⟨3, false, ΦI⟩]
theorem morePars_ok : ParsOk Try.prog morePars :=
  ⟨rdI, ⟨_, Try.underlying3, rfl⟩, by kernel_rfl, of_decide_eq_true (by kernel_rfl), rdLC, ⟨_, Try.underlying28, rfl⟩, by kernel_rfl, of_decide_eq_true (by kernel_rfl),
   rdC, ⟨_, Try.underlying40, rfl⟩, by kernel_rfl, of_decide_eq_true (by kernel_rfl), rdI, ⟨_, Try.underlying3, rfl⟩, by kernel_rfl, of_decide_eq_true (by kernel_rfl), trivial⟩
theorem more_law : LawOk Try.prog 10 morePars := by
  rintro svs ⟨_, _, rfl, ⟨f, hf, _⟩, _, _, rfl, ⟨rows, hr, hrow, hlen⟩, _, _, rfl, ⟨xs, rfl, hc⟩, _, _, rfl, ⟨v, hv, _⟩, rfl⟩
  cases hf; cases hv; cases hr
  obtain ⟨c, rfl⟩ := ch_of hc
  obtain ⟨l, rfl, _⟩ := rows_map (f := Ch.cells) (Ok := fun _ => True) (fun row hm => let ⟨p, e⟩ := ch_of (hrow row hm); ⟨p, e, trivial⟩)
  refine more_ok f l c v ?_
  simp only [List.length_map] at hlen
  have : reachBytes ≤ 140737488351232 := by decide
  omega

set_option maxRecDepth 100000 in
theorem more_lifted (os : Os) (started : os.Started) (H : Type) (enc : TypeId × Value → H) :
    ReturnsInHanded {} Try.checked os 10 .any (Rows.certMoreSpec.pre6 enc Try.prog Try.f10 Rows.certMoreRow.domain false) (Rows.certMoreSpec.post enc Try.prog Try.f10 false true false false) :=
  law_lifted (C := Try.checked) (ps := morePars) own started (by kernel_rfl) Try.func10
    (ChangeSpec.witness6 (enc := enc) (C := Try.checked) false ⟨#[], #[.int .i64 0, .slice none 0 0, .agg #[.int .i64 0, .int .i64 0, .slice none 0 0], .int .i64 0], []⟩ 8 (by kernel_rfl) (by kernel_rfl) (by kernel_rfl) (by kernel_rfl))
    laidOut rfl rfl Try.underlying4 rfl
    (fun ds hds => by
      match ds, hds with
      | [_, _, _, _], _ => rfl) morePars_ok more_law
theorem more_over : Rows.certMoreRow.holds Try.pinned (OpenSpec.ofChange Rows.certMoreSpec) :=
  OpenClaim.holds_of_wide 10 Try.f10 rfl rfl rfl rfl rfl rfl rfl ⟨rfl, rfl, rfl, rfl, rfl⟩ rfl rfl rfl rfl rfl (by kernel_rfl) Try.func10 (by kernel_rfl)
    (of_decide_eq_true (by kernel_rfl)) (by unfold Func.isWrapper; first | (rw [if_pos (by decide +kernel)]; kernel_rfl) | (rw [if_neg (by decide +kernel)]; exact ⟨rfl, rfl⟩))
    (fun os started H enc _ => more_lifted os started H enc)
theorem CertMore_holds : Rows.CertMoreSaid := more_over
#print axioms CertMore_holds
end Go.Proofs.Ytcandekalmjfaaa
