/- The law CertOne: for every input it says true: if of 3 f + 1 nodes each that isn't one of f faulty ones prepares one body alone in a view at a Seq, two proofs of two bodies hold only if all faulty ones say both, and the primary is none of them. No condition. -/
import Derived.Test.YtcandekalmjfaaaRows
import Derived.Test.YtcandekalmjfaaaAlUd
set_option linter.all false
namespace Go.Proofs.Ytcandekalmjfaaa
open Go.Proofs.YtcandekalmjfaaaAl Go.ChangeAt Go.RowKit
open Go.Proofs.YtcandekalmjfaaaFn
theorem own : ownKnob Try.prog.godebug = none := by kernel_rfl
theorem laidOut : laidOutB Try.prog = true := by kernel_rfl

/-! ### the parameters' types -/
abbrev ΦI (xs : List SV) : Prop := ∃ n, xs = [.int .i64 n] ∧ (Lit.int .i64 n).wf = true
theorem rdI : Rd Try.prog 3 ΦI := rd_int Try.underlying3
abbrev ΦS (xs : List SV) : Prop := ∃ s : ByteArray, xs = [.str s] ∧ s.size ≤ reachBytes
theorem rdS : Rd Try.prog 9 ΦS := rd_str Try.underlying9
abbrev ΦL (sz bytes : Nat) (Φ : List SV → Prop) (xs : List SV) : Prop := ∃ rows, xs = [.sl sz rows] ∧ (∀ row ∈ rows, Φ row) ∧ rows.length * bytes ≤ reachBytes
theorem rdLI : Rd Try.prog 22 (ΦL 1 8 ΦI) := rd_slice Try.underlying22 (by kernel_rfl) (by kernel_rfl) rfl rdI
abbrev ΦP : List SV → Prop := Pieces [ΦI, ΦI, ΦS, ΦL 1 8 ΦI]
theorem cellsI : Try.prog.cellsOf 3 = 1 := by kernel_rfl
theorem cellsS : Try.prog.cellsOf 9 = 1 := by kernel_rfl
theorem cellsLI : Try.prog.cellsOf 22 = 1 := by kernel_rfl
theorem cellsP : Try.prog.cellsOf 24 = 4 := by kernel_rfl
theorem cellsLP : Try.prog.cellsOf 27 = 1 := by kernel_rfl
theorem cellsC : Try.prog.cellsOf 40 = 3 := by kernel_rfl
theorem rdP : Rd Try.prog 24 ΦP := rd_struct Try.underlying24 ⟨rfl, rdI, by rw [cellsI], rdI, by rw [cellsI], rdS, by rw [cellsS, cellsI], rdLI, by rw [cellsP, cellsI, cellsS, cellsLI]; rfl⟩
theorem rdLP : Rd Try.prog 27 (ΦL 4 56 ΦP) := rd_slice Try.underlying27 (by kernel_rfl) (by kernel_rfl) rfl rdP
abbrev ΦC : List SV → Prop := Pieces [ΦI, ΦI, ΦL 4 56 ΦP]
theorem rdC : Rd Try.prog 40 ΦC := rd_struct Try.underlying40 ⟨rfl, rdI, by rw [cellsI], rdI, by rw [cellsI], rdLP, by rw [cellsC, cellsI, cellsLP]; rfl⟩
theorem rdLC : Rd Try.prog 28 (ΦL 3 40 ΦC) := rd_slice Try.underlying28 (by kernel_rfl) (by kernel_rfl) rfl rdC
theorem pf_of {xs : List SV} (h : ΦP xs) : ∃ p : Pf, xs = p.cells := by
  obtain ⟨_, _, rfl, ⟨a, rfl, _⟩, _, _, rfl, ⟨b, rfl, _⟩, _, _, rfl, ⟨c, rfl, _⟩, _, _, rfl, ⟨rows, rfl, hr, _⟩, rfl⟩ := h
  obtain ⟨l, rfl, _⟩ := rows_map (f := row1) (Ok := fun n => (Lit.int .i64 n).wf = true) hr
  exact ⟨⟨a, b, c, l⟩, rfl⟩
theorem ch_of {xs : List SV} (h : ΦC xs) : ∃ c : Ch, xs = c.cells := by
  obtain ⟨_, _, rfl, ⟨a, rfl, _⟩, _, _, rfl, ⟨b, rfl, _⟩, _, _, rfl, ⟨rows, rfl, hr, _⟩, rfl⟩ := h
  obtain ⟨l, rfl, _⟩ := rows_map (f := Pf.cells) (Ok := fun _ => True) (fun row hm => let ⟨p, e⟩ := pf_of (hr row hm); ⟨p, e, trivial⟩)
  exact ⟨⟨a, b, l⟩, rfl⟩

theorem rdLS : Rd Try.prog 34 (ΦL 1 16 ΦS) := rd_slice Try.underlying34 (by kernel_rfl) (by kernel_rfl) rfl rdS
def onePars : List Par := [⟨3, false, ΦI⟩, ⟨34, false, ΦL 1 16 ΦS⟩, ⟨22, false, ΦL 1 8 ΦI⟩, ⟨9, false, ΦS⟩, ⟨9, false, ΦS⟩, ⟨3, false, ΦI⟩, ⟨3, false, ΦI⟩]
theorem onePars_ok : ParsOk Try.prog onePars :=
  ⟨rdI, ⟨_, Try.underlying3, rfl⟩, by kernel_rfl, of_decide_eq_true (by kernel_rfl), rdLS, ⟨_, Try.underlying34, rfl⟩, by kernel_rfl, of_decide_eq_true (by kernel_rfl),
   rdLI, ⟨_, Try.underlying22, rfl⟩, by kernel_rfl, of_decide_eq_true (by kernel_rfl), rdS, ⟨_, Try.underlying9, rfl⟩, by kernel_rfl, of_decide_eq_true (by kernel_rfl),
   rdS, ⟨_, Try.underlying9, rfl⟩, by kernel_rfl, of_decide_eq_true (by kernel_rfl), rdI, ⟨_, Try.underlying3, rfl⟩, by kernel_rfl, of_decide_eq_true (by kernel_rfl), rdI, ⟨_, Try.underlying3, rfl⟩, by kernel_rfl, of_decide_eq_true (by kernel_rfl), trivial⟩
theorem one_lawok : LawOk Try.prog 5 onePars := by
  rintro svs ⟨_, _, rfl, ⟨f, hf, _⟩, _, _, rfl, ⟨r1, h1, hr1, hl1⟩, _, _, rfl, ⟨r2, h2, hr2, hl2⟩, _, _, rfl, ⟨a, ha, _⟩, _, _, rfl, ⟨b, hb, _⟩, _, _, rfl, ⟨sq, hsq, _⟩, _, _, rfl, ⟨v, hv, _⟩, rfl⟩
  cases hf; cases hv; cases h1; cases h2; cases ha; cases hb; cases hsq
  obtain ⟨says, rfl, _⟩ := rows_map (f := rowS) (Ok := fun s => s.size ≤ reachBytes) hr1
  obtain ⟨fs, rfl, _⟩ := rows_map (f := row1) (Ok := fun n => (Lit.int .i64 n).wf = true) hr2
  refine one_ok f says fs a b sq v ?_
  simp only [List.length_map] at hl2
  have : reachBytes ≤ 140737488351232 := by decide
  omega

set_option maxRecDepth 100000 in
theorem one_lifted (os : Os) (started : os.Started) (H : Type) (enc : TypeId × Value → H) :
    ReturnsInHanded {} Try.checked os 5 .any (Rows.certOneSpec.pre6 enc Try.prog Try.f5 Rows.certOneRow.domain false) (Rows.certOneSpec.post enc Try.prog Try.f5 false true false false) :=
  law_lifted (C := Try.checked) (ps := onePars) own started (by kernel_rfl) Try.func5
    (ChangeSpec.witness6 (enc := enc) (C := Try.checked) false ⟨#[], #[.int .i64 0, .slice none 0 0, .slice none 0 0, .string ByteArray.empty, .string ByteArray.empty, .int .i64 0, .int .i64 0], []⟩ 8 (by kernel_rfl) (by kernel_rfl) (by kernel_rfl) (by kernel_rfl))
    laidOut rfl rfl Try.underlying4 rfl
    (fun ds hds => by
      match ds, hds with
      | [_, _, _, _, _, _, _], _ => rfl) onePars_ok one_lawok
theorem one_over : Rows.certOneRow.holds Try.pinned (OpenSpec.ofChange Rows.certOneSpec) :=
  OpenClaim.holds_of_wide 5 Try.f5 rfl rfl rfl rfl rfl rfl rfl ⟨rfl, rfl, rfl, rfl, rfl⟩ rfl rfl rfl rfl rfl (by kernel_rfl) Try.func5 (by kernel_rfl)
    (of_decide_eq_true (by kernel_rfl)) (by unfold Func.isWrapper; first | (rw [if_pos (by decide +kernel)]; kernel_rfl) | (rw [if_neg (by decide +kernel)]; exact ⟨rfl, rfl⟩))
    (fun os started H enc _ => one_lifted os started H enc)
theorem CertOne_holds : Rows.CertOneSaid := one_over
#print axioms CertOne_holds
end Go.Proofs.Ytcandekalmjfaaa
