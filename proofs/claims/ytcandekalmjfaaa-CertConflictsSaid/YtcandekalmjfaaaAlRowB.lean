/- The law CertConflicts: for every input it says true: two proofs conflict just when they name the same view and number and different texts, whichever is asked first, and asking changes nothing. No condition. -/
import Derived.Test.YtcandekalmjfaaaRows
import Derived.Test.YtcandekalmjfaaaAlTd
namespace Go.Proofs.Ytcandekalmjfaaa
open Go.Proofs.YtcandekalmjfaaaAl Go.ChangeAt Go.RowKit
open Go.Proofs.YtcandekalmjfaaaFn
theorem own : ownKnob Try.prog.godebug = none := by kernel_rfl
theorem laidOut : laidOutB Try.prog = true := by kernel_rfl

/-! ### the parameters' types -/
abbrev ΦI (xs : List SV) : Prop := ∃ n, xs = [.int .i64 n] ∧ (Lit.int .i64 n).wf = true
theorem rdI : Rd Try.prog 3 ΦI := rd_int Try.underlying3
abbrev ΦS (xs : List SV) : Prop := ∃ s : ByteArray, xs = [.str s] ∧ s.size ≤ reachBytes
theorem rdS : Rd Try.prog 9 ΦS := rd_str Try.underlying9
abbrev ΦL (sz bytes : Nat) (Φ : List SV → Prop) (xs : List SV) : Prop := ∃ rows, xs = [.sl sz rows] ∧ (∀ row ∈ rows, Φ row) ∧ rows.length * bytes ≤ reachBytes
theorem rdLI : Rd Try.prog 22 (ΦL 1 8 ΦI) := rd_slice Try.underlying22 (by kernel_rfl) (by kernel_rfl) rfl rdI
abbrev ΦP : List SV → Prop := Pieces [ΦI, ΦI, ΦS, ΦL 1 8 ΦI]
theorem cellsI : Try.prog.cellsOf 3 = 1 := by kernel_rfl
theorem cellsS : Try.prog.cellsOf 9 = 1 := by kernel_rfl
theorem cellsLI : Try.prog.cellsOf 22 = 1 := by kernel_rfl
theorem cellsP : Try.prog.cellsOf 24 = 4 := by kernel_rfl
theorem rdP : Rd Try.prog 24 ΦP := rd_struct Try.underlying24 ⟨rfl, rdI, by rw [cellsI], rdI, by rw [cellsI], rdS, by rw [cellsS, cellsI], rdLI, by rw [cellsP, cellsI, cellsS, cellsLI]; rfl⟩
theorem pf_of {xs : List SV} (h : ΦP xs) : ∃ p : Pf, xs = p.cells ∧ p.from_.length * 8 ≤ reachBytes := by
  obtain ⟨_, _, rfl, ⟨a, rfl, _⟩, _, _, rfl, ⟨b, rfl, _⟩, _, _, rfl, ⟨c, rfl, _⟩, _, _, rfl, ⟨rows, rfl, hr, hl⟩, rfl⟩ := h
  obtain ⟨l, rfl, _⟩ := rows_map (f := row1) (Ok := fun n => (Lit.int .i64 n).wf = true) hr
  exact ⟨⟨a, b, c, l⟩, rfl, by simpa using hl⟩

def conflictsPars : List Par := [⟨24, true, ΦP⟩, ⟨24, true, ΦP⟩]
theorem conflictsPars_ok : ParsOk Try.prog conflictsPars :=
  ⟨rdP, ⟨_, Try.underlying24, rfl⟩, by kernel_rfl, of_decide_eq_true (by kernel_rfl), rdP, ⟨_, Try.underlying24, rfl⟩, by kernel_rfl, of_decide_eq_true (by kernel_rfl), trivial⟩
theorem conflicts_law : LawOk Try.prog 4 conflictsPars := by
  rintro svs ⟨_, _, rfl, ⟨xs, rfl, hp⟩, _, _, rfl, ⟨ys, rfl, hq⟩, rfl⟩
  obtain ⟨p, rfl, h1⟩ := pf_of hp
  obtain ⟨q, rfl, _⟩ := pf_of hq
  exact conflicts_ok p q (Nat.le_trans h1 (by decide))

set_option maxRecDepth 100000 in
theorem conflicts_lifted (os : Os) (started : os.Started) (H : Type) (enc : TypeId × Value → H) :
    ReturnsInHanded {} Try.checked os 4 .any (Rows.certConflictsSpec.pre6 enc Try.prog Try.f4 Rows.certConflictsRow.domain false) (Rows.certConflictsSpec.post enc Try.prog Try.f4 false true false false) :=
  law_lifted (C := Try.checked) (ps := conflictsPars) own started (by kernel_rfl) Try.func4
    (ChangeSpec.witness6 (enc := enc) (C := Try.checked) false ⟨#[], #[.agg #[.int .i64 0, .int .i64 0, .string ByteArray.empty, .slice none 0 0], .agg #[.int .i64 0, .int .i64 0, .string ByteArray.empty, .slice none 0 0]], []⟩ 8 (by kernel_rfl) (by kernel_rfl) (by kernel_rfl) (by kernel_rfl))
    laidOut rfl rfl Try.underlying4 rfl
    (fun ds hds => by
      match ds, hds with
      | [_, _], _ => rfl) conflictsPars_ok conflicts_law
theorem conflicts_over : Rows.certConflictsRow.holds Try.pinned (OpenSpec.ofChange Rows.certConflictsSpec) :=
  OpenClaim.holds_of_wide 4 Try.f4 rfl rfl rfl rfl rfl rfl rfl ⟨rfl, rfl, rfl, rfl, rfl⟩ rfl rfl rfl rfl rfl (by kernel_rfl) Try.func4 (by kernel_rfl)
    (of_decide_eq_true (by kernel_rfl)) (by unfold Func.isWrapper; first | (rw [if_pos (by decide +kernel)]; kernel_rfl) | (rw [if_neg (by decide +kernel)]; exact ⟨rfl, rfl⟩))
    (fun os started H enc _ => conflicts_lifted os started H enc)
theorem CertConflicts_holds : Rows.CertConflictsSaid := conflicts_over
#print axioms CertConflicts_holds
end Go.Proofs.Ytcandekalmjfaaa
