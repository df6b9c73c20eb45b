/- The law CertLater: for every input it says true: a proof that holds ahead of a view holds ahead of a later one, and of none that isn't above its own. No condition. -/
import Derived.Test.YtcandekalmjfaaaRows
import Derived.Test.YtcandekalmjfaaaAlTc
namespace Go.Proofs.Ytcandekalmjfaaa
open Go.Proofs.YtcandekalmjfaaaAl Go.ChangeAt Go.RowKit
open Go.Proofs.YtcandekalmjfaaaFn
theorem own : ownKnob Try.prog.godebug = none := by kernel_rfl
theorem laidOut : laidOutB Try.prog = true := by kernel_rfl

/-! ### the parameters' types -/
abbrev ΦI (xs : List SV) : Prop := ∃ n, xs = [.int .i64 n] ∧ (Lit.int .i64 n).wf = true
theorem rdI : Rd Try.prog 3 ΦI := rd_int Try.underlying3
abbrev ΦS (xs : List SV) : Prop := ∃ s : ByteArray, xs = [.str s] ∧ s.size ≤ reachBytes
theorem rdS : Rd Try.prog 9 ΦS := rd_str Try.underlying9
abbrev ΦL (sz bytes : Nat) (Φ : List SV → Prop) (xs : List SV) : Prop := ∃ rows, xs = [.sl sz rows] ∧ (∀ row ∈ rows, Φ row) ∧ rows.length * bytes ≤ reachBytes
theorem rdLI : Rd Try.prog 22 (ΦL 1 8 ΦI) := rd_slice Try.underlying22 (by kernel_rfl) (by kernel_rfl) rfl rdI
abbrev ΦP : List SV → Prop := Pieces [ΦI, ΦI, ΦS, ΦL 1 8 ΦI]
theorem cellsI : Try.prog.cellsOf 3 = 1 := by kernel_rfl
theorem cellsS : Try.prog.cellsOf 9 = 1 := by kernel_rfl
theorem cellsLI : Try.prog.cellsOf 22 = 1 := by kernel_rfl
theorem cellsP : Try.prog.cellsOf 24 = 4 := by kernel_rfl
theorem rdP : Rd Try.prog 24 ΦP := rd_struct Try.underlying24 ⟨rfl, rdI, by rw [cellsI], rdI, by rw [cellsI], rdS, by rw [cellsS, cellsI], rdLI, by rw [cellsP, cellsI, cellsS, cellsLI]; rfl⟩
theorem pf_of {xs : List SV} (h : ΦP xs) : ∃ p : Pf, xs = p.cells := by
  obtain ⟨_, _, rfl, ⟨a, rfl, _⟩, _, _, rfl, ⟨b, rfl, _⟩, _, _, rfl, ⟨c, rfl, _⟩, _, _, rfl, ⟨rows, rfl, hr, _⟩, rfl⟩ := h
  obtain ⟨l, rfl, _⟩ := rows_map (f := row1) (Ok := fun n => (Lit.int .i64 n).wf = true) hr
  exact ⟨⟨a, b, c, l⟩, rfl⟩

def laterPars : List Par := [⟨3, false, ΦI⟩, ⟨24, true, ΦP⟩, ⟨3, false, ΦI⟩, ⟨3, false, ΦI⟩]
theorem laterPars_ok : ParsOk Try.prog laterPars :=
  ⟨rdI, ⟨_, Try.underlying3, rfl⟩, by kernel_rfl, of_decide_eq_true (by kernel_rfl), rdP, ⟨_, Try.underlying24, rfl⟩, by kernel_rfl, of_decide_eq_true (by kernel_rfl),
   rdI, ⟨_, Try.underlying3, rfl⟩, by kernel_rfl, of_decide_eq_true (by kernel_rfl), rdI, ⟨_, Try.underlying3, rfl⟩, by kernel_rfl, of_decide_eq_true (by kernel_rfl), trivial⟩
theorem later_law : LawOk Try.prog 3 laterPars := by
  rintro svs ⟨_, _, rfl, ⟨f, hf, _⟩, _, _, rfl, ⟨xs, rfl, hp⟩, _, _, rfl, ⟨v, hv, _⟩, _, _, rfl, ⟨m, hm, _⟩, rfl⟩
  cases hf; cases hv; cases hm
  obtain ⟨p, rfl⟩ := pf_of hp
  exact later_ok f p v m

set_option maxRecDepth 100000 in
theorem later_lifted (os : Os) (started : os.Started) (H : Type) (enc : TypeId × Value → H) :
    ReturnsInHanded {} Try.checked os 3 .any (Rows.certLaterSpec.pre6 enc Try.prog Try.f3 Rows.certLaterRow.domain false) (Rows.certLaterSpec.post enc Try.prog Try.f3 false true false false) :=
  law_lifted (C := Try.checked) (ps := laterPars) own started (by kernel_rfl) Try.func3
    (ChangeSpec.witness6 (enc := enc) (C := Try.checked) false ⟨#[], #[.int .i64 0, .agg #[.int .i64 0, .int .i64 0, .string ByteArray.empty, .slice none 0 0], .int .i64 0, .int .i64 0], []⟩ 8 (by kernel_rfl) (by kernel_rfl) (by kernel_rfl) (by kernel_rfl))
    laidOut rfl rfl Try.underlying4 rfl
    (fun ds hds => by
      match ds, hds with
      | [_, _, _, _], _ => rfl) laterPars_ok later_law
theorem later_over : Rows.certLaterRow.holds Try.pinned (OpenSpec.ofChange Rows.certLaterSpec) :=
  OpenClaim.holds_of_wide 3 Try.f3 rfl rfl rfl rfl rfl rfl rfl ⟨rfl, rfl, rfl, rfl, rfl⟩ rfl rfl rfl rfl rfl (by kernel_rfl) Try.func3 (by kernel_rfl)
    (of_decide_eq_true (by kernel_rfl)) (by unfold Func.isWrapper; first | (rw [if_pos (by decide +kernel)]; kernel_rfl) | (rw [if_neg (by decide +kernel)]; exact ⟨rfl, rfl⟩))
    (fun os started H enc _ => later_lifted os started H enc)
theorem CertLater_holds : Rows.CertLaterSaid := later_over
#print axioms CertLater_holds
end Go.Proofs.Ytcandekalmjfaaa
