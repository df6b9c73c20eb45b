/- The law ChooseTwice: for every input it says true: changes that stand twice choose what they choose once. No condition. -/
import Derived.Test.YtcandekalmjfaaaRows
import Derived.Test.YtcandekalmjfaaaAlVd
set_option linter.all false
namespace Go.Proofs.Ytcandekalmjfaaa
open Go.Proofs.YtcandekalmjfaaaAl Go.ChangeAt Go.RowKit
open Go.Proofs.YtcandekalmjfaaaFn
theorem own : ownKnob Try.prog.godebug = none := by kernel_rfl
theorem laidOut : laidOutB Try.prog = true := by kernel_rfl

/-! ### the parameters' types -/
abbrev ΦI (xs : List SV) : Prop := ∃ n, xs = [.int .i64 n] ∧ (Lit.int .i64 n).wf = true
theorem rdI : Rd Try.prog 3 ΦI := rd_int Try.underlying3
abbrev ΦS (xs : List SV) : Prop := ∃ s : ByteArray, xs = [.str s] ∧ s.size ≤ reachBytes
theorem rdS : Rd Try.prog 9 ΦS := rd_str Try.underlying9
abbrev ΦL (sz bytes : Nat) (Φ : List SV → Prop) (xs : List SV) : Prop := ∃ rows, xs = [.sl sz rows] ∧ (∀ row ∈ rows, Φ row) ∧ rows.length * bytes ≤ reachBytes
theorem rdLI : Rd Try.prog 22 (ΦL 1 8 ΦI) := rd_slice Try.underlying22 (by kernel_rfl) (by kernel_rfl) rfl rdI
abbrev ΦP : List SV → Prop := Pieces [ΦI, ΦI, ΦS, ΦL 1 8 ΦI]
theorem cellsI : Try.prog.cellsOf 3 = 1 := by kernel_rfl
theorem cellsS : Try.prog.cellsOf 9 = 1 := by kernel_rfl
theorem cellsLI : Try.prog.cellsOf 22 = 1 := by kernel_rfl
theorem cellsP : Try.prog.cellsOf 24 = 4 := by kernel_rfl
theorem cellsLP : Try.prog.cellsOf 27 = 1 := by kernel_rfl
theorem cellsC : Try.prog.cellsOf 40 = 3 := by kernel_rfl
theorem rdP : Rd Try.prog 24 ΦP := rd_struct Try.underlying24 ⟨rfl, rdI, by rw [cellsI], rdI, by rw [cellsI], rdS, by rw [cellsS, cellsI], rdLI, by rw [cellsP, cellsI, cellsS, cellsLI]; rfl⟩
theorem rdLP : Rd Try.prog 27 (ΦL 4 56 ΦP) := rd_slice Try.underlying27 (by kernel_rfl) (by kernel_rfl) rfl rdP
abbrev ΦC : List SV → Prop := Pieces [ΦI, ΦI, ΦL 4 56 ΦP]
theorem rdC : Rd Try.prog 40 ΦC := rd_struct Try.underlying40 ⟨rfl, rdI, by rw [cellsI], rdI, by rw [cellsI], rdLP, by rw [cellsC, cellsI, cellsLP]; rfl⟩
theorem rdLC : Rd Try.prog 28 (ΦL 3 40 ΦC) := rd_slice Try.underlying28 (by kernel_rfl) (by kernel_rfl) rfl rdC
theorem pf_of {xs : List SV} (h : ΦP xs) : ∃ p : Pf, xs = p.cells := by
  obtain ⟨_, _, rfl, ⟨a, rfl, _⟩, _, _, rfl, ⟨b, rfl, _⟩, _, _, rfl, ⟨c, rfl, _⟩, _, _, rfl, ⟨rows, rfl, hr, _⟩, rfl⟩ := h
  obtain ⟨l, rfl, _⟩ := rows_map (f := row1) (Ok := fun n => (Lit.int .i64 n).wf = true) hr
  exact ⟨⟨a, b, c, l⟩, rfl⟩
theorem ch_of {xs : List SV} (h : ΦC xs) : ∃ c : Ch, xs = c.cells := by
  obtain ⟨_, _, rfl, ⟨a, rfl, _⟩, _, _, rfl, ⟨b, rfl, _⟩, _, _, rfl, ⟨rows, rfl, hr, _⟩, rfl⟩ := h
  obtain ⟨l, rfl, _⟩ := rows_map (f := Pf.cells) (Ok := fun _ => True) (fun row hm => let ⟨p, e⟩ := pf_of (hr row hm); ⟨p, e, trivial⟩)
  exact ⟨⟨a, b, l⟩, rfl⟩

theorem rdLS : Rd Try.prog 34 (ΦL 1 16 ΦS) := rd_slice Try.underlying34 (by kernel_rfl) (by kernel_rfl) rfl rdS
def pars : List Par := [⟨28, false, ΦL 3 40 ΦC⟩]
theorem pars_ok : ParsOk Try.prog pars :=
  ⟨rdLC, ⟨_, Try.underlying28, rfl⟩, by kernel_rfl, of_decide_eq_true (by kernel_rfl), trivial⟩
theorem law_ok : LawOk Try.prog 9 pars := by
  rintro svs ⟨_, _, rfl, ⟨r0, h0, hr0, hl0⟩, rfl⟩
  cases h0
  obtain ⟨x0, rfl, _⟩ := rows_map (f := Ch.cells) (Ok := fun _ => True) (fun row hm => let ⟨p, e⟩ := ch_of (hr0 row hm); ⟨p, e, trivial⟩)
  simp only [List.length_map] at hl0
  have hreach : reachBytes ≤ 140737488351232 := by decide
  exact twice_ok x0 (by omega)
set_option maxRecDepth 100000 in
theorem law_lift (os : Os) (started : os.Started) (H : Type) (enc : TypeId × Value → H) :
    ReturnsInHanded {} Try.checked os 9 .any (Rows.chooseTwiceSpec.pre6 enc Try.prog Try.f9 Rows.chooseTwiceRow.domain false) (Rows.chooseTwiceSpec.post enc Try.prog Try.f9 false true false false) :=
  law_lifted (C := Try.checked) (ps := pars) own started (by kernel_rfl) Try.func9
    (ChangeSpec.witness6 (enc := enc) (C := Try.checked) false ⟨#[], #[.slice none 0 0], []⟩ 8 (by kernel_rfl) (by kernel_rfl) (by kernel_rfl) (by kernel_rfl))
    laidOut rfl rfl Try.underlying4 rfl
    (fun ds hds => by
      match ds, hds with
      | [_], _ => rfl) pars_ok law_ok
theorem law_over : Rows.chooseTwiceRow.holds Try.pinned (OpenSpec.ofChange Rows.chooseTwiceSpec) :=
  OpenClaim.holds_of_wide 9 Try.f9 rfl rfl rfl rfl rfl rfl rfl ⟨rfl, rfl, rfl, rfl, rfl⟩ rfl rfl rfl rfl rfl (by kernel_rfl) Try.func9 (by kernel_rfl)
    (of_decide_eq_true (by kernel_rfl)) (by unfold Func.isWrapper; first | (rw [if_pos (by decide +kernel)]; kernel_rfl) | (rw [if_neg (by decide +kernel)]; exact ⟨rfl, rfl⟩))
    (fun os started H enc _ => law_lift os started H enc)
theorem ChooseTwice_holds : Rows.ChooseTwiceSaid := law_over
#print axioms ChooseTwice_holds
end Go.Proofs.Ytcandekalmjfaaa
