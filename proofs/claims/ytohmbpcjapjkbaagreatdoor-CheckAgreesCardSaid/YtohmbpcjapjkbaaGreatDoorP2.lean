/- The law CheckAgrees: for every input it says true: whether any rows of texts agree, the first one that does not, and the longest of them. No condition. -/
import Derived.Test.YtohmbpcjapjkbaaGreatDoorP1
import Derived.Test.YtohmbpcjapjkbaaGreatDoorRows
import Derived.Test.YtohmbpcjapjkbaaGreatDoorTie
import Derived.Test.YtohmbpcjapjkbaaGreatDoorCards
set_option linter.all false
namespace Go.Proofs.YtohmbpcjapjkbaaGreatDoor
open Go.Proofs.YtohmbpcjapjkbaaGreatDoorAl Go.ChangeAt Go.RowKit
open Go.Proofs.YtohmbpcjapjkbaaGreatDoorFn
theorem own : ownKnob Tryz.prog.godebug = none := by kernel_rfl
theorem laidOut : laidOutB Tryz.prog = true := by kernel_rfl
def pars : List Par := [⟨72, false, ΦL 1 24 (ΦL 1 16 ΦS)⟩]
theorem pars_ok : ParsOk Tryz.prog pars :=
  ⟨rdLLS, ⟨_, Tryz.underlying72, rfl⟩, by kernel_rfl, of_decide_eq_true (by kernel_rfl), trivial⟩
theorem law_ok : LawOk Tryz.prog 9 pars := by
  rintro svs ⟨_, _, rfl, ⟨r0, h0, hr0, hl0⟩, rfl⟩
  cases h0
  obtain ⟨x0, rfl, hm0⟩ := rows_map (f := rowL) (Ok := fun _ => True) (fun row hm => ofL (hr0 row hm))
  simp only [List.length_map] at hl0
  have hreach : reachBytes ≤ 140737488351232 := by decide
  exact lawAgrees_ok x0
set_option maxRecDepth 100000 in
theorem law_lift (os : Os) (started : os.Started) (H : Type) (enc : TypeId × Value → H) :
    ReturnsInHanded {} Tryz.checked os 9 .any (fun w args => (Rows.checkAgreesSpec.pre enc Tryz.prog Tryz.f9 [] false w args ∧ laidMetH Tryz.prog Rows.checkAgreesRow.laid w) ∧ sizedMet enc Tryz.prog Tryz.f9 (OpenSpec.ofChange Rows.checkAgreesSpec) false w args) (Rows.checkAgreesSpec.post enc Tryz.prog Tryz.f9 false true false false) :=
  law_liftedL (C := Tryz.checked) (ps := pars) own started (by kernel_rfl) Tryz.func9
    (ChangeSpec.witness_shaped (enc := enc) (C := Tryz.checked) (os := os) (X := fun w _ => laidMetH Tryz.prog Rows.checkAgreesRow.laid w) false (World.laidAll Tryz.prog os Rows.checkAgreesRow.laid) #[.slice none 0 0] 8 (World.laidAll_os _ _ _)
      (World.shaped_of_ZipB (by kernel_rfl) (by kernel_rfl)) (by kernel_rfl) (by kernel_rfl) (by kernel_rfl)
      (by rw [MakeChecks.laidMetH_plain _ _ _ (by kernel_rfl)]; exact laidMet_laidAll _ (by kernel_rfl) (by kernel_rfl)))
    laidOut rfl rfl Tryz.underlying4 rfl
    (fun ds hds => by
      match ds, hds with
      | [_], _ => rfl) pars_ok law_ok
theorem law_over : Rows.checkAgreesRow.holds Tryz.pinned (OpenSpec.ofChange Rows.checkAgreesSpec) :=
  OpenClaim.holds_of_wide 9 Tryz.f9 rfl rfl rfl rfl rfl rfl rfl ⟨rfl, rfl, rfl, rfl, rfl⟩ rfl rfl rfl rfl rfl (by kernel_rfl) Tryz.func9 (by kernel_rfl)
    (of_decide_eq_true (by kernel_rfl)) (by unfold Func.isWrapper; first | (rw [if_pos (by decide +kernel)]; kernel_rfl) | (rw [if_neg (by decide +kernel)]; exact ⟨rfl, rfl⟩))
    (fun os started H enc _ => law_lift os started H enc)
theorem CheckAgrees_holds : Rows.CheckAgreesCardSaid :=
  Claim7.holds_tied_plain_at .later [] [.data, .pinned] true Rows.checkAgreesCard.stood.harness Rows.checkAgreesCard.stood.looks law_over (fun _ h => by cases h) (by kernel_rfl) (fun _ h => by cases h) checkAgrees_row_tie rfl ⟨rfl, rfl⟩ (by kernel_rfl) rfl
    (fun f fn hf hfn => by
      obtain rfl : f = 9 := Option.some.inj ((show Tryz.prog.funcNamed "becket/becketlaw21.CheckAgrees" = some 9 by kernel_rfl).symm.trans hf) |>.symm
      obtain rfl : fn = Tryz.f9 := (Option.some.inj (Tryz.func9.symm.trans hfn)).symm
      exact ⟨by kernel_rfl, fun j t ht => by
        have hm : t ∈ ([72] : List Nat) := by
          have e := Array.mem_of_getElem? ht
          rw [Tryz.params9] at e
          simpa using e
        have hall : (([72] : List Nat).all fun u => !Tryz.prog.wantsStandIn u) = true := by kernel_rfl
        exact (show Tryz.prog.wantsStandIn t = false by simpa using List.all_eq_true.1 hall t hm)⟩)
    (by kernel_rfl)
#print axioms CheckAgrees_holds
end Go.Proofs.YtohmbpcjapjkbaaGreatDoor
