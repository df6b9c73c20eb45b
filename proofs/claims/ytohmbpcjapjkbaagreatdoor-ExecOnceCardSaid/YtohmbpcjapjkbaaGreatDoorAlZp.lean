/- The A-logic: calls that are handed objects by name (facts of the laid memory among them), and leave them as they are. -/
import Derived.Test.YtohmbpcjapjkbaaGreatDoorAlZo
set_option linter.all false
namespace Go.Proofs.YtohmbpcjapjkbaaGreatDoorAl
section
variable {P : Program} {ops : Array Oper} {j : Nat} {l : List Oper} {q : S → Prop} {s : S} {N n : Nat} {t : Tm} {h : Heap} {Q : Exit → S → Prop} {L : Lay}
variable {d : Nat} {ty : TypeId} {pos : String} {af : Array Edge} {g : Option (Nat × Bool)}
theorem st_callK {fo : Operand} {args : Array Operand} {ts : Array TypeId} {f m : Nat} {args0 ys : List AV} {h0 : Heap} {x : AV} (nl : List Nat) (hc : ACalls P f m args0 h0 fun r h' => r = x ∧ h' = h0) (hb : HasBody P f)
    (hargs : callT t fo args.toList = some (f, ys)) (hm : nl.length = m) (hy : renL (nam nl n) args0 = ys)
    (hb0 : (belL m args0 && belH m h0 && okNames n nl && x.bel m && covers h0 m) = true) (hxr : x.ren (nam nl n) = x) (hh : Sub (renH (nam nl n) h0) h)
    (k : OpsL P ops (j + 1) l ⟨N, n, (d, x) :: t, h⟩ q) : OpG P ops j ⟨some d, .call ⟨.value fo, args, ts⟩, ty, pos, af, g⟩ l ⟨N, n, t, h⟩ q := by
  subst hm
  simp only [Bool.and_eq_true] at hb0
  obtain ⟨⟨⟨⟨b1, b2⟩, b3⟩, b4⟩, b5⟩ := hb0
  refine st_call nl nl.length hc hb (by rw [hy]; exact hargs) (by simp [b1, b2, b3]) hh ?_
  rintro r h' ⟨rfl, rfl⟩
  refine ⟨by simp [b4, b2], ?_⟩
  rw [hxr, Nat.sub_self, Nat.add_zero]
  refine OpsL.same (fun id => ?_) k
  rw [look_app_eq, look_delAll']
  by_cases hid : id ∈ nl
  · obtain ⟨i, hi, e⟩ := List.getElem_of_mem hid
    have hn : nam nl n i = id := by rw [nam_old hi, List.getD_eq_getElem?_getD, List.getElem?_eq_getElem hi]; exact e
    have hl : look (renH (nam nl n) h') id = (look h' i).map (·.ren (nam nl n)) := by rw [← hn]; exact look_renH b3 i
    have hs : ∃ o, look h' i = some o := by
      have := b5
      simp only [covers, List.all_eq_true] at this
      exact Option.isSome_iff_exists.1 (this i (List.mem_range.2 hi))
    obtain ⟨o, ho⟩ := hs
    rw [hl, ho]
    simp only [Option.map_some]
    have := hh.look id (o.ren (nam nl n)) (by rw [hl, ho]; rfl)
    exact this
  · have hnone : look (renH (nam nl n) h') id = none := by
      cases e : look (renH (nam nl n) h') id with
      | none => rfl
      | some o =>
        obtain ⟨i, o', h1, h2⟩ := look_renH_inv e
        obtain ⟨h3, _⟩ := belH_look b2 i o' h1
        rw [nam_old h3, List.getD_eq_getElem?_getD, List.getElem?_eq_getElem h3] at h2
        exact absurd (by rw [h2]; exact List.getElem_mem h3) hid
    rw [hnone, if_neg hid]
end
end Go.Proofs.YtohmbpcjapjkbaaGreatDoorAl
