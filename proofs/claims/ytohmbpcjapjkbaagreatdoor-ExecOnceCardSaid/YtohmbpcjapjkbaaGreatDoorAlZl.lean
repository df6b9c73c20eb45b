/- The A-logic: objects of the end that nobody asks for. -/
import Derived.Test.YtohmbpcjapjkbaaGreatDoorAlZk
set_option linter.all false
namespace Go.Proofs.YtohmbpcjapjkbaaGreatDoorAl
theorem HRel.sub {c : Cfg} {h h' : Heap} (hr : HRel c h) (hs : Sub h' h) : HRel c h' :=
  ⟨fun i o e => hr.lt i o (hs.look i o e), fun i o e => hr.blk i o (hs.look i o e), fun i o e => hr.own i o (hs.look i o e), fun i o e => hr.rel i o (hs.look i o e),
    fun i j o o' e r e' r' => hr.inj i j o o' (hs.look i o e) r (hs.look j o' e') r', hr.st, fun i b o e => hr.fact i b o (hs.look i _ e)⟩
theorem Ev.sub {c c' : Cfg} {h h' h'' : Heap} (hr : Ev c h c' h') (hs : Sub h'' h') : Ev c h c' h'' :=
  ⟨hr.go, hr.os, hr.tape, hr.output, hr.size, hr.frame, hr.new, fun i o e => hr.objs i o (hs.look i o e)⟩
theorem ACalls.drop {P : Program} {f m : Nat} {args : List AV} {h : Heap} {R R' : AV → Heap → Prop} (k : ACalls P f m args h R) (hr : ∀ r h', R r h' → ∃ h2, Sub h2 h' ∧ R' r h2) : ACalls P f m args h R' :=
  fun c vals h1 h2 h3 => (k c vals h1 h2 h3).mono fun _ _ ⟨r, h', c', v, a, e1, e2, e3, e4, e5⟩ =>
    let ⟨h2', s, b⟩ := hr r h' a
    ⟨r, h2', c', v, b, e1, e2, e3, e4.sub s, e5.sub s⟩
/-- The first m objects are all that is asked for. -/
theorem ACalls.drop1 {P : Program} {f m : Nat} {args : List AV} {h : Heap} {x : AV} {h1 h2 : Heap} (hs : Sub h2 h1) (k : ACalls P f m args h fun r h' => r = x ∧ h' = h1) : ACalls P f m args h fun r h' => r = x ∧ h' = h2 :=
  k.drop fun _ _ ⟨a, b⟩ => ⟨h2, by rw [b]; exact hs, a, rfl⟩
/-- The object that a store touches. -/
def fpS (t : Tm) : Op → List Nat
  | .store _ x _ => match evT t x with
    | some (.ptr id _) => [id]
    | some (.eptr id _ _ _) => [id]
    | _ => []
  | _ => []
section
variable {P : Program} {ops : Array Oper} {q : S → Prop} {N n : Nat} {t : Tm} {h : Heap} {L : Lay} {ty : TypeId} {pos : String} {af : Array Edge} {g : Option (Nat × Bool)}
variable {done : List Mini} {i : Nat} {A D : List Nat} {le : List Entry} {op : Op} {F : Heap} {fn : List Nat}
/-- A store into a variable of ours, in a region that draws its order. -/
theorem dwu {fp T : List Nat} {hout h' : Heap} (hL : LayOk P L) (ho : ops[i]? = some ⟨none, op, ty, pos, af, g⟩) (hg : gst ops g (delT D t) = some true) (hfp : frc (fpS (delT D t) op) some = some fp)
    (hF : frc (keepL fp h) some = some F) (hr : opU L (delT D t) F op = some hout)
    (hT : frc (hout.map (·.1) ++ fp) some = some T) (hm : sepB A (F.map (·.1)) .top T hout done = true) (hf : frc (F.map (·.1)) some = some fn) (hh : frc (hout ++ delAll T h) some = some h')
    (k : DW P ops N q (⟨i, n, n, T, fn⟩ :: done) le ⟨N, n, t, h'⟩) : DW P ops N q done ((i, A, D) :: le) ⟨N, n, t, h⟩ := by
  rw [frc_eq] at hfp hF hT hf hh; cases hfp; cases hF; cases hT; cases hf; cases hh
  have hs : OpG P #[] 0 ⟨none, op, ty, pos, af, g⟩ [] ⟨N, n, delT D t, keepL (fpS (delT D t) op) h⟩ (fun s' => s' = ⟨N, n, delT D t, hout⟩) := opU_ok hL hr (fin rfl)
  refine ⟨⟨i, none, A, delT D t, _, n, .top, hout, n, _⟩, ⟨N, n, t, hout ++ delAll (hout.map (·.1) ++ fpS (delT D t) op) h⟩, ⟨rfl, rfl, by simp [dstOf, ho], rfl, rfl, rfl, Nat.le_refl _, fun id o e => Sub.look (keepL_sub _ _) id o e, fun d' y e => .inr ⟨fun e' => (by cases e'), e⟩, fun id o' e => ?_, fun id hid => ?_, rfl, ?_⟩, sep_all hm, k⟩
  · simp only at e
    rw [look_app_eq] at e
    split at e
    · rename_i o hlo
      cases e
      exact .inl ⟨List.mem_append_left _ (List.mem_map_of_mem (f := (·.1)) (look_mem hlo)), hlo⟩
    · rename_i hlo
      rw [look_delAll'] at e
      split at e
      · cases e
      · rename_i h1; exact .inr ⟨h1, e⟩
  · simp only at hid ⊢
    have h1 : look hout id = none := by
      cases hlo : look hout id with
      | none => rfl
      | some o => exact absurd (List.mem_append_left _ (List.mem_map_of_mem (f := (·.1)) (look_mem hlo))) hid
    have h2 : look (keepL (fpS (delT D t) op) h) id = none := by
      cases hlo : look (keepL (fpS (delT D t) op) h) id with
      | none => rfl
      | some o =>
        have key : ∀ (is : List Nat), look (keepL is h) id = some o → id ∈ is := by
          intro is
          induction is with
          | nil => intro e; cases e
          | cons a r ih =>
            intro e
            simp only [keepL] at e
            split at e
            · rw [look_cons] at e
              split at e
              · rename_i h3; subst h3; simp
              · exact List.mem_cons_of_mem _ (ih e)
            · exact List.mem_cons_of_mem _ (ih e)
        exact absurd (List.mem_append_right _ (key _ hlo)) hid
    rw [h1, h2]
  · exact spec_run (r := ⟨i, none, A, delT D t, _, n, .top, hout, n, _⟩) ho hg rfl rfl (fun d' e => by cases e) (fun _ => rfl) hs
end
end Go.Proofs.YtohmbpcjapjkbaaGreatDoorAl
