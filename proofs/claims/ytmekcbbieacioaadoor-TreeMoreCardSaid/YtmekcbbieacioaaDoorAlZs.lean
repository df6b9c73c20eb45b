/- The A-logic: in a region that draws its order, a call that is handed an array of ours that nobody needs any more. -/
import Derived.Test.YtmekcbbieacioaaDoorAlZj
import Derived.Test.YtmekcbbieacioaaDoorAlZo
import Derived.Test.YtmekcbbieacioaaDoorAlZl
set_option linter.all false
namespace Go.Proofs.YtmekcbbieacioaaDoorAl
section
variable {P : Program} {ops : Array Oper} {q : S → Prop} {N n d : Nat} {t : Tm} {h : Heap} {ty : TypeId} {pos : String} {af : Array Edge} {g : Option (Nat × Bool)}
variable {done : List Mini} {i : Nat} {A D : List Nat} {le : List Entry} {op : Op} {F : Heap} {fn : List Nat} {x : AV}
theorem OpSpec.wk {r : Rec} {t2 : Tm} {F2 : Heap} (hw : Wk ⟨N, r.nin, r.tin, r.F⟩ ⟨N, r.nin, t2, F2⟩) (k : OpSpec P ops N { r with tin := t2, F := F2 }) : OpSpec P ops N r := fun c a hs K Qx hK => by
  obtain ⟨c1, h1, h2⟩ := hw c a hs
  have h3 : Ev c r.F c1 F2 := (Ev.refl c r.F).wk h2 (by rw [hs.n, h1.n]; exact Nat.le_refl _)
  rw [← h2.w]
  exact k c1 a h1 K Qx fun v c' u1 u2 u3 u4 => hK v c' u1 u2 (h3.trans u3) u4
theorem dwW {fp T : List Nat} {hout h' F2 : Heap} {n' : Nat} {t2 : Tm} (ho : ops[i]? = some ⟨some d, op, ty, pos, af, g⟩) (hg : gst ops g (delT D t) = some true) (hd : Nat.blt d N = true) (hfp : frc (fpX (delT D t) op) some = some fp)
    (hF : frc (keepL fp h) some = some F) (hw : Wk ⟨N, n, delT D t, F⟩ ⟨N, n, t2, F2⟩) (hg2 : gst ops g t2 = some true) (hs : OpG P #[] 0 ⟨some d, op, ty, pos, af, g⟩ [] ⟨N, n, t2, F2⟩ (fun s' => s' = ⟨N, n', (d, x) :: t2, hout⟩)) (hn : Nat.ble n n' = true)
    (hT : frc (hout.map (·.1) ++ fp) some = some T) (hm : sepB A (F.map (·.1)) x T hout done = true) (hf : frc (F.map (·.1)) some = some fn) (hh : frc (hout ++ delAll T h) some = some h')
    (k : DW P ops N q (⟨i, n, n', T, fn⟩ :: done) le ⟨N, n', (d, x) :: t, h'⟩) : DW P ops N q done ((i, A, D) :: le) ⟨N, n, t, h⟩ := by
  rw [frc_eq] at hfp hF hT hf hh; cases hfp; cases hF; cases hT; cases hf; cases hh
  refine ⟨⟨i, some d, A, delT D t, _, n, x, hout, n', _⟩, ⟨N, n', (d, x) :: t, _⟩, ⟨rfl, rfl, by simp [dstOf, ho], rfl, rfl, rfl, Nat.le_of_ble_eq_true hn, fun id o e => Sub.look (keepL_sub _ _) id o e, fun d' y e => ?_, fun id o' e => ?_, fun id hid => ?_, hd, ?_⟩, sep_all hm, k⟩
  · simp only at e
    rw [look_cons] at e
    split at e
    · rename_i h1; subst h1; cases e; exact .inl ⟨rfl, rfl⟩
    · rename_i h1; exact .inr ⟨fun e' => h1 (Option.some.inj e'), e⟩
  · simp only at e
    rw [look_app_eq] at e
    split at e
    · rename_i o hlo
      cases e
      exact .inl ⟨List.mem_append_left _ (List.mem_map_of_mem (f := (·.1)) (look_mem hlo)), hlo⟩
    · rename_i hlo
      rw [look_delAll'] at e
      split at e
      · cases e
      · rename_i h1; exact .inr ⟨h1, e⟩
  · simp only at hid ⊢
    have h1 : look hout id = none := by
      cases hlo : look hout id with
      | none => rfl
      | some o => exact absurd (List.mem_append_left _ (List.mem_map_of_mem (f := (·.1)) (look_mem hlo))) hid
    have h2 : look (keepL (fpX (delT D t) op) h) id = none := by
      cases hlo : look (keepL (fpX (delT D t) op) h) id with
      | none => rfl
      | some o =>
        have key : ∀ (is : List Nat), look (keepL is h) id = some o → id ∈ is := by
          intro is
          induction is with
          | nil => intro e; cases e
          | cons a r ih =>
            intro e
            simp only [keepL] at e
            split at e
            · rw [look_cons] at e
              split at e
              · rename_i h3; subst h3; simp
              · exact List.mem_cons_of_mem _ (ih e)
            · exact List.mem_cons_of_mem _ (ih e)
        exact absurd (List.mem_append_right _ (key _ hlo)) hid
    rw [h1, h2]
  · exact OpSpec.wk (r := ⟨i, some d, A, delT D t, _, n, x, hout, n', _⟩) hw (spec_run (r := ⟨i, some d, A, t2, F2, n, x, hout, n', hout.map (·.1) ++ fpX (delT D t) op⟩) ho hg2 hd rfl (fun d' e => by cases e; rw [look_cons, if_pos rfl]) (fun e => by cases e) hs)
/-- A call whose first argument is a slice of an array of ours: the array is frozen with it, and gone for us. -/
theorem dwA {fp T : List Nat} {hout h' : Heap} {n' : Nat} {fo : Operand} {args : Array Operand} {ts : Array TypeId} {f id kk off len : Nat} {ys : List AV} {rows : List (List SV)} {t1 t2 : Tm} {h1 h2 : Heap}
    (ho : ops[i]? = some ⟨some d, .call ⟨.value fo, args, ts⟩, ty, pos, af, g⟩) (hg : gst ops g (delT D t) = some true) (hd : Nat.blt d N = true) (hfp : frc (fpX (delT D t) (.call ⟨.value fo, args, ts⟩)) some = some fp)
    (hF : frc (keepL fp h) some = some F) (hf0 : callT (delT D t) fo args.toList = some (f, .lsl id kk off len :: ys)) (hl : look F id = some (.arr kk rows))
    (e1 : frc (keepL (keys (delT D t)) (delT D t)) some = some t1) (e2 : frc (del F id) some = some h1) (ht : occT id (whole kk rows.length) t1) (hhh : occH id (whole kk rows.length) h1) (e3 : frcT (frzT id kk rows t1) some = some t2) (e4 : frc (frzH id kk rows h1) some = some h2)
    (hg2 : gst ops g t2 = some true) (hs : OpG P #[] 0 ⟨some d, .call ⟨.value fo, args, ts⟩, ty, pos, af, g⟩ [] ⟨N, n, t2, h2⟩ (fun s' => s' = ⟨N, n', (d, x) :: t2, hout⟩)) (hn : Nat.ble n n' = true)
    (hT : frc (hout.map (·.1) ++ fp) some = some T) (hm : sepB A (F.map (·.1)) x T hout done = true) (hf : frc (F.map (·.1)) some = some fn) (hh : frc (hout ++ delAll T h) some = some h')
    (k : DW P ops N q (⟨i, n, n', T, fn⟩ :: done) le ⟨N, n', (d, x) :: t, h'⟩) : DW P ops N q done ((i, A, D) :: le) ⟨N, n, t, h⟩ := by
  rw [frc_eq] at e1 e2 e4; rw [frcT_eq] at e3; cases e1; cases e2; cases e3; cases e4
  exact dwW ho hg hd hfp hF (Wk.frz id (keys (delT D t)) hl rfl rfl ht hhh rfl rfl) hg2 hs hn hT hm hf hh k
end
end Go.Proofs.YtmekcbbieacioaaDoorAl
