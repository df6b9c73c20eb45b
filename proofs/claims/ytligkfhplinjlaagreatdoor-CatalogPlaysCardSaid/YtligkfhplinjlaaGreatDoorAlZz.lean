/- The A-logic: nil tests of slices of ours. -/
import Derived.Test.YtligkfhplinjlaaGreatDoorAlZx
set_option linter.all false
namespace Go.Proofs.YtligkfhplinjlaaGreatDoorAl
section
variable {P : Program} {ops : Array Oper} {j : Nat} {l : List Oper} {q : S → Prop} {s : S} {N n : Nat} {t : Tm} {h : Heap} {Q : Exit → S → Prop} {L : Lay}
variable {d : Nat} {op : Op} {ty : TypeId} {pos : String} {af : Array Edge} {g : Option (Nat × Bool)}
/-- Is a slice of ours nil? Nobody knows: if it is, it has no rows. -/
theorem st_nilLs {op : BinOp} {t1 t2 e sz bytes id kk off len : Nat} {x : Operand} {i : TI} (hL : LayOk P L) (hx : evT t x = some (.lsl id kk off len)) (ht : look L t1 = some i) (hk : i.k = .slice e sz bytes) (ho : (match op with | .eql => true | .neq => true | _ => false) = true)
    (k : ∀ b : Bool, (b = true → len = 0) → OpsL P ops (j + 1) l ⟨N, n, (d, .st (.bool (nilR op b))) :: t, h⟩ q) :
    OpG P ops j ⟨some d, .binOp op t1 x (.const (.slice none 0 0)) t2, ty, pos, af, g⟩ l ⟨N, n, t, h⟩ q := by
  refine OpOk.intro fun c a hs => ?_
  have hv := S.ev_val hs (x := x) (by rw [evT_eq]; exact hx)
  obtain ⟨dd, _, _, g1, _, g3, _⟩ := tiOf_parts (hL t1 i ht)
  rw [hk] at g3
  obtain ⟨g4, _⟩ := tk_inv g3
  subst g4
  generalize hp : a.eval x = p at hv
  have key : ∃ b : Bool, (b = true → len = 0) ∧ (execOp a.eval ⟨some d, .binOp op t1 x (.const (.slice none 0 0)) t2, ty, pos, af, g⟩).run P c.w = .ok (.value (.bool (nilR op b))) c.w := by
    have hrun : ∀ (ad : Option Addr) (m cap : Nat), (Op.equal t1 (.slice ad m cap) (.slice none 0 0)).run P c.w = .ok ad.isNone c.w := by
      intro ad m cap
      refine eq_run fun n => ?_
      cases ad <;> simp [Op.equalIn, run_underlying g1]
    have hg : ∀ (v : Value), (eqGuard op t1 x (.const (.slice none 0 0)) v (.slice none 0 0)).run P c.w = .ok () c.w := fun v => by
      unfold eqGuard; cases op <;> simp
    have fin : ∀ (ad : Option Addr) (m cap : Nat), p = .slice ad m cap → (execOp a.eval ⟨some d, .binOp op t1 x (.const (.slice none 0 0)) t2, ty, pos, af, g⟩).run P c.w = .ok (.value (.bool (nilR op ad.isNone))) c.w := by
      intro ad m cap e
      subst e
      have hcv : a.eval (.const (.slice none 0 0)) = .slice none 0 0 := rfl
      simp only [execOp, hp, hcv]
      cases op <;> first | cases ho | skip
      · simp [hg, binOp, hrun, nilR]
      · simp [hg, binOp, hrun, nilR]
    cases hv with
    | lsl0 _ _ ad _ => exact ⟨ad.isNone, fun _ => rfl, fin _ _ _ rfl⟩
    | lsl _ _ _ _ cap T size _ _ _ _ => exact ⟨false, fun e => (by cases e), fin _ _ _ rfl⟩
    | lslr _ _ cap T size _ _ _ => exact ⟨false, fun e => (by cases e), fin _ _ _ rfl⟩
  obtain ⟨b, hb, hrun⟩ := key
  exact ⟨_, h, n, _, c, hrun, k b hb, .refl _ _, hs.n, hs.h, .st _ _ (.bool _)⟩
variable {done : List Mini} {i : Nat} {A D : List Nat} {le : List Entry} {x : AV} {F : Heap} {fn : List Nat}
/-- Any operation: which objects it touches is said, and what becomes of them. -/
theorem dwG (fp : List Nat) {T : List Nat} {hout h' : Heap} {n' : Nat} (ho : ops[i]? = some ⟨some d, op, ty, pos, af, g⟩) (hg : gst ops g (delT D t) = some true) (hd : Nat.blt d N = true)
    (hF : frc (keepL fp h) some = some F) (hs : OpG P #[] 0 ⟨some d, op, ty, pos, af, g⟩ [] ⟨N, n, delT D t, F⟩ (fun s' => s' = ⟨N, n', (d, x) :: delT D t, hout⟩)) (hn : Nat.ble n n' = true)
    (hT : frc (hout.map (·.1) ++ fp) some = some T) (hm : sepB A (F.map (·.1)) x T hout done = true) (hf : frc (F.map (·.1)) some = some fn) (hh : frc (hout ++ delAll T h) some = some h')
    (k : DW P ops N q (⟨i, n, n', T, fn⟩ :: done) le ⟨N, n', (d, x) :: t, h'⟩) : DW P ops N q done ((i, A, D) :: le) ⟨N, n, t, h⟩ := by
  rw [frc_eq] at hF hT hf hh; cases hF; cases hT; cases hf; cases hh
  refine ⟨⟨i, some d, A, delT D t, _, n, x, hout, n', _⟩, ⟨N, n', (d, x) :: t, _⟩, ⟨rfl, rfl, by simp [dstOf, ho], rfl, rfl, rfl, Nat.le_of_ble_eq_true hn, fun id o e => Sub.look (keepL_sub _ _) id o e, fun d' y e => ?_, fun id o' e => ?_, fun id hid => ?_, hd, ?_⟩, sep_all hm, k⟩
  · simp only at e
    rw [look_cons] at e
    split at e
    · rename_i h1; subst h1; cases e; exact .inl ⟨rfl, rfl⟩
    · rename_i h1; exact .inr ⟨fun e' => h1 (Option.some.inj e'), e⟩
  · simp only at e
    rw [look_app_eq] at e
    split at e
    · rename_i o hlo
      cases e
      exact .inl ⟨List.mem_append_left _ (List.mem_map_of_mem (f := (·.1)) (look_mem hlo)), hlo⟩
    · rename_i hlo
      rw [look_delAll'] at e
      split at e
      · cases e
      · rename_i h1; exact .inr ⟨h1, e⟩
  · simp only at hid ⊢
    have h1 : look hout id = none := by
      cases hlo : look hout id with
      | none => rfl
      | some o => exact absurd (List.mem_append_left _ (List.mem_map_of_mem (f := (·.1)) (look_mem hlo))) hid
    have h2 : look (keepL fp h) id = none := by
      cases hlo : look (keepL fp h) id with
      | none => rfl
      | some o =>
        have key : ∀ (is : List Nat), look (keepL is h) id = some o → id ∈ is := by
          intro is
          induction is with
          | nil => intro e; cases e
          | cons a r ih =>
            intro e
            simp only [keepL] at e
            split at e
            · rw [look_cons] at e
              split at e
              · rename_i h3; subst h3; simp
              · exact List.mem_cons_of_mem _ (ih e)
            · exact List.mem_cons_of_mem _ (ih e)
        exact absurd (List.mem_append_right _ (key _ hlo)) hid
    rw [h1, h2]
  · exact spec_run (r := ⟨i, some d, A, delT D t, _, n, x, hout, n', _⟩) ho hg hd rfl (fun d' e => by cases e; rw [look_cons, if_pos rfl]) (fun e => by cases e) hs
end
end Go.Proofs.YtligkfhplinjlaaGreatDoorAl
