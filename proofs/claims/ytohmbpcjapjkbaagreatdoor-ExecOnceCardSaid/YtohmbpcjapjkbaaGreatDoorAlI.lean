/- The A-logic, part 9: guards; calls; contracts of functions. -/
import Derived.Test.YtohmbpcjapjkbaaGreatDoorAlH
set_option linter.all false
namespace Go.Proofs.YtohmbpcjapjkbaaGreatDoorAl

section
variable {P : Program} {s : S} {ops : Array Oper} {i : Nat} {rest : List Nat} {o : Oper} {q : S → Prop}

theorem yielded_of {c : Cfg} {a : Act} (hs : SRel c s a) {j t : Nat} {b : Bool} (hj : (ops[j]?).bind (·.dst) = some t) (ht : look s.t t = some (.st (.bool b))) : yielded ops a.tmps j = some b := by
  obtain ⟨v, h1, h2⟩ := hs.t.get t _ ht
  unfold yielded
  simp only [hj, Option.bind_some, h1, bool_inv h2]

/-- A guarded operation that is carried out. -/
theorem OpsOk.op_yes {j t : Nat} {want : Bool} (ho : ops[i]? = some o) (hg : o.guard = some (j, want)) (hj : (ops[j]?).bind (·.dst) = some t) (ht : look s.t t = some (.st (.bool want)))
    (hd : dstOk s.N o.dst = true) (h : OpOk P o s fun x h' n' => OpsOk P ops rest (s.after o.dst x h' n') q) : OpsOk P ops (i :: rest) s q := fun c a hs Qx hQ => by
  have hw : Region.wanted o (yielded ops a.tmps) = true := by simp [Region.wanted, hg, yielded_of hs hj ht]
  simp only [wpOps, ho, hw, if_true]
  refine .inl (h c a hs _ _ ?_)
  rintro x h' n' v c' hk he rfl hh hx
  exact hk c' _ (hs.after he hh hx (dstOk_lt hd)) Qx fun s' c2 a' q' r e => hQ s' c2 a' q' r (he.trans e)
/-- A guarded operation that is passed by. -/
theorem OpsOk.op_no {j t : Nat} {want b : Bool} (ho : ops[i]? = some o) (hg : o.guard = some (j, want)) (hj : (ops[j]?).bind (·.dst) = some t) (ht : look s.t t = some (.st (.bool b))) (hb : (b != want) = true)
    (hd : dstOk s.N o.dst = true) (h : OpsOk P ops rest (s.after o.dst (.tuple []) s.h s.n) q) : OpsOk P ops (i :: rest) s q := fun c a hs Qx hQ => by
  have hw : Region.wanted o (yielded ops a.tmps) = false := by
    simp only [Region.wanted, hg, yielded_of hs hj ht]
    cases b <;> cases want <;> first | rfl | cases hb
  simp only [wpOps, ho, hw, Bool.false_eq_true, if_false]
  have := hs.after (.refl c s.h) hs.h (show AVal c (.tuple []) undef from .tuple _ _ .nil) (dstOk_lt hd)
  rw [hs.n] at this
  exact h c _ this Qx hQ
/-- The same, where what it hangs on was passed by itself. -/
theorem OpsOk.op_no' {j t : Nat} {want : Bool} (ho : ops[i]? = some o) (hg : o.guard = some (j, want)) (hj : (ops[j]?).bind (·.dst) = some t) (ht : look s.t t = some (.tuple []))
    (hd : dstOk s.N o.dst = true) (h : OpsOk P ops rest (s.after o.dst (.tuple []) s.h s.n) q) : OpsOk P ops (i :: rest) s q := fun c a hs Qx hQ => by
  have hw : Region.wanted o (yielded ops a.tmps) = false := by
    obtain ⟨v, h1, h2⟩ := hs.t.get t _ ht
    have h3 : v = .tuple #[] := by cases h2 with | tuple _ _ h => cases h; rfl
    simp only [Region.wanted, hg, yielded, hj, Option.bind_some, h1, h3]
    rfl
  simp only [wpOps, ho, hw, Bool.false_eq_true, if_false]
  have := hs.after (.refl c s.h) hs.h (show AVal c (.tuple []) undef from .tuple _ _ .nil) (dstOk_lt hd)
  rw [hs.n] at this
  exact h c _ this Qx hQ
/-- A truth value that isn't known: both. -/
theorem OpsOk.split {l : List Nat} {t : Nat} {b : Bool} (ht : look s.t t = some (.st (.bool b))) (h1 : b = true → OpsOk P ops l { s with t := (t, .st (.bool true)) :: s.t } q)
    (h2 : b = false → OpsOk P ops l { s with t := (t, .st (.bool false)) :: s.t } q) : OpsOk P ops l s q := fun c a hs Qx hQ => by
  have key : ∀ b', b = b' → SRel c { s with t := (t, .st (.bool b')) :: s.t } a := fun b' e => by
    subst e
    refine ⟨hs.defers, hs.n, ⟨hs.t.size, fun i x e => ?_⟩, hs.h⟩
    rw [look_cons] at e
    split at e
    · rename_i hti; subst hti; cases e; exact hs.t.get _ _ ht
    · exact hs.t.get i x e
  cases b with
  | true => exact h1 rfl c a (key true rfl) Qx hQ
  | false => exact h2 rfl c a (key false rfl) Qx hQ

/-- A branch. -/
theorem CodeOk.cond {x : Operand} {y z : Code} {b : Bool} {Q : Exit → S → Prop} (h : s.ev x = some (.st (.bool b))) (h1 : b = true → CodeOk P y s Q) (h2 : b = false → CodeOk P z s Q) :
    CodeOk P (.cond x y z) s Q := fun c a hs => by
  cases b with
  | true => exact wp_cond_true (bool_inv (S.ev_val hs h)) (h1 rfl c a hs)
  | false => exact wp_cond_false (bool_inv (S.ev_val hs h)) (h2 rfl c a hs)
end

/-! ### contracts -/

/-- Called with these values, over these objects, function f returns what R says. -/
def ACalls (P : Program) (f m : Nat) (args : List AV) (h : Heap) (R : AV → Heap → Prop) : Prop :=
  ∀ (c : Cfg) (vals : List Value), c.n = m → HRel c h → AList c args vals →
    Calls P f vals.toArray c.w fun e w' => ∃ r h' c' v, R r h' ∧ e = .returned v ∧ c'.w = w' ∧ AVal c' r v ∧ HRel c' h' ∧ Ev c h c' h'

theorem ACalls.mono {P : Program} {f m : Nat} {args : List AV} {h : Heap} {R R' : AV → Heap → Prop} (k : ACalls P f m args h R) (hr : ∀ r h', R r h' → R' r h') : ACalls P f m args h R' :=
  fun c vals h1 h2 h3 => (k c vals h1 h2 h3).mono fun _ _ ⟨r, h', c', v, a, b⟩ => ⟨r, h', c', v, hr _ _ a, b⟩

/-- The parameters, as temporaries. -/
def params : Nat → List AV → List (Nat × AV)
  | _, [] => []
  | i, x :: xs => (i, x) :: params (i + 1) xs
theorem params_look : ∀ {i : Nat} {xs : List AV} {j : Nat} {x : AV}, look (params i xs) j = some x → i ≤ j ∧ xs[j - i]? = some x
  | i, [], j, x, e => by cases e
  | i, y :: ys, j, x, e => by
    simp only [params] at e
    rw [look_cons] at e
    split at e
    · rename_i hij; subst hij; cases e; exact ⟨Nat.le_refl _, by simp⟩
    · obtain ⟨h1, h2⟩ := params_look e
      refine ⟨by omega, ?_⟩
      rw [show j - i = (j - (i + 1)) + 1 from by omega]
      simpa using h2

/-- The results. -/
def retVals (L : Lay) (s : S) : List ResultVar → Option (List AV)
  | [] => some []
  | .tmp t :: r => match look s.t t, retVals L s r with
    | some x, some xs => some (x :: xs)
    | _, _ => none
  | .cell t ty :: r => match look s.t t, look L ty with
    | some (.ptr id off), some i => match look s.h id, retVals L s r with
      | some (.cells cs), some xs => cond (Nat.ble (off + i.size) cs.length && (i.agg || Nat.beq i.size 1)) (match loaded i (cs.drop off) with
        | some x => some (x :: xs)
        | none => none) none
      | _, _ => none
    | _, _ => none
def retOf (xs : List AV) : AV :=
  match xs with
  | [x] => x
  | xs => .tuple xs

theorem loaded_val {c : Cfg} {i : TI} {cs : List AV} {vs : List Value} {y : AV} {off : Nat} (hv : AList c cs vs) (h1 : (i.agg || Nat.beq i.size 1) = true) (hy : loaded i (cs.drop off) = some y) :
    AVal c y (if i.agg then .agg ((vs.drop off).take i.size).toArray else ((vs.drop off).take i.size).headD undef) := by
  unfold loaded at hy
  split at hy
  · rename_i ha; cases hy; rw [ha]; exact mkAgg_val ((hv.drop off).take i.size)
  · rename_i ha
    split at hy
    · rename_i z zs hz2
      cases hy
      rw [ha]
      have h2 := hv.drop off
      rw [hz2] at h2
      have hone : i.size = 1 := by rw [ha] at h1; exact Nat.eq_of_beq_eq_true (by simpa using h1)
      generalize vs.drop off = us at h2
      cases h2 with
      | cons _ v _ vs' hv1 hv2 => simpa [hone] using hv1
    · cases hy

def readRes (tmps : Array Value) : ResultVar → Sem Value := fun
  | .tmp t => pure (tmps.getD t undef)
  | .cell a t => do loadVar t (← asAddr (tmps.getD a undef))

theorem run_retVals {P : Program} {L : Lay} (hL : LayOk P L) {c : Cfg} {s : S} {a : Act} (hs : SRel c s a) : ∀ {rs : List ResultVar} {xs : List AV}, retVals L s rs = some xs →
    ∃ vs, (rs.mapM (readRes a.tmps)).run P c.w = .ok vs c.w ∧ AList c xs vs
  | [], xs, h => by cases h; exact ⟨[], rfl, .nil⟩
  | .tmp t :: r, xs, h => by
    simp only [retVals] at h
    split at h
    · rename_i x xs' h1 h2
      cases h
      obtain ⟨vs, g1, g2⟩ := run_retVals hL hs h2
      obtain ⟨v, g3, g4⟩ := hs.t.get t x h1
      refine ⟨v :: vs, ?_, .cons _ _ _ _ g4 g2⟩
      simp [List.mapM_cons, readRes, g3, g1]
    · cases h
  | .cell t ty :: r, xs, h => by
    simp only [retVals] at h
    split at h
    · rename_i id off i h1 h2
      split at h
      · rename_i cs xs' h3 h4
        cases hb : (Nat.ble (off + i.size) cs.length && (i.agg || Nat.beq i.size 1)) with
        | false => rw [hb] at h; cases h
        | true =>
          rw [hb] at h
          simp only [cond_true] at h
          split at h
          · rename_i x h5
            cases h
            simp only [Bool.and_eq_true] at hb
            have hz := Nat.le_of_ble_eq_true hb.1
            obtain ⟨vs, g1, g2⟩ := run_retVals hL hs h4
            obtain ⟨v, g3, g4⟩ := hs.t.get t _ h1
            obtain ⟨us, T, fr, hblk, _, hv⟩ := hs.h.rel id _ h3 trivial
            have hl := hv.length
            have hrun := run_loadVar' (P := P) (w := c.w) (b := c.ι id) (off := off) (vs := (us.drop off).take i.size) (hL ty i h2) (by simp; omega) (fun j v e => by
              rw [List.getElem?_take] at e
              split at e
              · rw [List.getElem?_drop] at e
                simp [World.cell?, hblk, e]
              · cases e) (fun ha => by have h6 := hb.2; rw [ha] at h6; exact Nat.eq_of_beq_eq_true (by simpa using h6))
            have hpv : v = .pointer (some ⟨c.ι id, off, none⟩) := by cases g4; rfl
            refine ⟨_ :: vs, ?_, .cons _ _ _ _ (loaded_val hv hb.2 h5) g2⟩
            simp [List.mapM_cons, readRes, g3, hpv, asAddr, hrun, g1]
          · cases h
      · cases h
    · cases h

theorem run_results {P : Program} {L : Lay} (hL : LayOk P L) {c : Cfg} {s : S} {a : Act} (hs : SRel c s a) {fn : Func} {xs : List AV} (h : retVals L s fn.results.toList = some xs) :
    ∃ v, (results fn a.tmps).run P c.w = .ok v c.w ∧ AVal c (retOf xs) v := by
  obtain ⟨vs, g1, g2⟩ := run_retVals hL hs h
  have key : (results fn a.tmps) = (do let l ← fn.results.toList.mapM (readRes a.tmps); pure (if h : l.toArray.size = 1 then l.toArray[0] else .tuple l.toArray)) := by
    unfold results
    rw [show fn.results = fn.results.toList.toArray from by simp, List.mapM_toArray]
    simp
    congr 1
    congr 1
    funext x
    cases x <;> simp [readRes]
  rw [key]
  simp only [Sem.run_bind, g1, Result.andThen_ok]
  have hl := g2.length
  match vs, xs, g2, hl with
  | [v], [x], .cons _ _ _ _ hx _, _ => exact ⟨v, by simp, hx⟩
  | [], [], g2, _ => exact ⟨.tuple #[], by simp, .tuple _ _ g2⟩
  | v :: u :: us, x :: y :: ys, g2, _ => exact ⟨.tuple (v :: u :: us).toArray, by simp, .tuple _ _ g2⟩

end Go.Proofs.YtohmbpcjapjkbaaGreatDoorAl
