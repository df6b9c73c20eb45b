/- The A-logic: a call that is known by the library's own contracts, and makes one slice. -/
import Derived.Test.YtligkfhplinjlaaGreatDoorAlZx
import Derived.Test.YtligkfhplinjlaaGreatDoorAlZt
import Derived.Test.YtligkfhplinjlaaGreatDoorAlZj
set_option linter.all false
namespace Go.Proofs.YtligkfhplinjlaaGreatDoorAl
/-- A slice in a new block. -/
def NewSl (c : Cfg) (w' : World) (k : Nat) (rows : List (List SV)) (v : Value) : Prop :=
  (v = .slice none 0 0 ∧ rows = []) ∨ ∃ (g cap : Nat) (cs : Array Value) (T : TypeId) (fr : Nat × Nat), v = .slice (some ⟨g, 0, none⟩) rows.length cap ∧ rows ≠ [] ∧ c.w.heap.size ≤ g ∧ w'.heap[g]? = some (.cells cs T fr) ∧
    (∀ j, j < cs.size → ¬ (fr.1 ≤ j ∧ j < fr.2)) ∧ rows.length ≤ cap ∧ cap * k ≤ cs.size ∧ SRows c.St w' k g 0 rows
theorem hrel_new {c : Cfg} {h : Heap} {w' : World} {k : Nat} {rows : List (List SV)} (hr : HRel c h) (hb : RowKit.Below c.w.heap.size c.w w') (g : Nat)
    (hg : rows ≠ [] → c.w.heap.size ≤ g ∧ ∃ (cs : Array Value) (T : TypeId) (fr : Nat × Nat), w'.heap[g]? = some (.cells cs T fr) ∧ (∀ j, j < cs.size → ¬ (fr.1 ≤ j ∧ j < fr.2)) ∧ rows.length * k ≤ cs.size ∧ SRows c.St w' k g 0 rows) :
    HRel ⟨fun j => if j = c.n then g else c.ι j, c.n + 1, c.St, w'⟩ ((c.n, .arr k rows) :: h) ∧ Ev c h ⟨fun j => if j = c.n then g else c.ι j, c.n + 1, c.St, w'⟩ ((c.n, .arr k rows) :: h) := by
  have hshape : ∀ b s, c.w.shape? b = some s → w'.shape? b = some s := fun b s hs => by
    have hk : b < c.w.heap.size := by
      rcases Nat.lt_or_ge b c.w.heap.size with h' | h'
      · exact h'
      · simp [World.shape?, Array.getElem?_eq_none h'] at hs
    rw [← hs]; simp only [World.shape?, hb.block b hk]
  generalize hc : (⟨fun j => if j = c.n then g else c.ι j, c.n + 1, c.St, w'⟩ : Cfg) = c'
  have hcw : c'.w = w' := by rw [← hc]
  have hcn : c'.n = c.n + 1 := by rw [← hc]
  have hcS : c'.St = c.St := by rw [← hc]
  have iold : ∀ j, j < c.n → c'.ι j = c.ι j := fun j hj => by rw [← hc]; exact if_neg (Nat.ne_of_lt hj)
  have inew : c'.ι c.n = g := by rw [← hc]; exact if_pos rfl
  have hgo : Goes c.St c'.St c.w c'.w := by rw [hcS, hcw]; exact ⟨fun _ h => h, fun b hb' => hb.block b (hr.st b hb')⟩
  have gg : CGo c c' := ⟨by rw [hcn]; exact Nat.le_succ _, iold, hgo, by rw [hcw]; exact hshape⟩
  clear hc
  have part : ∀ i y, look ((c.n, AO.arr k rows) :: h) i = some y → (i = c.n ∧ y = .arr k rows) ∨ (i ≠ c.n ∧ look h i = some y ∧ c'.ι i = c.ι i) := fun i y e => by
    rw [look_cons] at e
    split at e
    · rename_i hi'; cases e; exact .inl ⟨hi'.symm, rfl⟩
    · rename_i hi'
      exact .inr ⟨fun x => hi' x.symm, e, iold i (hr.lt i y e)⟩
  refine ⟨⟨fun i y e => ?_, fun i y e r => ?_, fun i y e r => ?_, fun i y e r => ?_, fun i j y y' e r e' r' hij => ?_, fun b hb' => ?_, fun i b o e => ?_⟩, ?_⟩
  · rw [hcn]
    rcases part i y e with ⟨rfl, _⟩ | ⟨_, h1, _⟩
    · exact Nat.lt_succ_self _
    · exact Nat.lt_succ_of_lt (hr.lt i y h1)
  · rw [hcw]
    rcases part i y e with ⟨rfl, rfl⟩ | ⟨_, h1, h3⟩
    · rw [inew]
      obtain ⟨_, cs, T, fr, g1, _⟩ := hg r
      rcases Nat.lt_or_ge g w'.heap.size with h' | h'
      · exact h'
      · rw [Array.getElem?_eq_none h'] at g1; cases g1
    · rw [h3]; exact Nat.lt_of_lt_of_le (hr.blk i y h1 r) hb.size
  · rw [hcS]
    rcases part i y e with ⟨rfl, rfl⟩ | ⟨_, h1, h3⟩
    · rw [inew]
      exact fun hs => absurd (hr.st g hs) (Nat.not_lt.2 (hg r).1)
    · rw [h3]; exact hr.own i y h1 r
  · rcases part i y e with ⟨rfl, rfl⟩ | ⟨_, h1, h3⟩
    · rw [inew]
      obtain ⟨_, cs, T, fr, g1, g2, g3, g4⟩ := hg r
      exact ⟨cs, T, fr, by rw [hcw]; exact g1, g2, g3, by rw [hcS, hcw]; exact g4⟩
    · rw [h3]; exact (hr.rel i y h1 r).goes gg (by rw [hcw]; exact hb.block _ (hr.blk i y h1 r))
  · rcases part i y e with ⟨rfl, rfl⟩ | ⟨n1, h1, h3⟩ <;> rcases part j y' e' with ⟨rfl, rfl⟩ | ⟨n1', h1', h3'⟩
    · rfl
    · rw [inew, h3'] at hij
      have := hr.blk j y' h1' r'
      have := (hg r).1
      omega
    · rw [inew, h3] at hij
      have := hr.blk i y h1 r
      have := (hg r').1
      omega
    · rw [h3, h3'] at hij; exact hr.inj i j y y' h1 r h1' r' hij
  · rw [hcS] at hb'
    rw [hcw]
    exact Nat.lt_of_lt_of_le (hr.st b hb') hb.size
  · rcases part i _ e with ⟨_, h⟩ | ⟨_, h1, _⟩
    · cases h
    · exact Fct.goes gg (hr.fact i b o h1)
  · refine ⟨gg, by rw [hcw]; exact hb.os, by rw [hcw]; exact hb.tape, by rw [hcw]; exact hb.output, by rw [hcw]; exact hb.size, fun b hb' _ => by rw [hcw]; exact hb.block b hb', fun b hb' => .inl (by rw [← hcS]; exact hb'), fun i y e r => ?_⟩
    rcases part i y e with ⟨rfl, rfl⟩ | ⟨_, h1, h3⟩
    · rw [inew]; exact .inl (hg r).1
    · exact .inr ⟨i, y, h1, r, h3.symm⟩
/-- A call that leaves what is older, and makes one slice. -/
theorem ACalls.rawN {P : Program} {f m k : Nat} {args : List AV} {h0 : Heap} {rows : List (List SV)}
    (h : ∀ (c : Cfg) (vals : List Value), c.n = m → HRel c h0 → AList c args vals → Calls P f vals.toArray c.w fun e w' => (∃ v, e = .returned v ∧ NewSl c w' k rows v) ∧ RowKit.Below c.w.heap.size c.w w') :
    ACalls P f m args h0 fun r h => r = .lsl m k 0 rows.length ∧ h = (m, .arr k rows) :: h0 := by
  intro c vals hn hr hv
  subst hn
  refine (h c vals rfl hr hv).mono fun e w' ⟨⟨v, he, hv'⟩, hb⟩ => ?_
  rcases hv' with ⟨rfl, rfl⟩ | ⟨g, cap, cs, T, fr, rfl, hne, g1, g2, g3, g4, g5, g6⟩
  · obtain ⟨k1, k2⟩ := hrel_new (k := k) (rows := []) hr hb 0 (fun h => absurd rfl h)
    exact ⟨_, _, _, _, ⟨rfl, rfl⟩, he, rfl, .lsl0 _ _ _ (Nat.lt_succ_self _), k1, k2⟩
  · have hmul : rows.length * k ≤ cap * k := Nat.mul_le_mul_right k g4
    obtain ⟨k1, k2⟩ := hrel_new (k := k) (rows := rows) hr hb g (fun _ => ⟨g1, cs, T, fr, g2, g3, Nat.le_trans hmul g5, g6⟩)
    refine ⟨_, _, _, _, ⟨rfl, rfl⟩, he, rfl, ?_, k1, k2⟩
    have hi : (fun j => if j = c.n then g else c.ι j) c.n = g := if_pos rfl
    have := AVal.lsl (c := ⟨fun j => if j = c.n then g else c.ι j, c.n + 1, c.St, w'⟩) c.n k 0 rows.length cap T cs.size (Nat.lt_succ_self _) ⟨g4, fun h => absurd (List.length_eq_zero_iff.1 h) hne⟩ (by rw [show (⟨fun j => if j = c.n then g else c.ι j, c.n + 1, c.St, w'⟩ : Cfg).ι c.n = g from hi]; exact shape_of g2) (by rw [Nat.zero_add]; exact g5)
    rw [show (⟨fun j => if j = c.n then g else c.ι j, c.n + 1, c.St, w'⟩ : Cfg).ι c.n = g from hi, Nat.zero_mul] at this
    exact this
section
variable {P : Program} {ops : Array Oper} {j : Nat} {l : List Oper} {q : S → Prop} {N n : Nat} {t : Tm} {h : Heap} {d : Nat} {ty : TypeId} {pos : String} {af : Array Edge} {g : Option (Nat × Bool)}
/-- A call that brings new objects; which objects it is handed is said. -/
theorem st_callG {fo : Operand} {args : Array Operand} {ts : Array TypeId} {f m : Nat} {args0 ys : List AV} {h0 h1 h2 : Heap} {x x' : AV} (nl : List Nat) (B : Nat) (hc : ACalls P f m args0 h0 fun r h' => r = x ∧ h' = h1) (hb : HasBody P f)
    (hargs : callT t fo args.toList = some (f, ys)) (hm : nl.length = m) (hy : renL (nam nl n) args0 = ys)
    (hb0 : (belL m args0 && belH m h0 && okNames n nl && Nat.ble m (m + B) && x.bel (m + B) && belH (m + B) h1) = true) (hx : x.ren (nam nl n) = x') (hh : Sub (renH (nam nl n) h0) h) (h3 : frc (renH (nam nl n) h1 ++ delAll nl h) some = some h2)
    (k : OpsL P ops (j + 1) l ⟨N, n + B, (d, x') :: t, h2⟩ q) : OpG P ops j ⟨some d, .call ⟨.value fo, args, ts⟩, ty, pos, af, g⟩ l ⟨N, n, t, h⟩ q := by
  subst hm hx
  rw [frc_eq] at h3; cases h3
  simp only [Bool.and_eq_true] at hb0
  obtain ⟨⟨⟨⟨⟨b1, b2⟩, b3⟩, b4⟩, b5⟩, b6⟩ := hb0
  refine st_call nl (nl.length + B) hc hb (by rw [hy]; exact hargs) (by simp only [b1, b2, b3, b4, Bool.and_self]) hh ?_
  rintro r h' ⟨rfl, rfl⟩
  refine ⟨by simp only [b5, b6, Bool.and_self], ?_⟩
  rw [Nat.add_sub_cancel_left]
  exact k
end
end Go.Proofs.YtligkfhplinjlaaGreatDoorAl
