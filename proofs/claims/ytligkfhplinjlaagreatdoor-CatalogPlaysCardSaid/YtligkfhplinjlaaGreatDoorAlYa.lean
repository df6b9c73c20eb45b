/- The A-logic: an array whose cells a call of the library has written anew. -/
import Derived.Test.YtligkfhplinjlaaGreatDoorAlZy
set_option linter.all false
namespace Go.Proofs.YtligkfhplinjlaaGreatDoorAl
theorem arr_rewr {c : Cfg} {h : Heap} {k : Nat} {rows : List (List SV)} (hr : HRel c h) {id : Nat} (hl : look h id = some (.arr k rows)) (h0 : rows ≠ []) {W : World} {cs cs' : Array Value} {T : TypeId} {fr : Nat × Nat} {rows' : List (List SV)}
    (hblk : c.w.heap[c.ι id]? = some (.cells cs T fr)) (hnew : W.heap[c.ι id]? = some (.cells cs' T fr)) (hsz : cs'.size = cs.size) (hother : ∀ b, b < c.w.heap.size → c.ι id ≠ b → W.heap[b]? = c.w.heap[b]?)
    (hos : W.os = c.w.os ∧ W.tape = c.w.tape ∧ W.output = c.w.output ∧ c.w.heap.size ≤ W.heap.size) (hle : rows'.length * k ≤ cs'.size) (hrows : Goes c.St c.St c.w W → SRows c.St W k (c.ι id) 0 rows') :
    HRel { c with w := W } ((id, .arr k rows') :: del h id) ∧ Ev c h { c with w := W } ((id, .arr k rows') :: del h id) := by
  obtain ⟨cs0, T', fr', hblk', hfr, _, _⟩ := hr.rel id _ hl h0
  rw [hblk] at hblk'
  cases hblk'
  have hlt : c.ι id < c.w.heap.size := hr.blk id _ hl h0
  have hshape : ∀ b s, c.w.shape? b = some s → W.shape? b = some s := fun b s hs => by
    have hk : b < c.w.heap.size := by
      rcases Nat.lt_or_ge b c.w.heap.size with h' | h'
      · exact h'
      · simp [World.shape?, Array.getElem?_eq_none h'] at hs
    by_cases hb : c.ι id = b
    · subst hb; rw [shape_of hblk] at hs; rw [shape_of hnew, hsz, ← hs]
    · rw [← hs]; simp only [World.shape?, hother b hk hb]
  have hgo : Goes c.St c.St c.w W := ⟨fun _ h => h, fun b hb => hother b (hr.st b hb) fun e => hr.own id _ hl h0 (e ▸ hb)⟩
  have g : CGo c { c with w := W } := ⟨Nat.le_refl _, fun _ _ => rfl, hgo, hshape⟩
  have part : ∀ i y, look ((id, AO.arr k rows') :: del h id) i = some y → (i = id ∧ y = .arr k rows') ∨ (i ≠ id ∧ look h i = some y) := fun i y e => by
    rw [look_cons, look_del] at e
    split at e
    · rename_i hi; cases e; exact .inl ⟨hi.symm, rfl⟩
    · rename_i hi
      exact .inr ⟨fun e' => hi e'.symm, by simpa [hi] using e⟩
  have hne : ∀ i y, look h i = some y → y.real → i ≠ id → c.ι i ≠ c.ι id := fun i y e r hi' he => hi' (hr.inj i id y _ e r hl h0 he)
  refine ⟨⟨fun i y e => ?_, fun i y e r => ?_, fun i y e r => ?_, fun i y e r => ?_, fun i j y y' e r e' r' hij => ?_, fun b hb => ?_, fun i b o e => ?_⟩, ?_⟩
  · rcases part i y e with ⟨rfl, _⟩ | ⟨_, h1⟩
    · exact hr.lt _ _ hl
    · exact hr.lt i y h1
  · refine Nat.lt_of_lt_of_le ?_ hos.2.2.2
    rcases part i y e with ⟨rfl, _⟩ | ⟨_, h1⟩
    · exact hlt
    · exact hr.blk i y h1 r
  · rcases part i y e with ⟨rfl, _⟩ | ⟨_, h1⟩
    · exact hr.own _ _ hl h0
    · exact hr.own i y h1 r
  · rcases part i y e with ⟨rfl, rfl⟩ | ⟨h2, h1⟩
    · exact ⟨cs', T, fr, hnew, fun j hj => hfr j (by omega), hle, hrows hgo⟩
    · exact (hr.rel i y h1 r).goes g (hother _ (hr.blk i y h1 r) fun x => hne i y h1 r h2 x.symm)
  · rcases part i y e with ⟨rfl, _⟩ | ⟨n1, h1⟩ <;> rcases part j y' e' with ⟨rfl, _⟩ | ⟨n1', h1'⟩
    · rfl
    · exact absurd hij.symm (hne j y' h1' r' n1')
    · exact absurd hij (hne i y h1 r n1)
    · exact hr.inj i j y y' h1 r h1' r' hij
  · exact Nat.lt_of_lt_of_le (hr.st b hb) hos.2.2.2
  · rcases part i _ e with ⟨_, h⟩ | ⟨_, h1⟩
    · cases h
    · exact Fct.goes g (hr.fact i b o h1)
  · refine ⟨g, hos.1, hos.2.1, hos.2.2.1, hos.2.2.2, fun b hb hb' => hother b hb (hb' id _ hl h0), fun _ h => .inl h, fun i y e r => ?_⟩
    rcases part i y e with ⟨rfl, _⟩ | ⟨_, h1⟩
    · exact .inr ⟨_, _, hl, h0, rfl⟩
    · exact .inr ⟨i, y, h1, r, rfl⟩
end Go.Proofs.YtligkfhplinjlaaGreatDoorAl
