/- The A-logic, part 5: how configurations go on: a new block, a written block, a draw. -/
import Derived.Test.YtohmbpcjapjkbaaGreatDoorAlD
set_option linter.all false
namespace Go.Proofs.YtohmbpcjapjkbaaGreatDoorAl

def setBlk (w : World) (b : Nat) (o : Obj) : World := { w with heap := w.heap.setIfInBounds b o }

theorem setBlk_same {w : World} {b : Nat} {o : Obj} (h : b < w.heap.size) : (setBlk w b o).heap[b]? = some o := by simp [setBlk, h]
theorem setBlk_other {w : World} {b k : Nat} {o : Obj} (h : b ≠ k) : (setBlk w b o).heap[k]? = w.heap[k]? := by
  simp only [setBlk]; rw [Array.getElem?_setIfInBounds_ne h]
theorem setBlk_size {w : World} {b : Nat} {o : Obj} : (setBlk w b o).heap.size = w.heap.size := by simp [setBlk]

theorem setCell_eq {w : World} {b off : Nat} {c : Array Value} {T : TypeId} {fr : Nat × Nat} (h : w.heap[b]? = some (.cells c T fr)) (v : Value) :
    w.setCell ⟨b, off, none⟩ v = setBlk w b (.cells (c.setIfInBounds off v) T fr) := by
  have hb : b < w.heap.size := by
    rcases Nat.lt_or_ge b w.heap.size with h' | h'
    · exact h'
    · simp [Array.getElem?_eq_none h'] at h
  have hg : w.heap[b] = .cells c T fr := by simpa [Array.getElem?_eq_getElem hb] using h
  unfold World.setCell setBlk
  congr 1
  apply Array.ext_getElem?
  intro i
  rw [Array.getElem?_modify, Array.getElem?_setIfInBounds]
  by_cases hi : b = i
  · subst hi; simp [hb, hg]
  · simp [hi]

/-- The shape of a block in the world. -/
theorem shape_of {w : World} {b : Nat} {c : Array Value} {T : TypeId} {fr : Nat × Nat} (h : w.heap[b]? = some (.cells c T fr)) : w.shape? b = some (T, c.size) := by
  simp [World.shape?, h]

/-- A new block, under the next name. -/
def Cfg.alloc (c : Cfg) (o : Obj) : Cfg := ⟨fun j => if j = c.n then c.w.heap.size else c.ι j, c.n + 1, c.St, c.w.alloc o⟩
/-- A new block that is stable at once. -/
def Cfg.allocSt (c : Cfg) (o : Obj) : Cfg := ⟨c.ι, c.n, fun b => c.St b ∨ b = c.w.heap.size, c.w.alloc o⟩
/-- A written block. -/
def Cfg.set (c : Cfg) (b : Nat) (o : Obj) : Cfg := ⟨c.ι, c.n, c.St, setBlk c.w b o⟩
def Cfg.drew (c : Cfg) : Cfg := ⟨c.ι, c.n, c.St, c.w.drew⟩

theorem heap_alloc_lt {w : World} {o : Obj} {k : Nat} (h : k < w.heap.size) : (w.alloc o).heap[k]? = w.heap[k]? := RowKit.Below.heap_alloc w o k h
theorem heap_alloc_new {w : World} {o : Obj} : (w.alloc o).heap[w.heap.size]? = some o := by
  show (w.heap.push o)[w.heap.size]? = _
  simp

section
variable {c : Cfg} {h : Heap}

theorem go_alloc (hr : HRel c h) (o : Obj) : CGo c (c.alloc o) :=
  ⟨Nat.le_succ _, fun id hi => by simp [Cfg.alloc, Nat.ne_of_lt hi], ⟨fun _ hb => hb, fun b hb => heap_alloc_lt (hr.st b hb)⟩, fun b s hs => by
    have hb : b < c.w.heap.size := by
      rcases Nat.lt_or_ge b c.w.heap.size with h' | h'
      · exact h'
      · simp [World.shape?, Array.getElem?_eq_none h'] at hs
    show (c.w.alloc o).shape? b = _
    rw [← hs]; simp only [World.shape?, heap_alloc_lt hb]⟩
theorem go_allocSt (hr : HRel c h) (o : Obj) : CGo c (c.allocSt o) :=
  ⟨Nat.le_refl _, fun _ _ => rfl, ⟨fun _ hb => .inl hb, fun b hb => heap_alloc_lt (hr.st b hb)⟩, fun b s hs => by
    have hb : b < c.w.heap.size := by
      rcases Nat.lt_or_ge b c.w.heap.size with h' | h'
      · exact h'
      · simp [World.shape?, Array.getElem?_eq_none h'] at hs
    show (c.w.alloc o).shape? b = _
    rw [← hs]; simp only [World.shape?, heap_alloc_lt hb]⟩

theorem ev_alloc (hr : HRel c h) {o : Obj} {a : AO} : Ev c h (c.alloc o) ((c.n, a) :: h) := by
  refine ⟨go_alloc hr o, rfl, rfl, rfl, by simp [Cfg.alloc], fun b hb _ => heap_alloc_lt hb, fun b hb => .inl hb, fun id o' e r => ?_⟩
  rw [look_cons] at e
  split at e
  · rename_i hid; subst hid; exact .inl (by simp [Cfg.alloc])
  · rename_i hid
    exact .inr ⟨id, o', e, r, by simp [Cfg.alloc, Ne.symm hid]⟩

theorem hrel_alloc (hr : HRel c h) {o : Obj} {a : AO} (ha : ORel (c.alloc o) c.w.heap.size a) : HRel (c.alloc o) ((c.n, a) :: h) := by
  have hg := go_alloc hr o
  have old : ∀ id o', look h id = some o' → (c.alloc o).ι id = c.ι id := fun id o' e => hg.ids id (hr.lt id o' e)
  have new : (c.alloc o).ι c.n = c.w.heap.size := by simp [Cfg.alloc]
  have hsz : (c.alloc o).w.heap.size = c.w.heap.size + 1 := by simp [Cfg.alloc]
  refine ⟨fun id o' e => ?_, fun id o' e r => ?_, fun id o' e r => ?_, fun id o' e r => ?_, fun i j o1 o2 e1 r1 e2 r2 hij => ?_, fun b hb => ?_, fun id b o' e => ?_⟩
  · rw [look_cons] at e
    split at e
    · rename_i hid; subst hid; exact Nat.lt_succ_self _
    · exact Nat.lt_succ_of_lt (hr.lt id o' e)
  · rw [look_cons] at e
    split at e
    · rename_i hid; subst hid; rw [new, hsz]; exact Nat.lt_succ_self _
    · rw [old id o' e, hsz]; exact Nat.lt_succ_of_lt (hr.blk id o' e r)
  · rw [look_cons] at e
    split at e
    · rename_i hid; subst hid; rw [new]; exact fun hb => Nat.lt_irrefl _ (hr.st _ hb)
    · rw [old id o' e]; exact hr.own id o' e r
  · rw [look_cons] at e
    split at e
    · rename_i hid; subst hid; cases e; rw [new]; exact ha
    · rw [old id o' e]; exact (hr.rel id o' e r).goes hg (heap_alloc_lt (hr.blk id o' e r))
  · rw [look_cons] at e1 e2
    split at e1 <;> split at e2
    · omega
    · rename_i h1 h2; subst h1; rw [new, old j o2 e2] at hij; have := hr.blk j o2 e2 r2; omega
    · rename_i h1 h2; subst h2; rw [new, old i o1 e1] at hij; have := hr.blk i o1 e1 r1; omega
    · rw [old i o1 e1, old j o2 e2] at hij; exact hr.inj i j o1 o2 e1 r1 e2 r2 hij
  · rw [hsz]; exact Nat.lt_succ_of_lt (hr.st b hb)
  · rw [look_cons] at e
    split at e
    · cases e; exact ha
    · exact Fct.goes hg (hr.fact id b o' e)

theorem ev_allocSt (hr : HRel c h) {o : Obj} : Ev c h (c.allocSt o) h := by
  refine ⟨go_allocSt hr o, rfl, rfl, rfl, by simp [Cfg.allocSt], fun b hb _ => heap_alloc_lt hb, fun b hb => ?_, fun id o' e r => .inr ⟨id, o', e, r, rfl⟩⟩
  rcases hb with hb | hb
  · exact .inl hb
  · exact .inr (.inl (by omega))
theorem hrel_allocSt (hr : HRel c h) {o : Obj} : HRel (c.allocSt o) h := by
  have hg := go_allocSt hr o
  have hsz : (c.allocSt o).w.heap.size = c.w.heap.size + 1 := by simp [Cfg.allocSt]
  refine ⟨hr.lt, fun id o' e r => by rw [hsz]; exact Nat.lt_succ_of_lt (hr.blk id o' e r), fun id o' e r hb => ?_, fun id o' e r => (hr.rel id o' e r).goes hg (heap_alloc_lt (hr.blk id o' e r)), hr.inj, fun b hb => ?_, fun id b o' e => Fct.goes hg (hr.fact id b o' e)⟩
  · rcases hb with hb | hb
    · exact hr.own id o' e r hb
    · have h1 : c.ι id = c.w.heap.size := hb
      have := hr.blk id o' e r; omega
  · rw [hsz]
    rcases hb with hb | hb
    · exact Nat.lt_succ_of_lt (hr.st b hb)
    · omega

/-- A block of an object is written; the object is another one now. -/
theorem go_set (hr : HRel c h) {id : Nat} {a : AO} (e : look h id = some a) (ra : a.real) {o : Obj} (hs : ∀ s, c.w.shape? (c.ι id) = some s → (setBlk c.w (c.ι id) o).shape? (c.ι id) = some s) : CGo c (c.set (c.ι id) o) :=
  ⟨Nat.le_refl _, fun _ _ => rfl, ⟨fun _ hb => hb, fun b hb => setBlk_other fun e' => hr.own id a e ra (e' ▸ hb)⟩, fun b s hb => by
    by_cases he : c.ι id = b
    · subst he; exact hs s hb
    · show (setBlk c.w (c.ι id) o).shape? b = _
      rw [← hb]; simp only [World.shape?, setBlk_other he]⟩
theorem ev_set (hr : HRel c h) {id : Nat} {a a' : AO} (e : look h id = some a) (ra : a.real) {o : Obj} (hs : ∀ s, c.w.shape? (c.ι id) = some s → (setBlk c.w (c.ι id) o).shape? (c.ι id) = some s) :
    Ev c h (c.set (c.ι id) o) ((id, a') :: h) := by
  refine ⟨go_set hr e ra hs, rfl, rfl, rfl, by simp [Cfg.set, setBlk_size], fun b _ hn => setBlk_other (hn id a e ra), fun b hb => .inl hb, fun j o' e' r => ?_⟩
  rw [look_cons] at e'
  split at e'
  · rename_i hid; subst hid; exact .inr ⟨id, a, e, ra, rfl⟩
  · exact .inr ⟨j, o', e', r, rfl⟩
theorem hrel_set (hr : HRel c h) {id : Nat} {a a' : AO} (e : look h id = some a) (ra : a.real) {o : Obj} (hs : ∀ s, c.w.shape? (c.ι id) = some s → (setBlk c.w (c.ι id) o).shape? (c.ι id) = some s)
    (ha : ORel (c.set (c.ι id) o) (c.ι id) a') : HRel (c.set (c.ι id) o) ((id, a') :: h) := by
  have hg := go_set hr e ra hs
  have hsz : (c.set (c.ι id) o).w.heap.size = c.w.heap.size := by simp [Cfg.set, setBlk_size]
  have dom : ∀ j o', look ((id, a') :: h) j = some o' → o'.real → ∃ o'', look h j = some o'' ∧ o''.real := fun j o' e' r => by
    rw [look_cons] at e'
    split at e'
    · rename_i hid; subst hid; exact ⟨a, e, ra⟩
    · exact ⟨o', e', r⟩
  refine ⟨fun j o' e' => ?_, fun j o' e' r => ?_, fun j o' e' r => let ⟨o'', e'', r'⟩ := dom j o' e' r; hr.own j o'' e'' r', fun j o' e' r => ?_, fun i j o1 o2 e1 r1 e2 r2 hij => ?_, fun b hb => ?_, fun j b o' e' => ?_⟩
  · rw [look_cons] at e'
    split at e'
    · rename_i hid; subst hid; exact hr.lt _ a e
    · exact hr.lt j o' e'
  · obtain ⟨o'', e'', r'⟩ := dom j o' e' r; rw [hsz]; exact hr.blk j o'' e'' r'
  · rw [look_cons] at e'
    split at e'
    · rename_i hid; subst hid; cases e'; exact ha
    · rename_i hid
      exact (hr.rel j o' e' r).goes hg (setBlk_other fun he => hid (hr.inj id j a o' e ra e' r he))
  · obtain ⟨x1, y1, z1⟩ := dom i o1 e1 r1
    obtain ⟨x2, y2, z2⟩ := dom j o2 e2 r2
    exact hr.inj i j x1 x2 y1 z1 y2 z2 hij
  · rw [hsz]; exact hr.st b hb
  · rw [look_cons] at e'
    split at e'
    · cases e'; exact ha
    · exact Fct.goes hg (hr.fact j b o' e')

theorem go_drew : CGo c c.drew := ⟨Nat.le_refl _, fun _ _ => rfl, ⟨fun _ hb => hb, fun _ _ => rfl⟩, fun _ _ hs => hs⟩
theorem ev_drew : Ev c h c.drew h := ⟨go_drew, rfl, rfl, rfl, Nat.le_refl _, fun _ _ _ => rfl, fun _ hb => .inl hb, fun id o e r => .inr ⟨id, o, e, r, rfl⟩⟩
theorem hrel_drew (hr : HRel c h) : HRel c.drew h :=
  ⟨hr.lt, hr.blk, hr.own, fun id o e r => (hr.rel id o e r).goes go_drew rfl, hr.inj, hr.st, hr.fact⟩

/-- An object that nobody needs any more. -/
theorem hrel_sub {h' : Heap} (hr : HRel c h) (hsub : ∀ id o, look h' id = some o → look h id = some o) : HRel c h' :=
  ⟨fun id o e => hr.lt id o (hsub id o e), fun id o e => hr.blk id o (hsub id o e), fun id o e => hr.own id o (hsub id o e), fun id o e => hr.rel id o (hsub id o e),
   fun i j o o' e r e' r' => hr.inj i j o o' (hsub i o e) r (hsub j o' e') r', hr.st, fun id b o e => hr.fact id b o (hsub id _ e)⟩
theorem ev_sub {h' : Heap} (hsub : ∀ id o, look h' id = some o → look h id = some o) : Ev c h c h' :=
  ⟨.refl c, rfl, rfl, rfl, Nat.le_refl _, fun _ _ _ => rfl, fun _ hb => .inl hb, fun id o e r => .inr ⟨id, o, hsub id o e, r, rfl⟩⟩
end
end Go.Proofs.YtohmbpcjapjkbaaGreatDoorAl
