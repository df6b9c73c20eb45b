/- The A-logic, part 1: abstract values, and what they say of memory. -/
import Derived.WalkKit
import Derived.Below
set_option linter.all false
namespace Go.Proofs.YtohmbpcjapjkbaaGreatDoorAl

/-- A stable value: whatever it leads to is written by nobody any more. -/
inductive SV where
  | bool (b : Bool)
  | int (k : IntKind) (n : Int)
  | str (s : ByteArray)
  | nilsl
  | sl0
  | sl (k : Nat) (rows : List (List SV))
  | nilptr
  | sptr (cells : List SV)
  | nilIface
  | iface (t : TypeId) (v : SV)
  | nilFunc
  | fn (f : Fn) (first caps : List SV)
  | nilmap
  | agg (cells : List SV)
  deriving Inhabited

mutual
inductive SVal (St : Nat → Prop) (w : World) : SV → Value → Prop
  | bool (b : Bool) : SVal St w (.bool b) (.bool b)
  | int (k : IntKind) (n : Int) : SVal St w (.int k n) (.int k n)
  | str (s : ByteArray) : SVal St w (.str s) (.string s)
  | nilsl : SVal St w .nilsl (.slice none 0 0)
  | sl0 (a : Option Addr) : SVal St w .sl0 (.slice a 0 0)
  | slnil (k : Nat) (a : Option Addr) (cap : Nat) : SVal St w (.sl k []) (.slice a 0 cap)
  | sl (k b off cap : Nat) (rows : List (List SV)) : St b → SRows St w k b off rows → rows.length ≤ cap →
      SVal St w (.sl k rows) (.slice (some ⟨b, off, none⟩) rows.length cap)
  | nilptr : SVal St w .nilptr (.pointer none)
  | sptr (b off : Nat) (cells : List SV) : St b → SCells St w b off cells → SVal St w (.sptr cells) (.pointer (some ⟨b, off, none⟩))
  | nilIface : SVal St w .nilIface .nilIface
  | iface (t : TypeId) (x : SV) (v : Value) : SVal St w x v → SVal St w (.iface t x) (.iface t v)
  | nilFunc : SVal St w .nilFunc .nilFunc
  | fn (f : Fn) (first caps : List SV) (vf vc : List Value) : SList St w first vf → SList St w caps vc →
      SVal St w (.fn f first caps) (.func f vf.toArray vc.toArray)
  | nilmap : SVal St w .nilmap (.map none)
  | agg (cells : List SV) (vs : List Value) : SList St w cells vs → SVal St w (.agg cells) (.agg vs.toArray)
inductive SList (St : Nat → Prop) (w : World) : List SV → List Value → Prop
  | nil : SList St w [] []
  | cons (x : SV) (v : Value) (xs : List SV) (vs : List Value) : SVal St w x v → SList St w xs vs → SList St w (x :: xs) (v :: vs)
inductive SCells (St : Nat → Prop) (w : World) : Nat → Nat → List SV → Prop
  | nil (b off : Nat) : SCells St w b off []
  | cons (b off : Nat) (x : SV) (v : Value) (xs : List SV) : w.cell? ⟨b, off, none⟩ = some v → SVal St w x v → SCells St w b (off + 1) xs →
      SCells St w b off (x :: xs)
inductive SRows (St : Nat → Prop) (w : World) : Nat → Nat → Nat → List (List SV) → Prop
  | nil (k b off : Nat) : SRows St w k b off []
  | cons (k b off : Nat) (row : List SV) (rows : List (List SV)) : row.length = k → SCells St w b off row → SRows St w k b (off + k) rows →
      SRows St w k b off (row :: rows)
end

/-- How the rest of the world may go on: stable blocks stay, more of them may come. -/
structure Goes (St St' : Nat → Prop) (w w' : World) : Prop where
  sub : ∀ b, St b → St' b
  same : ∀ b, St b → w'.heap[b]? = w.heap[b]?

theorem cell_of_block {w w' : World} {b off : Nat} (h : w'.heap[b]? = w.heap[b]?) : w'.cell? ⟨b, off, none⟩ = w.cell? ⟨b, off, none⟩ := by
  simp [World.cell?, h]

section
variable {St St' : Nat → Prop} {w w' : World}

mutual
theorem SVal.goes (g : Goes St St' w w') : ∀ {x : SV} {v : Value}, SVal St w x v → SVal St' w' x v
  | _, _, .bool b => .bool b
  | _, _, .int k n => .int k n
  | _, _, .str s => .str s
  | _, _, .nilsl => .nilsl
  | _, _, .sl0 a => .sl0 a
  | _, _, .slnil k a c => .slnil k a c
  | _, _, .sl k b off cap rows hb hr hc => .sl k b off cap rows (g.sub b hb) (hr.goes g (g.same b hb)) hc
  | _, _, .nilptr => .nilptr
  | _, _, .sptr b off cells hb hc => .sptr b off cells (g.sub b hb) (hc.goes g (g.same b hb))
  | _, _, .nilIface => .nilIface
  | _, _, .iface t x v h => .iface t x v (h.goes g)
  | _, _, .nilFunc => .nilFunc
  | _, _, .fn f first caps vf vc h1 h2 => .fn f first caps vf vc (h1.goes g) (h2.goes g)
  | _, _, .nilmap => .nilmap
  | _, _, .agg cells vs h => .agg cells vs (h.goes g)
theorem SList.goes (g : Goes St St' w w') : ∀ {xs : List SV} {vs : List Value}, SList St w xs vs → SList St' w' xs vs
  | _, _, .nil => .nil
  | _, _, .cons x v xs vs h hs => .cons x v xs vs (h.goes g) (hs.goes g)
theorem SCells.goes (g : Goes St St' w w') : ∀ {b off : Nat} {xs : List SV}, SCells St w b off xs → w'.heap[b]? = w.heap[b]? → SCells St' w' b off xs
  | _, _, _, .nil b off, _ => .nil b off
  | _, _, _, .cons b off x v xs hc h hs, hb => .cons b off x v xs ((cell_of_block hb).trans hc) (h.goes g) (hs.goes g hb)
theorem SRows.goes (g : Goes St St' w w') : ∀ {k b off : Nat} {rows : List (List SV)}, SRows St w k b off rows → w'.heap[b]? = w.heap[b]? → SRows St' w' k b off rows
  | _, _, _, _, .nil k b off, _ => .nil k b off
  | _, _, _, _, .cons k b off row rows hl hc hs, hb => .cons k b off row rows hl (hc.goes g hb) (hs.goes g hb)
end

theorem SList.length : ∀ {xs : List SV} {vs : List Value}, SList St w xs vs → vs.length = xs.length
  | _, _, .nil => rfl
  | _, _, .cons _ _ _ _ _ hs => by simp [hs.length]

theorem SRows.get : ∀ {k b off : Nat} {rows : List (List SV)}, SRows St w k b off rows → ∀ (i : Nat) (row : List SV), rows[i]? = some row →
    row.length = k ∧ SCells St w b (off + i * k) row
  | _, _, _, _, .cons k b off row rows hl hc hs, 0, row', e => by
    simp at e; subst e; exact ⟨hl, by simpa using hc⟩
  | _, _, _, _, .cons k b off row rows hl hc hs, i + 1, row', e => by
    simp at e
    obtain ⟨h1, h2⟩ := hs.get i row' e
    refine ⟨h1, ?_⟩
    have : off + (i + 1) * k = off + k + i * k := by rw [Nat.add_mul]; omega
    rw [this]; exact h2

theorem SRows.mk : ∀ {k b off : Nat} {rows : List (List SV)}, (∀ (i : Nat) (row : List SV), rows[i]? = some row → row.length = k ∧ SCells St w b (off + i * k) row) →
    SRows St w k b off rows := by
  intro k b off rows
  induction rows generalizing off with
  | nil => intro _; exact .nil _ _ _
  | cons row rows ih =>
    intro h
    obtain ⟨h1, h2⟩ := h 0 row rfl
    refine .cons _ _ _ _ _ h1 (by simpa using h2) (ih fun i r e => ?_)
    obtain ⟨h3, h4⟩ := h (i + 1) r (by simpa using e)
    refine ⟨h3, ?_⟩
    have : off + (i + 1) * k = off + k + i * k := by rw [Nat.add_mul]; omega
    rw [this] at h4; exact h4

/-- The cells read one by one. -/
theorem SCells.get : ∀ {b off : Nat} {xs : List SV}, SCells St w b off xs → ∀ (i : Nat) (x : SV), xs[i]? = some x → ∃ v, w.cell? ⟨b, off + i, none⟩ = some v ∧ SVal St w x v
  | _, _, _, .cons b off x v xs hc h hs, 0, x', e => by
    simp at e; subst e; exact ⟨v, by simpa using hc, h⟩
  | _, _, _, .cons b off x v xs hc h hs, i + 1, x', e => by
    simp at e
    obtain ⟨v', h1, h2⟩ := hs.get i x' e
    exact ⟨v', by rw [← h1]; congr 2; omega, h2⟩
theorem SCells.drop : ∀ {b off : Nat} {xs : List SV} (i : Nat), SCells St w b off xs → SCells St w b (off + i) (xs.drop i)
  | _, _, _, 0, h => by simpa using h
  | _, _, _, i + 1, .nil b off => by simpa using SCells.nil _ _
  | _, _, _, i + 1, .cons b off x v xs hc h hs => by
    have := SCells.drop i hs
    rw [show off + (i + 1) = off + 1 + i from by omega]
    simpa using this
theorem SCells.take : ∀ {b off : Nat} {xs : List SV} (i : Nat), SCells St w b off xs → SCells St w b off (xs.take i)
  | _, _, _, 0, h => by simpa using SCells.nil _ _
  | _, _, _, i + 1, .nil b off => by simpa using SCells.nil _ _
  | _, _, _, i + 1, .cons b off x v xs hc h hs => by
    simpa using SCells.cons _ _ _ _ _ hc h (hs.take i)
/-- All of them as a list of values. -/
theorem SCells.list : ∀ {b off : Nat} {xs : List SV}, SCells St w b off xs → ∃ vs, SList St w xs vs ∧ ∀ i v, vs[i]? = some v → w.cell? ⟨b, off + i, none⟩ = some v
  | _, _, _, .nil b off => ⟨[], .nil, by simp⟩
  | _, _, _, .cons b off x v xs hc h hs => by
    obtain ⟨vs, h1, h2⟩ := hs.list
    refine ⟨v :: vs, .cons _ _ _ _ h h1, fun i u e => ?_⟩
    cases i with
    | zero => simp at e; subst e; simpa using hc
    | succ i => simp at e; rw [← h2 i u e]; congr 2; omega
end
end Go.Proofs.YtohmbpcjapjkbaaGreatDoorAl
