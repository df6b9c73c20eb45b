/- The A-logic: bytes made a text. -/
import Derived.Test.YtohmbpcjapjkbaaGreatDoorAlZj
import Derived.Laws.BytesString
import Derived.Laws.Cells
set_option linter.all false
namespace Go.Proofs.YtohmbpcjapjkbaaGreatDoorAl
def strOf (l : List UInt8) : ByteArray := ⟨l.toArray⟩
theorem push_all : ∀ (l : List UInt8) (s : ByteArray), (l.map fun b => (b.toNat : Int)).foldl (fun r n => r.push (UInt8.ofNat n.toNat)) s = ⟨(s.data.toList ++ l).toArray⟩
  | [], s => by simp
  | b :: r, s => by
    rw [List.map_cons, List.foldl_cons, push_all r]
    have : UInt8.ofNat (b.toNat : Int).toNat = b := by simp
    rw [this]
    simp [ByteArray.push]
theorem rowB_vals {St : Nat → Prop} {w : World} : ∀ {l : List UInt8} {vs : List Value}, SList St w (l.map rowB).flatten vs → vs = (l.map fun b => (b.toNat : Int)).map (Value.int .u8)
  | [], _, h => by cases h; rfl
  | b :: r, _, h => by
    cases h with
    | cons _ _ _ _ h1 h2 =>
      cases h1
      rw [rowB_vals (l := r) h2]; rfl
section
variable {P : Program} {ops : Array Oper} {j : Nat} {l : List Oper} {q : S → Prop} {N n : Nat} {t : Tm} {h : Heap} {d : Nat} {ty : TypeId} {pos : String} {af : Array Edge} {g : Option (Nat × Bool)} {L : Lay}
theorem st_strOf {t1 t2 e bytes : Nat} {x : Operand} {b : List UInt8} {i1 i2 ie : TI} (hL : LayOk P L) (hx : evT t x = some (.st (.sl 1 (b.map rowB)))) (ht : look L t1 = some i1) (hk : i1.k = .slice e 1 bytes) (hte : look L e = some ie) (hke : ie.k = .int .u8)
    (hu : look L t2 = some i2) (hk2 : i2.k = .string) (k : OpsL P ops (j + 1) l ⟨N, n, (d, .st (.str (strOf b))) :: t, h⟩ q) : OpG P ops j ⟨some d, .convert t1 t2 x, ty, pos, af, g⟩ l ⟨N, n, t, h⟩ q :=
  OpOk.pure (fun c ac hs => by
    have hv := st_inv (S.ev_val hs (x := x) (by rw [evT_eq]; exact hx))
    obtain ⟨_, _, _, g1, _, g3, _⟩ := tiOf_parts (hL t1 i1 ht)
    rw [hk] at g3
    obtain ⟨g4, _⟩ := tk_inv g3
    subst g4
    obtain ⟨_, _, _, f1, _, f3, _⟩ := tiOf_parts (hL e ie hte)
    rw [hke] at f3
    have f4 := tk_inv f3
    subst f4
    obtain ⟨_, _, _, u1, _, u3, _⟩ := tiOf_parts (hL t2 i2 hu)
    rw [hk2] at u3
    have u4 := tk_inv u3
    subst u4
    generalize hp : ac.eval x = p at hv
    have key : ∃ a m cap, p = .slice a m cap ∧ (Conv.bytesToString (.slice a m cap)).run P c.w = .ok (.string (strOf b)) c.w := by
      generalize hr : b.map rowB = rows at hv
      cases hv with
      | slnil _ a cap =>
        refine ⟨a, 0, cap, rfl, ?_⟩
        have hb : b = [] := List.map_eq_nil_iff.1 hr
        subst hb
        cases a with
        | none => rfl
        | some a => exact run_bytesToString c.w a 0 cap [] (run_loadCells_list (w := c.w) a [] (fun _ _ e => by cases e))
      | sl _ b0 off cap _ h1 h2 h3 =>
        refine ⟨_, _, cap, rfl, ?_⟩
        obtain ⟨olds, ho1, ho2, ho3, ho4⟩ := h2.flat
        subst hr
        have hvs := rowB_vals ho2
        have := run_bytesToString (P := P) c.w ⟨b0, off, none⟩ (b.map rowB).length cap (b.map fun b => (b.toNat : Int)) (by
          rw [← hvs]
          have h5 := run_loadCells_list (P := P) (w := c.w) ⟨b0, off, none⟩ olds (fun j v e => by rw [add_lit]; exact ho3 j v e)
          rw [ho1, Nat.mul_one] at h5
          exact h5)
        rw [this, push_all]
        simp [strOf]
    obtain ⟨a, m, cap, rfl, hrun⟩ := key
    refine ⟨.string (strOf b), ?_, .st _ _ (.str _)⟩
    simp [execOp, hp, run_convert_bytes_string c.w t1 t2 _ a m cap g1 f1 u1, hrun]) k
end
end Go.Proofs.YtohmbpcjapjkbaaGreatDoorAl
