/- The A-logic, part 24: the rule of append. -/
import Derived.Test.YtohmbpcjapjkbaaGreatDoorAlX
set_option linter.all false
namespace Go.Proofs.YtohmbpcjapjkbaaGreatDoorAl

inductive SrcIs (h : Heap) (k : Nat) : AV → List (List SV) → Prop
  | nilsl : SrcIs h k (.st .nilsl) []
  | sl0 : SrcIs h k (.st .sl0) []
  | sl {rows : List (List SV)} : SrcIs h k (.st (.sl k rows)) rows
  | lsl {id len : Nat} {rows : List (List SV)} : look h id = some (.arr k rows) → len = rows.length → SrcIs h k (.lsl id k 0 len) rows
inductive BaseIs (h : Heap) (k : Nat) : AV → List (List SV) → Option Nat → Prop
  | nilsl : BaseIs h k (.st .nilsl) [] none
  | sl0 : BaseIs h k (.st .sl0) [] none
  | lsl {id len : Nat} {rows : List (List SV)} : look h id = some (.arr k rows) → len = rows.length → BaseIs h k (.lsl id k 0 len) rows (some id)
theorem SrcIs.rows {h : Heap} {k : Nat} {X : AV} {rows : List (List SV)} (s : SrcIs h k X rows) : srcRows h k X = some rows := by
  cases s with
  | nilsl => rfl
  | sl0 => rfl
  | sl => simp [srcRows]
  | lsl h1 h2 => subst h2; simp [srcRows, h1]

theorem firstCells_zero {P : Program} (k : Nat) (a : Option Addr) (cap : Nat) (w : World) : (Builtin.firstCells k 0 (.slice a 0 cap)).run P w = .ok (([] : List Value).toArray) w := by
  cases a <;> simp [Builtin.firstCells, loadCells, loadCellsFrom]

section
variable {P : Program} {c : Cfg} {h : Heap} {k e tx t ty : Nat} {ii : TypeInfo} {z x v0 : Value} {rows rows2 : List (List SV)}

theorem app_all (hr : HRel c h) {X Y : AV} {o : Option Nat} (hX : AVal c X v0) (hY : AVal c Y x) (hb : BaseIs h k X rows o) (hs : SrcIs h k Y rows2) (hone : ∀ row ∈ rows2, ∀ y ∈ row, SV.one y = true)
    (ht : P.underlying t = some (.slice e)) {e' : TypeId} (htx : P.underlying tx = some (.slice e')) (hi : P.info? e = some ii) (hz : ii.zero = some z) (hk : ii.size = k) (hzs : z.cells.size = k)
    (h63 : rows.length + rows2.length ≤ 140737488355328) (h48 : (rows.length + rows2.length) * ii.bytes ≤ 140737488355328) :
    ∃ v w', (Builtin.append_ #[t, tx] ty #[v0, x]).run P c.w = .ok v w' ∧ AppOk c h k (rows ++ rows2) o v w' := by
  obtain ⟨news, s1, s2, s3⟩ := src_of hr hY hs.rows hone htx
  -- nothing there yet
  have empty : ∀ (o : Option Nat) (a : Option Addr), rows = [] → ∃ v w', (Builtin.append_ #[t, tx] ty #[.slice a 0 0, x]).run P c.w = .ok v w' ∧ AppOk c h k (rows ++ rows2) o v w' := fun o a h0 => by
    subst h0
    by_cases h2 : rows2 = []
    · subst h2
      have : news = [] := by
        have := s1.newsLen
        simpa using this
      subst this
      exact app_none hr o ht hi hk s1
    · have hpos : 0 < rows2.length := List.length_pos_iff.2 h2
      exact app_grow (rows := []) (olds := []) hr o ht hi hz hk hzs (firstCells_zero k a 0 _) .nil (by simp) (by simp) s1 s2 s3 (by simpa using hpos) h63 h48
  cases hb with
  | nilsl =>
    cases st_inv hX
    exact empty none none rfl
  | sl0 =>
    cases st_inv hX
    exact empty none _ rfl
  | lsl hl hn =>
    cases hX with
    | lsl0 => exact empty _ _ (List.length_eq_zero_iff.1 hn.symm)
    | lsl _ _ _ _ cap T size a1 a2 a3 a4 =>
      by_cases h0 : rows = []
      · subst h0
        have hl0 := hn
        simp only [List.length_nil] at hl0
        have hc0 : cap = 0 := a2.2 hl0
        subst hl0 hc0
        exact empty _ _ rfl
      · rw [Nat.zero_mul]
        subst hn
        rcases Nat.lt_or_ge cap (rows.length + rows2.length) with hg | hg
        · obtain ⟨cs, T', fr, hblk, _, _, hrows⟩ := hr.rel _ _ hl h0
          obtain ⟨olds, ho1, ho2, ho3, ho4⟩ := hrows.flat
          refine app_grow (olds := olds) hr _ ht hi hz hk hzs ?_ ho2 ho1 ho4 s1 s2 s3 hg h63 h48
          exact run_firstCells_some (P := P) c.w.drew k rows.length _ rows.length cap olds ho1 (fun j u e => by rw [add_lit]; simpa using ho3 j u e)
        · exact app_room hr hl h0 ht hi hk a3 (by rw [Nat.zero_add] at a4; exact a4) s1 s2 s3 hg
end

section
variable {P : Program} {ops : Array Oper} {j : Nat} {l : List Oper} {q : S → Prop} {N n : Nat} {t : List (Nat × AV)} {h : Heap} {d : Nat} {ty : TypeId} {pos : String} {af : Array Edge} {g : Option (Nat × Bool)} {L : Lay}

theorem st_append {t1 tx e sz bytes e' sz' bytes' : Nat} {x y : Operand} {X Y : AV} {rows rows2 : List (List SV)} {o : Option Nat} {i ix ie : TI} {h' : Heap} (hL : LayOk P L) (hx : evT t x = some X) (hy : evT t y = some Y)
    (ht : look L t1 = some i) (hk : i.k = .slice e sz bytes) (htx : look L tx = some ix) (hkx : ix.k = .slice e' sz' bytes') (hte : look L e = some ie) (hz : Nat.beq (svCells ie.zero).length sz = true)
    (hb : BaseIs h sz X rows o) (hs : SrcIs h sz Y rows2) (hd : delO o h = h') (hone : ∀ row ∈ rows2, ∀ y ∈ row, SV.one y = true) (h63 : rows.length + rows2.length ≤ 140737488355328) (h48 : (rows.length + rows2.length) * bytes ≤ 140737488355328)
    (k : OpsL P ops (j + 1) l ⟨N, n + 1, (d, .lsl n sz 0 (rows ++ rows2).length) :: t, (n, .arr sz (rows ++ rows2)) :: h'⟩ q) : OpG P ops j ⟨some d, .call ⟨.builtin .append, #[x, y], #[t1, tx]⟩, ty, pos, af, g⟩ l ⟨N, n, t, h⟩ q :=
  OpOk.intro fun c a hsr => by
    subst hd
    obtain ⟨dd, _, _, g1, _, g3, _⟩ := tiOf_parts (hL t1 i ht)
    rw [hk] at g3
    obtain ⟨g4, ii, g5, g6, g7⟩ := tk_inv g3
    subst g4
    obtain ⟨dx, _, _, f1, _, f3, _⟩ := tiOf_parts (hL tx ix htx)
    rw [hkx] at f3
    obtain ⟨f4, _⟩ := tk_inv f3
    subst f4
    obtain ⟨_, jj, zz, _, e2, _, _, _, _, e6, e7⟩ := tiOf_parts (hL e ie hte)
    rw [g5] at e2; cases e2
    have hzs : zz.cells.size = sz := by
      have hl := (svCells_val (St := c.St) (w := c.w) (svOf_val e7)).length
      rw [Nat.eq_of_beq_eq_true hz] at hl
      simpa using hl
    obtain ⟨v, w', hrun, c', rfl, hn', hrel, hev, hv⟩ := app_all (P := P) (t := t1) (tx := tx) (ty := ty) hsr.h (S.ev_val hsr (by rw [evT_eq]; exact hx)) (S.ev_val hsr (by rw [evT_eq]; exact hy)) hb hs hone g1 f1 g5 e6 g6 hzs h63 (by rw [g7]; exact h48)
    have hcn : c.n = n := hsr.n
    rw [hcn] at hrel hev hv
    refine ⟨_, _, n + 1, v, c', ?_, k, hev, by rw [hn', hcn], hrel, hv⟩
    simp [execOp, resolve, invoke, builtin, hrun]

def binB : BinOp → Bool → Bool → Option Bool
  | .eql, a, b => some (decide (a = b))
  | .neq, a, b => some (decide (a ≠ b))
  | _, _, _ => none
theorem st_binB {op : BinOp} {t1 t2 : TypeId} {x y : Operand} {a b r : Bool} {i : TI} (hL : LayOk P L) (h1 : evT t x = some (.st (.bool a))) (h2 : evT t y = some (.st (.bool b))) (ht : look L t1 = some i) (hk : i.k = .bool) (hz : binB op a b = some r)
    (k : OpsL P ops (j + 1) l ⟨N, n, (d, .st (.bool r)) :: t, h⟩ q) : OpG P ops j ⟨some d, .binOp op t1 x y t2, ty, pos, af, g⟩ l ⟨N, n, t, h⟩ q :=
  ok_binB hL (by rw [evT_eq]; exact h1) (by rw [evT_eq]; exact h2) ht hk (by
    cases op <;> simp only [binB, Option.some.injEq, reduceCtorEq] at hz
    · exact .inl ⟨rfl, hz.symm⟩
    · exact .inr ⟨rfl, hz.symm⟩) k
end
end Go.Proofs.YtohmbpcjapjkbaaGreatDoorAl
