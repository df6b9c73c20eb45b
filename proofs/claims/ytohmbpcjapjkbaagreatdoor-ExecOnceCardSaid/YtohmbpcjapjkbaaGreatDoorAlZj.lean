/- The A-logic: calls that bring new objects; arrays frozen ahead of a call; a text appended to bytes. -/
import Derived.Test.YtohmbpcjapjkbaaGreatDoorAlZi
import Derived.Deep.AppendSrc
set_option linter.all false
namespace Go.Proofs.YtohmbpcjapjkbaaGreatDoorAl
section
variable {P : Program} {c : Cfg} {h : Heap} {k e tx t ty : Nat} {ii : TypeInfo} {z x v0 : Value} {rows rows2 : List (List SV)}
theorem app_any (hr : HRel c h) {X : AV} {o : Option Nat} {news : List Value} (hX : AVal c X v0) (hb : BaseIs h k X rows o) (s1 : Src P k tx x rows2.length news c.w) (s2 : SList c.St c.w rows2.flatten news) (s3 : ∀ row ∈ rows2, row.length = k)
    (ht : P.underlying t = some (.slice e)) (hi : P.info? e = some ii) (hz : ii.zero = some z) (hk : ii.size = k) (hzs : z.cells.size = k)
    (h63 : rows.length + rows2.length ≤ 140737488355328) (h48 : (rows.length + rows2.length) * ii.bytes ≤ 140737488355328) :
    ∃ v w', (Builtin.append_ #[t, tx] ty #[v0, x]).run P c.w = .ok v w' ∧ AppOk c h k (rows ++ rows2) o v w' := by
  have empty : ∀ (o : Option Nat) (a : Option Addr), rows = [] → ∃ v w', (Builtin.append_ #[t, tx] ty #[.slice a 0 0, x]).run P c.w = .ok v w' ∧ AppOk c h k (rows ++ rows2) o v w' := fun o a h0 => by
    subst h0
    by_cases h2 : rows2 = []
    · subst h2
      have : news = [] := by
        have := s1.newsLen
        simpa using this
      subst this
      exact app_none hr o ht hi hk s1
    · have hpos : 0 < rows2.length := List.length_pos_iff.2 h2
      exact app_grow (rows := []) (olds := []) hr o ht hi hz hk hzs (firstCells_zero k a 0 _) .nil (by simp) (by simp) s1 s2 s3 (by simpa using hpos) h63 h48
  cases hb with
  | nilsl =>
    cases st_inv hX
    exact empty none none rfl
  | sl0 =>
    cases st_inv hX
    exact empty none _ rfl
  | lsl hl hn =>
    cases hX with
    | lsl0 => exact empty _ _ (List.length_eq_zero_iff.1 hn.symm)
    | lsl _ _ _ _ cap T size a1 a2 a3 a4 =>
      by_cases h0 : rows = []
      · subst h0
        have hl0 := hn
        simp only [List.length_nil] at hl0
        have hc0 : cap = 0 := a2.2 hl0
        subst hl0 hc0
        exact empty _ _ rfl
      · rw [Nat.zero_mul]
        subst hn
        rcases Nat.lt_or_ge cap (rows.length + rows2.length) with hg | hg
        · obtain ⟨cs, T', fr, hblk, _, _, hrows⟩ := hr.rel _ _ hl h0
          obtain ⟨olds, ho1, ho2, ho3, ho4⟩ := hrows.flat
          refine app_grow (olds := olds) hr _ ht hi hz hk hzs ?_ ho2 ho1 ho4 s1 s2 s3 hg h63 h48
          exact run_firstCells_some (P := P) c.w.drew k rows.length _ rows.length cap olds ho1 (fun j u e => by rw [add_lit]; simpa using ho3 j u e)
        · exact app_room hr hl h0 ht hi hk a3 (by rw [Nat.zero_add] at a4; exact a4) s1 s2 s3 hg
end
def rowB (b : UInt8) : List SV := [.int .u8 b.toNat]
theorem rowB_cells (St : Nat → Prop) (w : World) : ∀ l : List UInt8, SList St w (l.map rowB).flatten (l.map fun b => Value.int .u8 b.toNat)
  | [] => .nil
  | b :: r => .cons _ _ _ _ (.int _ _) (rowB_cells St w r)
section
variable {P : Program} {ops : Array Oper} {j : Nat} {l : List Oper} {q : S → Prop} {N n : Nat} {t : Tm} {h : Heap} {d : Nat} {ty : TypeId} {pos : String} {af : Array Edge} {g : Option (Nat × Bool)} {L : Lay}
/-- append of a text's bytes. -/
theorem st_appendS {t1 tx e bytes : Nat} {x y : Operand} {X : AV} {s : ByteArray} {rows : List (List SV)} {o : Option Nat} {i ix ie : TI} {h' : Heap} (hL : LayOk P L) (hx : evT t x = some X) (hy : evT t y = some (.st (.str s)))
    (ht : look L t1 = some i) (hk : i.k = .slice e 1 bytes) (htx : look L tx = some ix) (hkx : ix.k = .string) (hte : look L e = some ie) (hz : Nat.beq (svCells ie.zero).length 1 = true)
    (hb : BaseIs h 1 X rows o) (hd : delO o h = h') (h63 : rows.length + s.size ≤ 140737488355328) (h48 : (rows.length + s.size) * bytes ≤ 140737488355328)
    (k : OpsL P ops (j + 1) l ⟨N, n + 1, (d, .lsl n 1 0 (rows ++ s.data.toList.map rowB).length) :: t, (n, .arr 1 (rows ++ s.data.toList.map rowB)) :: h'⟩ q) : OpG P ops j ⟨some d, .call ⟨.builtin .append, #[x, y], #[t1, tx]⟩, ty, pos, af, g⟩ l ⟨N, n, t, h⟩ q :=
  OpOk.intro fun c a hsr => by
    subst hd
    obtain ⟨dd, _, _, g1, _, g3, _⟩ := tiOf_parts (hL t1 i ht)
    rw [hk] at g3
    obtain ⟨g4, ii, g5, g6, g7⟩ := tk_inv g3
    subst g4
    obtain ⟨dx, _, _, f1, _, f3, _⟩ := tiOf_parts (hL tx ix htx)
    rw [hkx] at f3
    have f4 := tk_inv f3
    subst f4
    obtain ⟨_, jj, zz, _, e2, _, _, _, _, e6, e7⟩ := tiOf_parts (hL e ie hte)
    rw [g5] at e2; cases e2
    have hzs : zz.cells.size = 1 := by
      have hl := (svCells_val (St := c.St) (w := c.w) (svOf_val e7)).length
      rw [Nat.eq_of_beq_eq_true hz] at hl
      simpa using hl
    have hlen : (s.data.toList.map rowB).length = s.size := by rw [List.length_map, Array.length_toList]; rfl
    have hyv : a.eval y = .string s := by
      have := st_inv (S.ev_val hsr (x := y) (by rw [evT_eq]; exact hy))
      generalize a.eval y = p at this
      cases this; rfl
    have hsrc : Src P 1 tx (.string s) (s.data.toList.map rowB).length (byteCells s) c.w := by rw [hlen]; exact Src.ofString _ f1 s
    obtain ⟨v, w', hrun, c', rfl, hn', hrel, hev, hv⟩ := app_any (P := P) (t := t1) (tx := tx) (ty := ty) (rows2 := s.data.toList.map rowB) hsr.h (S.ev_val hsr (by rw [evT_eq]; exact hx)) hb hsrc (rowB_cells _ _ _)
      (fun row hr => by obtain ⟨_, _, rfl⟩ := List.mem_map.1 hr; rfl) g1 g5 e6 g6 hzs (by rw [hlen]; exact h63) (by rw [hlen, g7]; exact h48)
    have hcn : c.n = n := hsr.n
    rw [hcn] at hrel hev hv
    refine ⟨_, _, n + 1, v, c', ?_, k, hev, by rw [hn', hcn], hrel, hv⟩
    simp [execOp, resolve, invoke, builtin, hyv, hrun]
/-- A call that brings new objects. -/
theorem st_callF {fo : Operand} {args : Array Operand} {ts : Array TypeId} {f m : Nat} {args0 ys : List AV} {h0 h1 h2 : Heap} {x x' : AV} {nl : List Nat} (B : Nat) (hc : ACalls P f m args0 h0 fun r h' => r = x ∧ h' = h1) (hb : HasBody P f)
    (hargs : callT t fo args.toList = some (f, ys)) (hnl : frc (ddN (idsL ys) []) some = some nl) (hm : nl.length = m) (hy : renL (nam nl n) args0 = ys)
    (hb0 : (belL m args0 && belH m h0 && okNames n nl && Nat.ble m (m + B) && x.bel (m + B) && belH (m + B) h1) = true) (hx : x.ren (nam nl n) = x') (hh : Sub (renH (nam nl n) h0) h) (h3 : frc (renH (nam nl n) h1 ++ delAll nl h) some = some h2)
    (k : OpsL P ops (j + 1) l ⟨N, n + B, (d, x') :: t, h2⟩ q) : OpG P ops j ⟨some d, .call ⟨.value fo, args, ts⟩, ty, pos, af, g⟩ l ⟨N, n, t, h⟩ q := by
  subst hm hx
  rw [frc_eq] at h3; cases h3
  simp only [Bool.and_eq_true] at hb0
  obtain ⟨⟨⟨⟨⟨b1, b2⟩, b3⟩, b4⟩, b5⟩, b6⟩ := hb0
  refine st_call nl (nl.length + B) hc hb (by rw [hy]; exact hargs) (by simp only [b1, b2, b3, b4, Bool.and_self]) hh ?_
  rintro r h' ⟨rfl, rfl⟩
  refine ⟨by simp only [b5, b6, Bool.and_self], ?_⟩
  rw [Nat.add_sub_cancel_left]
  exact k
end
end Go.Proofs.YtohmbpcjapjkbaaGreatDoorAl
