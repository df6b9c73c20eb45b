/- The A-logic: maps of integers and texts; fields of values; max and min. -/
import Derived.Test.YtohmbpcjapjkbaaGreatDoorAlZb
import Derived.MapKept
set_option linter.all false
namespace Go.Proofs.YtohmbpcjapjkbaaGreatDoorAl
/-- The same key? -/
def skEq : SV → SV → Bool
  | .int _ a, .int _ b => decide (a = b)
  | .str a, .str b => decide (a = b)
  | _, _ => false
theorem bb_eq (a b : ByteArray) : (a == b) = decide (a = b) := by
  cases a with | mk a =>
  cases b with | mk b =>
  rw [Bool.eq_iff_iff, decide_eq_true_eq]
  constructor
  · intro h
    have : (a == b) = true := h
    rw [beq_iff_eq] at this
    rw [this]
  · intro h
    cases h
    show (a == a) = true
    simp
def kindK : TK → SV → Bool
  | .int k, .int k' _ => kEq k k'
  | .string, .str _ => true
  | _, _ => false
def mfind (k : SV) : List (SV × SV) → Option SV
  | [] => none
  | (a, v) :: r => if skEq k a = true then some v else mfind k r
def mput (k v : SV) : List (SV × SV) → List (SV × SV)
  | [] => [(k, v)]
  | (a, w) :: r => if skEq k a = true then (k, v) :: r else (a, w) :: mput k v r
section
variable {c : Cfg}
/-- The entries of a map, one by one. -/
inductive MRel (c : Cfg) : List (SV × SV) → List MapEntry → Prop
  | nil : MRel c [] []
  | cons (k v : SV) (e : MapEntry) (es : List (SV × SV)) (ms : List MapEntry) : SVal c.St c.w k e.key → SVal c.St c.w v e.val → MRel c es ms → MRel c ((k, v) :: es) (e :: ms)
theorem MRel.of : ∀ {es : List (SV × SV)} {ms : List MapEntry}, ms.length = es.length → (∀ (i : Nat) k v, es[i]? = some (k, v) → ∃ e, ms[i]? = some e ∧ SVal c.St c.w k e.key ∧ SVal c.St c.w v e.val) → MRel c es ms
  | [], [], _, _ => .nil
  | [], _ :: _, h, _ => by simp at h
  | _ :: _, [], h, _ => by simp at h
  | (k, v) :: es, m :: ms, hl, h => by
    obtain ⟨e, h1, h2, h3⟩ := h 0 k v rfl
    simp at h1; subst h1
    exact .cons k v m es ms h2 h3 (MRel.of (by simpa using hl) fun i k v e => by simpa using h (i + 1) k v (by simpa using e))
theorem MRel.length : ∀ {es : List (SV × SV)} {ms : List MapEntry}, MRel c es ms → ms.length = es.length
  | _, _, .nil => rfl
  | _, _, .cons _ _ _ _ _ _ _ h => by simp [h.length]
theorem MRel.get : ∀ {es : List (SV × SV)} {ms : List MapEntry}, MRel c es ms → ∀ (i : Nat) k v, es[i]? = some (k, v) → ∃ e, ms[i]? = some e ∧ SVal c.St c.w k e.key ∧ SVal c.St c.w v e.val
  | _, _, .cons k v e es ms h1 h2 h3, 0, k', v', e' => by simp at e'; obtain ⟨rfl, rfl⟩ := e'; exact ⟨e, rfl, h1, h2⟩
  | _, _, .cons k v e es ms h1 h2 h3, i + 1, k', v', e' => by simpa using h3.get i k' v' (by simpa using e')
theorem MRel.goes {c' : Cfg} (g : Goes c.St c'.St c.w c'.w) : ∀ {es : List (SV × SV)} {ms : List MapEntry}, MRel c es ms → MRel c' es ms
  | _, _, .nil => .nil
  | _, _, .cons _ _ _ _ _ h1 h2 h3 => .cons _ _ _ _ _ (h1.goes g) (h2.goes g) (h3.goes g)

/-- A key's value. -/
def keyVal : SV → Option Value
  | .int k n => some (.int k n)
  | .str s => some (.string s)
  | _ => none
theorem keyVal_val {k : SV} {v kv : Value} (hk : keyVal k = some kv) (h : SVal c.St c.w k v) : v = kv := by
  cases h <;> simp [keyVal] at hk <;> exact hk
def descK : TypeDesc → SV → Bool
  | .int k, .int k' _ => decide (k = k')
  | .string, .str _ => true
  | _, _ => false
theorem sameNow_ok {desc : TypeDesc} {k a : SV} {kv av : Value} (hk : keyVal k = some kv) (hav : SVal c.St c.w a av) (h1 : descK desc k = true) (h2 : descK desc a = true) : Instr.sameNow desc kv av = some (skEq k a) := by
  cases desc <;> cases k <;> cases a <;> simp [descK] at h1 h2
  · subst h1; subst h2; cases hav; simp [keyVal] at hk; subst hk; simp [Instr.sameNow, skEq]; rw [Bool.eq_iff_iff]; simp
  · cases hav; simp [keyVal] at hk; subst hk; simp [Instr.sameNow, skEq, bb_eq]
theorem findNow_ok {desc : TypeDesc} {k : SV} {kv : Value} (hk : keyVal k = some kv) (h1 : descK desc k = true) : ∀ {es : List (SV × SV)} {ms : List MapEntry}, MRel c es ms → (∀ e ∈ es, descK desc e.1 = true) → ∀ i,
    (mfind k es = none ∧ Instr.findNow desc kv ms i = some none) ∨ ∃ j v w, mfind k es = some v ∧ Instr.findNow desc kv ms i = some (some (i + j, w)) ∧ SVal c.St c.w v w ∧ (∃ e, ms[j]? = some e ∧ e.key = kv) ∧ mput k v es = es.set j (k, v) ∧ ∀ u, mput k u es = es.set j (k, u)
  | _, _, .nil, _, i => .inl ⟨rfl, rfl⟩
  | _, _, .cons a v e es ms g1 g2 g3, hall, i => by
    have hs := sameNow_ok hk g1 h1 (hall (a, v) (by simp))
    cases hb : skEq k a with
    | true =>
      refine .inr ⟨0, v, e.val, by simp [mfind, hb], by simp [Instr.findNow, hs, hb], g2, ⟨e, rfl, ?_⟩, by simp [mput, hb], fun u => by simp [mput, hb]⟩
      have h2 := hall (a, v) (by simp)
      clear hs
      cases desc <;> cases k <;> cases a <;> simp [descK] at h1 h2
      · subst h1; subst h2; simp [keyVal] at hk; subst hk; simp [skEq] at hb; subst hb; exact (keyVal_val rfl g1)
      · simp [keyVal] at hk; subst hk; simp [skEq] at hb; subst hb; exact (keyVal_val rfl g1)
    | false =>
      rcases findNow_ok hk h1 g3 (fun e he => hall e (List.mem_cons_of_mem _ he)) (i + 1) with ⟨a1, a2⟩ | ⟨j, v', w, a1, a2, a3, a4, a5, a6⟩
      · exact .inl ⟨by simp [mfind, hb, a1], by simp [Instr.findNow, hs, hb, a2]⟩
      · refine .inr ⟨j + 1, v', w, by simp [mfind, hb, a1], by simp [Instr.findNow, hs, hb, a2]; omega, a3, by simpa using a4, by simp [mput, hb, a5], fun u => by simp [mput, hb, a6]⟩
theorem mput_new {k v : SV} : ∀ {es : List (SV × SV)}, mfind k es = none → mput k v es = es ++ [(k, v)]
  | [], _ => rfl
  | (a, w) :: r, h => by
    simp only [mfind] at h
    split at h
    · cases h
    · rename_i hn; simp [mput, hn, mput_new h]
end

section
variable {P : Program} {ops : Array Oper} {j : Nat} {l : List Oper} {q : S → Prop} {s : S} {N n : Nat} {t : Tm} {h : Heap} {Q : Exit → S → Prop} {L : Lay}
variable {d : Nat} {ty : TypeId} {pos : String} {af : Array Edge} {g : Option (Nat × Bool)}

theorem st_makeMap {t1 : TypeId} (k : OpsL P ops (j + 1) l ⟨N, n + 1, (d, .map n) :: t, (n, .map []) :: h⟩ q) : OpG P ops j ⟨some d, .makeMap t1 none, ty, pos, af, g⟩ l ⟨N, n, t, h⟩ q :=
  OpOk.intro fun c a hs => by
    have hn := hs.n
    simp only at hn
    subst hn
    refine ⟨_, _, _, .map (some c.w.heap.size), c.alloc (.map #[] 0), ?_, k, ?_, ?_, ?_, ?_⟩
    · simp [execOp, Instr.makeMap, Cfg.alloc]
    · exact ev_alloc hs.h
    · simp [Cfg.alloc]
    · exact hrel_alloc hs.h ⟨#[], 0, heap_alloc_new, rfl, fun i k v e => by simp at e, fun i e he => by simp at he, by simp⟩
    · have : (c.alloc (.map #[] 0)).ι c.n = c.w.heap.size := by simp [Cfg.alloc]
      rw [← this]; exact .map _ (Nat.lt_succ_self _)

/-- A map's type: its keys' description. -/
theorem map_desc {t1 kt et : Nat} {i ik : TI} {key : SV} (hL : LayOk P L) (ht : look L t1 = some i) (hk : i.k = .map kt et) (htk : look L kt = some ik) (hkk : kindK ik.k key = true) :
    ∃ desc, P.underlying t1 = some (.map kt et) ∧ P.underlying kt = some desc ∧ descK desc key = true := by
  obtain ⟨dd, _, _, g1, _, g3, _⟩ := tiOf_parts (hL t1 i ht)
  rw [hk] at g3
  have g4 : dd = .map kt et := tk_inv g3
  subst g4
  obtain ⟨dk, _, _, f1, _, f3, _⟩ := tiOf_parts (hL kt ik htk)
  refine ⟨dk, g1, f1, ?_⟩
  have f4 := tk_inv f3
  generalize ik.k = tk at *
  cases tk <;> cases key <;> simp [kindK] at hkk
  · have f5 : dk = .string := f4
    subst f5; rfl
  · cases f4; have := kEq_eq hkk; subst this; simp [descK]
theorem run_checkKey' {w : World} {em : Bool} {kt : Nat} {desc : TypeDesc} {key : SV} {kv : Value} (h1 : P.underlying kt = some desc) (h2 : descK desc key = true) (hk : keyVal key = some kv) : (Instr.checkKey em 10000 kt kv).run P w = .ok () w := by
  have : ∀ m, (Instr.checkKey em (m + 1) kt kv).run P w = .ok () w := by
    intro m
    cases desc <;> cases key <;> simp [descK] at h2
    · simp [keyVal] at hk; subst hk; simp [Instr.checkKey, run_underlying h1]
    · simp [keyVal] at hk; subst hk; simp [Instr.checkKey, run_underlying h1]
  exact this 9999
theorem desc_all {desc : TypeDesc} {key : SV} {es : List (SV × SV)} {tk : TK} {d : TypeDesc} (hs : ∀ e ∈ es, kindK tk e.1 = true) (hd : TkSays P d tk) : ∀ e ∈ es, descK d e.1 = true := by
  intro e he
  have hkk := hs e he
  obtain ⟨a, b⟩ := e
  cases tk <;> cases a <;> simp [kindK] at hkk
  · have : d = .string := hd
    subst this; rfl
  · cases hd; have := kEq_eq hkk; subst this; simp [descK]

theorem keyStays {w : World} {k v : Value} {key : SV} (h1 : keyVal key = some v) (h2 : k = v) : (Instr.keyThatStays k v).run P w = .ok v w := by
  subst h2
  have : ∀ m, Instr.sameBits (m + 1) k k = true := by
    intro m
    cases key <;> simp [keyVal] at h1 <;> subst h1 <;> simp [Instr.sameBits, bb_eq]
  simp [Instr.keyThatStays, this 9999]
/-- An entry is set. -/
theorem st_mapUpdate {t1 kt et : Nat} {x y z : Operand} {i ik : TI} {id : Nat} {es : List (SV × SV)} {key val : SV} {kv : Value} {h' : Heap} (hL : LayOk P L) (hx : evT t x = some (.map id)) (hy : evT t y = some (.st key)) (hz : evT t z = some (.st val)) (hh : look h id = some (.map es)) (ht : look L t1 = some i) (hk : i.k = .map kt et)
    (htk : look L kt = some ik) (hkk : kindK ik.k key = true) (hkv : keyVal key = some kv) (hd : frc (del h id) some = some h') (hall : ∀ e ∈ es, kindK ik.k e.1 = true)
    (k : OpsL P ops (j + 1) l ⟨N, n, t, (id, .map (mput key val es)) :: h'⟩ q) : OpG P ops j ⟨none, .mapUpdate t1 x y z, ty, pos, af, g⟩ l ⟨N, n, t, h⟩ q := by
  rw [frc_eq] at hd; cases hd
  have k' : OpsL P ops (j + 1) l ⟨N, n, t, (id, .map (mput key val es)) :: h⟩ q := OpsL.same (fun id' => by
    rw [look_cons, look_cons, look_del]
    split <;> rfl) k
  refine OpOk.intro_skip fun c a hs => ?_
  have h1 : a.eval x = .map (some (c.ι id)) := by
    have := S.ev_val hs (x := x) (by rw [evT_eq]; exact hx)
    generalize a.eval x = p at this
    cases this; rfl
  have h2 : a.eval y = kv := keyVal_val hkv (st_inv (S.ev_val hs (by rw [evT_eq]; exact hy)))
  have h3 := st_inv (S.ev_val hs (x := z) (by rw [evT_eq]; exact hz))
  generalize hze : a.eval z = zv at h3
  obtain ⟨desc, g1, g2, g3⟩ := map_desc (P := P) hL ht hk htk hkk
  obtain ⟨mes, clock, m1, m2, m3, m4⟩ := hs.h.rel id _ hh trivial
  have hM : MRel c es mes.toList := MRel.of (by simpa using m2) (fun i k v e => by simpa using m3 i k v e)
  obtain ⟨dk, _, _, f1, _, f3, _⟩ := tiOf_parts (hL kt ik htk)
  rw [f1] at g2; cases g2
  have hfk : ∀ r, Instr.findNow desc kv mes.toList 0 = some r → (Instr.findKey kt kv mes.toList).run P c.w = .ok r c.w := fun r hr => by
    simp [Instr.findKey, run_underlying f1, hr]
  have hlt : c.ι id < c.w.heap.size := hs.h.blk id _ hh trivial
  have hkeyS : SVal c.St c.w key kv := by
    have := st_inv (S.ev_val hs (x := y) (by rw [evT_eq]; exact hy))
    rw [h2] at this; exact this
  have fin : ∀ (mes' : Array MapEntry) (clock' : Nat), (Instr.mapUpdate t1 (.map (some (c.ι id))) kv zv).run P c.w = .ok () (setBlk c.w (c.ι id) (.map mes' clock')) → MRel c (mput key val es) mes'.toList → ((∀ (i : Nat) e, mes'[i]? = some e → e.born < clock') ∧ (mes'.toList.map (·.born)).Nodup) →
      ∃ h'' n' c', (execOp a.eval ⟨none, .mapUpdate t1 x y z, ty, pos, af, g⟩).run P c.w = .ok .skip c'.w ∧ (fun x h n => OpsL P ops (j + 1) l (S.after ⟨N, n, t, h⟩ none x h n) q) .top h'' n' ∧ Ev c h c' h'' ∧ c'.n = n' ∧ HRel c' h'' := by
    intro mes' clock' hrun hm hb
    have hsh : ∀ s, c.w.shape? (c.ι id) = some s → (setBlk c.w (c.ι id) (.map mes' clock')).shape? (c.ι id) = some s := fun s hs' => by
      simp [World.shape?, m1] at hs'
    refine ⟨(id, .map (mput key val es)) :: h, n, c.set (c.ι id) (.map mes' clock'), ?_, k', ev_set hs.h hh trivial hsh, hs.n, hrel_set hs.h hh trivial hsh ?_⟩
    · simp only [execOp, h1, h2, hze, Sem.run_bind, hrun, Result.andThen_ok]; rfl
    · have hm' := hm.goes (c' := c.set (c.ι id) (.map mes' clock')) (go_set hs.h hh trivial hsh).st
      exact ⟨mes', clock', setBlk_same hlt, by simpa using hm'.length, fun i k v e => by simpa using hm'.get i k v e, hb⟩
  rcases findNow_ok hkv g3 hM (desc_all (P := P) (key := key) (desc := desc) hall (tk_inv f3)) 0 with ⟨a1, a2⟩ | ⟨j', v, w, a1, a2, a3, ⟨e0, a4, a4'⟩, a5, a6⟩
  · refine fin (mes.push { key := kv, val := zv, born := clock }) (clock + 1) ?_ ?_ ?_
    · simp [Instr.mapUpdate, run_underlying g1, MapKept.run_getObj_map m1, run_checkKey' f1 g3 hkv, hfk _ a2, MapKept.run_setObj_map _ m1, setBlk]
    · rw [mput_new a1]
      have key : ∀ {es : List (SV × SV)} {ms : List MapEntry}, MRel c es ms → MRel c (es ++ [(key, val)]) (ms ++ [{ key := kv, val := zv, born := clock }]) := by
        intro es ms hm
        induction hm with
        | nil => exact .cons _ _ _ _ _ hkeyS h3 .nil
        | cons _ _ _ _ _ u1 u2 _ ih => exact .cons _ _ _ _ _ u1 u2 ih
      simpa using key hM
    · refine ⟨fun i e he => ?_, ?_⟩
      · rw [Array.getElem?_push] at he
        split at he
        · cases he; exact Nat.lt_succ_self _
        · exact Nat.lt_succ_of_lt (m4.1 i e he)
      · rw [Array.toList_push, List.map_append, List.nodup_append]
        refine ⟨m4.2, by simp, fun x hx y hy hxy => ?_⟩
        simp only [List.map_cons, List.map_nil, List.mem_singleton] at hy
        obtain ⟨e, he, rfl⟩ := List.mem_map.1 hx
        obtain ⟨i, hi⟩ := List.getElem?_of_mem he
        have := m4.1 i e (by simpa using hi)
        omega
  · refine fin (mes.modify j' fun e => { e with key := kv, val := zv }) clock ?_ ?_ ?_
    · have a4 : mes[j']? = some e0 := by simpa using a4
      simp [Instr.mapUpdate, run_underlying g1, MapKept.run_getObj_map m1, run_checkKey' f1 g3 hkv, hfk _ a2, a4, keyStays hkv a4', MapKept.run_setObj_map _ m1, setBlk]
    · rw [a6 val]
      have key : ∀ {es : List (SV × SV)} {ms : List MapEntry}, MRel c es ms → ∀ j', MRel c (es.set j' (key, val)) (ms.modify j' fun e => { e with key := kv, val := zv }) := by
        intro es ms hm
        induction hm with
        | nil => intro j'; simpa using MRel.nil
        | cons _ _ _ _ _ u1 u2 u3 ih =>
          intro j'
          cases j' with
          | zero => simpa using MRel.cons _ _ _ _ _ hkeyS h3 u3
          | succ j' => simpa using MRel.cons _ _ _ _ _ u1 u2 (ih j')
      simpa using key hM j'
    · refine ⟨fun i e he => ?_, ?_⟩
      · rw [Array.getElem?_modify] at he
        split at he
        · cases hm : mes[i]? with
          | none => rw [hm] at he; cases he
          | some e1 => rw [hm] at he; cases he; exact m4.1 i e1 hm
        · exact m4.1 i e he
      · have e : (mes.modify j' fun e => { e with key := kv, val := zv }).toList.map (·.born) = mes.toList.map (·.born) := by
          apply List.ext_getElem?
          intro i
          rw [List.getElem?_map, List.getElem?_map, Array.getElem?_toList, Array.getElem?_toList, Array.getElem?_modify]
          split
          · cases mes[i]? <;> rfl
          · rfl
        rw [e]; exact m4.2

theorem st_max {ts : Array TypeId} {x y : Operand} {kk : IntKind} {m1 m2 : Int} (hx : evT t x = some (.st (.int kk m1))) (hy : evT t y = some (.st (.int kk m2)))
    (k : OpsL P ops (j + 1) l ⟨N, n, (d, .st (.int kk (max m1 m2))) :: t, h⟩ q) : OpG P ops j ⟨some d, .call ⟨.builtin .max, #[x, y], ts⟩, ty, pos, af, g⟩ l ⟨N, n, t, h⟩ q :=
  OpOk.pure (fun c a hs => by
    have h1 := int_inv (S.ev_val hs (x := x) (by rw [evT_eq]; exact hx))
    have h2 := int_inv (S.ev_val hs (x := y) (by rw [evT_eq]; exact hy))
    refine ⟨.int kk (max m1 m2), ?_, .st _ _ (.int _ _)⟩
    have hp : (Builtin.max_ ts ty #[.int kk m1, .int kk m2]).run P c.w = .ok (.int kk (max m1 m2)) c.w := by
      simp [Builtin.max_, Builtin.max2]
      rw [Int.max_def]; split <;> split <;> first | rfl | omega
    simp [execOp, h1, h2, resolve, invoke, builtin, hp]) k
theorem st_min {ts : Array TypeId} {x y : Operand} {kk : IntKind} {m1 m2 : Int} (hx : evT t x = some (.st (.int kk m1))) (hy : evT t y = some (.st (.int kk m2)))
    (k : OpsL P ops (j + 1) l ⟨N, n, (d, .st (.int kk (min m1 m2))) :: t, h⟩ q) : OpG P ops j ⟨some d, .call ⟨.builtin .min, #[x, y], ts⟩, ty, pos, af, g⟩ l ⟨N, n, t, h⟩ q :=
  OpOk.pure (fun c a hs => by
    have h1 := int_inv (S.ev_val hs (x := x) (by rw [evT_eq]; exact hx))
    have h2 := int_inv (S.ev_val hs (x := y) (by rw [evT_eq]; exact hy))
    refine ⟨.int kk (min m1 m2), ?_, .st _ _ (.int _ _)⟩
    have hp : (Builtin.min_ ts ty #[.int kk m1, .int kk m2]).run P c.w = .ok (.int kk (min m1 m2)) c.w := by
      simp [Builtin.min_, Builtin.min2]
      rw [Int.min_def]; split <;> split <;> first | rfl | omega
    simp [execOp, h1, h2, resolve, invoke, builtin, hp]) k

end
end Go.Proofs.YtohmbpcjapjkbaaGreatDoorAl
