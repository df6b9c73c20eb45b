/- The A-logic: one operation, computed. -/
import Derived.Test.YtohmbpcjapjkbaaGreatDoorAlW
import Derived.Test.YtohmbpcjapjkbaaGreatDoorAlY
set_option linter.all false
namespace Go.Proofs.YtohmbpcjapjkbaaGreatDoorAl
abbrev Tm := List (Nat × AV)
/-- A list, forced to its end. -/
def frc {α β : Type} : List α → (List α → Option β) → Option β
  | [], k => k []
  | x :: xs, k => frc xs fun ys => k (x :: ys)
theorem frc_eq {α β : Type} : ∀ (l : List α) (k : List α → Option β), frc l k = k l
  | [], _ => rfl
  | x :: xs, k => by rw [frc, frc_eq xs]
def kEq : IntKind → IntKind → Bool
  | .i64, .i64 => true
  | .u64, .u64 => true
  | .u8, .u8 => true
  | .i32, .i32 => true
  | a, b => decide (a = b)
theorem kEq_eq {a b : IntKind} (h : kEq a b = true) : a = b := by
  unfold kEq at h
  split at h <;> first | rfl | exact of_decide_eq_true h
def bres : BinOp → Bool → Option Bool
  | .eql, b => some b
  | .neq, b => some (!b)
  | _, _ => none
/-- Binary operations. -/
def binT (L : Lay) (t1 : Nat) (op : BinOp) : AV → AV → Option SV
  | .st (.int ka a), .st (.int kb b) => cond (kEq ka kb) (binI op ka a b) none
  | .st (.str a), .st (.str b) => binS op a b
  | .st (.bool a), .st (.bool b) => match look L t1 with
    | some ⟨.bool, _, _, _, _⟩ => match binB op a b with
      | some r => some (.bool r)
      | none => none
    | _ => none
  | .st X, .st Y => match look L t1 with
    | some ⟨.iface, _, _, _, _⟩ => match errEq X Y with
      | some b => cond (errTy L X && errTy L Y) (match bres op b with
        | some r => some (.bool r)
        | none => none) none
      | none => none
    | _ => none
  | _, _ => none
def nilT (L : Lay) (t1 : Nat) (op : BinOp) (v : Value) (X : AV) : Option SV :=
  match look L t1 with
  | some i => match nilTest i.k X v with
    | some b => match bres op b with
      | some r => some (.bool r)
      | none => none
    | none => none
  | none => none
def opT (L : Lay) (t : Tm) (h : Heap) (n : Nat) : Op → Option (AV × Heap × Nat)
  | .move x => match evT t x with
    | some y => some (y, h, n)
    | none => none
  | .assign x => match evT t x with
    | some y => some (y, h, n)
    | none => none
  | .pick x y z => match evT t x with
    | some (.st (.bool true)) => match evT t y with
      | some u => some (u, h, n)
      | none => none
    | some (.st (.bool false)) => match evT t z with
      | some u => some (u, h, n)
      | none => none
    | _ => none
  | .binOp op t1 x y _ => match evT t x, evT t y with
    | some u, some v => match binT L t1 op u v with
      | some z => some (.st z, h, n)
      | none => match y with
        | .const c => match nilT L t1 op c u with
          | some z => some (.st z, h, n)
          | none => none
        | _ => none
    | some u, none => match y with
      | .const c => match nilT L t1 op c u with
        | some z => some (.st z, h, n)
        | none => none
      | _ => none
    | _, _ => none
  | .unOp .not _ x => match evT t x with
    | some (.st (.bool b)) => some (.st (.bool (!b)), h, n)
    | _ => none
  | .unOp .neg _ x => match evT t x with
    | some (.st (.int kk a)) => some (.st (.int kk (kk.wrap (0 - a))), h, n)
    | _ => none
  | .extract x i => match evT t x with
    | some (.tuple xs) => match xs[i]? with
      | some y => some (y, h, n)
      | none => none
    | _ => none
  | .nilCheck x => match evT t x with
    | some y => cond (notNil y) (some (y, h, n)) none
    | none => none
  | .alloc t1 => match look L t1 with
    | some i => frc (stAll (svCells i.zero)) fun cs => some (.ptr n 0, (n, .cells cs) :: h, n + 1)
    | none => none
  | .box _ x => match evT t x with
    | some y => match avCells y with
      | some cs => frc cs fun cs => some (.ptr n 0, (n, .cells cs) :: h, n + 1)
      | none => none
    | none => none
  | .load t1 x => match evT t x, look L t1 with
    | some (.ptr id off), some i => match look h id with
      | some (.cells cs) => cond (Nat.ble (off + i.size) cs.length && (i.agg || Nat.beq i.size 1))
        (match i.agg with
          | true => frc ((cs.drop off).take i.size) fun l => match unSt l with
            | some xs => some (.st (.agg xs), h, n)
            | none => some (.agg l, h, n)
          | false => match cs.drop off with
            | x :: _ => some (x, h, n)
            | [] => none) none
      | _ => none
    | some (.st (.sptr cs)), some i => cond (Nat.ble i.size cs.length && (i.agg || Nat.beq i.size 1))
        (match i.agg with
          | true => frc (cs.take i.size) fun l => some (.st (.agg l), h, n)
          | false => match cs with
            | x :: _ => some (.st x, h, n)
            | [] => none) none
    | _, _ => none
  | .fieldAddr t1 x f => match evT t x, look L t1 with
    | some (.ptr id off), some i => match offOf i f with
      | some o => some (.ptr id (off + o), h, n)
      | none => none
    | some (.eptr id kk ii jj), some i => match offOf i f with
      | some o => some (.eptr id kk ii (jj + o), h, n)
      | none => none
    | some (.st (.sptr cs)), some i => match offOf i f with
      | some o => frc (cs.drop o) fun cs => some (.st (.sptr cs), h, n)
      | none => none
    | _, _ => none
  | .call ⟨.builtin .len, args, ts⟩ => match args.toList, ts[0]? with
    | [x], some t1 => match evT t x, look L t1 with
      | some y, some i => cond (lenK i.k y) (match lenAV y with
        | some m => some (.st (.int .i64 m), h, n)
        | none => none) none
      | _, _ => none
    | _, _ => none
  | .convert t1 t2 x => match evT t x, look L t1, look L t2 with
    | some (.st (.int _ a)), some _, some ⟨.int jj, _, _, _, _⟩ => some (.st (.int jj (jj.wrap a)), h, n)
    | _, _, _ => none
  | .makeInterface t1 x => match evT t x, look L t1 with
    | some (.st z), some i => cond (notIface i.k) (some (.st (.iface t1 z), h, n)) none
    | some z, some i => cond (notIface i.k) (some (.iface t1 z, h, n)) none
    | _, _ => none
  | .build t1 parts => match look L t1, partsT t parts.toList with
    | some i, some ps => match i.k with
      | .struct fs => match fillA fs (stAll (svCells i.zero)) ps with
        | some out => frc out fun l => match unSt l with
          | some xs => some (.st (.agg xs), h, n)
          | none => some (.agg l, h, n)
        | none => none
      | _ => none
    | _, _ => none
  | .buildSlice t1 len parts => match look L t1, partsT t parts.toList with
    | some i, some ps => match i.k with
      | .slice e sz _ => match look L e with
        | some ie => cond (Nat.ble (len * sz) 16777216 && Nat.beq (svCells ie.zero).length sz)
          (match len, parts.toList with
            | 0, [] => some (.st .sl0, h, n)
            | len, _ => match fillA (placesOf sz 0 len) (zeros (stAll (svCells ie.zero)) len) ps with
              | some out => match chop sz len out with
                | some rows => cond (Nat.ble (len * sz) out.length) (frc rows fun rows => some (.st (.sl sz rows), h, n)) none
                | none => none
              | none => none) none
        | none => none
      | _ => none
    | _, _ => none
  | .makeFunc f first caps => match evsT t first.toList, evsT t caps.toList with
    | some xs, some ys => some (.fn f xs ys, h, n)
    | _, _ => none
  | _ => none

section
variable {P : Program} {ops : Array Oper} {j : Nat} {l : List Oper} {q : S → Prop} {N n : Nat} {t : Tm} {h : Heap}
variable {d : Nat} {op : Op} {ty : TypeId} {pos : String} {af : Array Edge} {g : Option (Nat × Bool)} {L : Lay}
theorem cond_some {α : Type} {b : Bool} {x : Option α} {y : α} (h : cond b x none = some y) : b = true ∧ x = some y := by
  cases b with
  | true => exact ⟨rfl, h⟩
  | false => cases h
theorem binT_ok (hL : LayOk P L) {t1 t2 : Nat} {op : BinOp} {x y : Operand} {u v : AV} {z : SV} (hx : evT t x = some u) (hy : evT t y = some v) (hz : binT L t1 op u v = some z)
    (k : OpsL P ops (j + 1) l ⟨N, n, (d, .st z) :: t, h⟩ q) : OpG P ops j ⟨some d, .binOp op t1 x y t2, ty, pos, af, g⟩ l ⟨N, n, t, h⟩ q := by
  unfold binT at hz
  split at hz
  · obtain ⟨h1, h2⟩ := cond_some hz
    cases kEq_eq h1
    exact st_binI hx hy h2 k
  · exact st_binS hx hy hz k
  · split at hz
    · rename_i h1
      split at hz
      · rename_i h2; cases hz; exact st_binB hL hx hy h1 rfl h2 k
      · cases hz
    · cases hz
  · split at hz
    · rename_i h1
      split at hz
      · rename_i h2
        obtain ⟨h3, h4⟩ := cond_some hz
        split at h4
        · rename_i h5; cases h4; exact st_errEq hL hx hy h1 rfl h2 h3 (by cases op <;> first | exact h5 | cases h5) k
        · cases h4
      · cases hz
    · cases hz
  · cases hz
theorem nilT_ok (hL : LayOk P L) {t1 t2 : Nat} {op : BinOp} {x : Operand} {c : Value} {u : AV} {z : SV} (hx : evT t x = some u) (hz : nilT L t1 op c u = some z)
    (k : OpsL P ops (j + 1) l ⟨N, n, (d, .st z) :: t, h⟩ q) : OpG P ops j ⟨some d, .binOp op t1 x (.const c) t2, ty, pos, af, g⟩ l ⟨N, n, t, h⟩ q := by
  unfold nilT at hz
  split at hz
  · rename_i h1
    split at hz
    · rename_i h2
      split at hz
      · rename_i h3; cases hz; exact st_nil hL hx h1 h2 (by cases op <;> first | exact h3 | cases h3) k
      · cases hz
    · cases hz
  · cases hz
theorem bin_ok (hL : LayOk P L) {t1 t2 : Nat} {op : BinOp} {x y : Operand} {r : AV × Heap × Nat} (hr : opT L t h n (.binOp op t1 x y t2) = some r)
    (k : OpsL P ops (j + 1) l ⟨N, r.2.2, (d, r.1) :: t, r.2.1⟩ q) : OpG P ops j ⟨some d, .binOp op t1 x y t2, ty, pos, af, g⟩ l ⟨N, n, t, h⟩ q := by
  simp only [opT] at hr
  split at hr
  · rename_i u v h1 h2
    split at hr
    · rename_i h3; cases hr; exact binT_ok hL h1 h2 h3 k
    · split at hr
      · split at hr
        · rename_i h3; cases hr; exact nilT_ok hL h1 h3 k
        · cases hr
      · cases hr
  · rename_i h1 _
    split at hr
    · split at hr
      · rename_i h3; cases hr; exact nilT_ok hL h1 h3 k
      · cases hr
    · cases hr
  · cases hr
theorem load_ok (hL : LayOk P L) {t1 : Nat} {x : Operand} {r : AV × Heap × Nat} (hr : opT L t h n (.load t1 x) = some r)
    (k : OpsL P ops (j + 1) l ⟨N, r.2.2, (d, r.1) :: t, r.2.1⟩ q) : OpG P ops j ⟨some d, .load t1 x, ty, pos, af, g⟩ l ⟨N, n, t, h⟩ q := by
  simp only [opT] at hr
  split at hr
  · rename_i id off i hx ht
    split at hr
    · rename_i cs hh
      obtain ⟨h1, h2⟩ := cond_some hr
      simp only [Bool.and_eq_true] at h1
      split at h2
      · rename_i ha
        rw [frc_eq] at h2
        have hy : loaded i (cs.drop off) = some (mkAgg ((cs.drop off).take i.size)) := by simp only [loaded, ha]
        refine st_loadP hL hx hh ht h1.1 h1.2 hy ?_
        unfold mkAgg
        split at h2
        · rename_i e; cases h2; rw [e]; exact k
        · rename_i e; cases h2; rw [e]; exact k
      · rename_i ha
        split at h2
        · rename_i y zs e
          cases h2
          exact st_loadP hL hx hh ht h1.1 h1.2 (by simp only [loaded, ha, e]) k
        · cases h2
    · cases hr
  · rename_i cs i hx ht
    obtain ⟨h1, h2⟩ := cond_some hr
    simp only [Bool.and_eq_true] at h1
    split at h2
    · rename_i ha
      rw [frc_eq] at h2
      cases h2
      exact st_loadS hL hx ht h1.1 h1.2 (by simp only [loadedS, ha]) k
    · rename_i ha
      split at h2
      · cases h2
        exact st_loadS hL hx ht h1.1 h1.2 (by simp only [loadedS, ha]) k
      · cases h2
  · cases hr
theorem field_ok (hL : LayOk P L) {t1 f : Nat} {x : Operand} {r : AV × Heap × Nat} (hr : opT L t h n (.fieldAddr t1 x f) = some r)
    (k : OpsL P ops (j + 1) l ⟨N, r.2.2, (d, r.1) :: t, r.2.1⟩ q) : OpG P ops j ⟨some d, .fieldAddr t1 x f, ty, pos, af, g⟩ l ⟨N, n, t, h⟩ q := by
  simp only [opT] at hr
  split at hr
  · rename_i hx ht
    split at hr
    · rename_i ho; cases hr; exact st_fieldP hL hx ht ho k
    · cases hr
  · rename_i hx ht
    split at hr
    · rename_i ho; cases hr; exact st_fieldE hL hx ht ho k
    · cases hr
  · rename_i hx ht
    split at hr
    · rename_i ho; rw [frc_eq] at hr; cases hr; exact st_fieldS hL hx ht ho k
    · cases hr
  · cases hr
theorem build_ok (hL : LayOk P L) {t1 : Nat} {ps : Array (Nat × Operand)} {r : AV × Heap × Nat} (hr : opT L t h n (.build t1 ps) = some r)
    (k : OpsL P ops (j + 1) l ⟨N, r.2.2, (d, r.1) :: t, r.2.1⟩ q) : OpG P ops j ⟨some d, .build t1 ps, ty, pos, af, g⟩ l ⟨N, n, t, h⟩ q := by
  simp only [opT] at hr
  split at hr
  · rename_i ht hp
    split at hr
    · rename_i hk
      split at hr
      · rename_i out ho
        rw [frc_eq] at hr
        refine st_build hL ht hk hp ho ?_
        unfold mkAgg
        split at hr
        · rename_i e; cases hr; rw [e]; exact k
        · rename_i e; cases hr; rw [e]; exact k
      · cases hr
    · cases hr
  · cases hr
theorem lit_ok (hL : LayOk P L) {t1 len : Nat} {ps : Array (Nat × Operand)} {r : AV × Heap × Nat} (hr : opT L t h n (.buildSlice t1 len ps) = some r)
    (k : OpsL P ops (j + 1) l ⟨N, r.2.2, (d, r.1) :: t, r.2.1⟩ q) : OpG P ops j ⟨some d, .buildSlice t1 len ps, ty, pos, af, g⟩ l ⟨N, n, t, h⟩ q := by
  simp only [opT] at hr
  split at hr
  · rename_i ht hp
    split at hr
    · rename_i hk
      split at hr
      · rename_i hte
        obtain ⟨h1, h2⟩ := cond_some hr
        split at h2
        · rename_i e
          cases h2
          have : ps = #[] := by
            cases ps; simp at e; subst e; rfl
          subst this
          simp only [Bool.and_eq_true] at h1
          exact st_lit0 hL ht hk hte h1.2 k
        · split at h2
          · rename_i out ho
            split at h2
            · rename_i rows hr2
              obtain ⟨h3, h4⟩ := cond_some h2
              rw [frc_eq] at h4
              cases h4
              exact st_lit hL ht hk hte hp h1 ho hr2 h3 k
            · cases h2
          · cases h2
      · cases hr
    · cases hr
  · cases hr
theorem call_ok (hL : LayOk P L) {c : Call} {r : AV × Heap × Nat} (hr : opT L t h n (.call c) = some r)
    (k : OpsL P ops (j + 1) l ⟨N, r.2.2, (d, r.1) :: t, r.2.1⟩ q) : OpG P ops j ⟨some d, .call c, ty, pos, af, g⟩ l ⟨N, n, t, h⟩ q := by
  unfold opT at hr
  split at hr
  all_goals first | (rename_i e; cases e; done) | skip
  · rename_i args ts e
    cases e
    split at hr
    · rename_i x t1 ha ht1
      split at hr
      · rename_i hx ht
        obtain ⟨h1, h2⟩ := cond_some hr
        split at h2
        · rename_i hm
          cases h2
          have : args = #[x] := by
            cases args; simp at ha; subst ha; rfl
          subst this
          exact st_len hL ht1 hx ht h1 hm k
        · cases h2
      · cases hr
    · cases hr
  · cases hr
theorem opT_ok (hL : LayOk P L) {r : AV × Heap × Nat} (hr : opT L t h n op = some r) (k : OpsL P ops (j + 1) l ⟨N, r.2.2, (d, r.1) :: t, r.2.1⟩ q) : OpG P ops j ⟨some d, op, ty, pos, af, g⟩ l ⟨N, n, t, h⟩ q := by
  have hr0 := hr
  cases op with
  | binOp => exact bin_ok hL hr0 k
  | load => exact load_ok hL hr0 k
  | fieldAddr => exact field_ok hL hr0 k
  | build => exact build_ok hL hr0 k
  | buildSlice => exact lit_ok hL hr0 k
  | call => exact call_ok hL hr0 k
  | move x =>
    simp only [opT] at hr
    split at hr
    · rename_i e; cases hr; exact st_move e k
    · cases hr
  | assign x =>
    simp only [opT] at hr
    split at hr
    · rename_i e; cases hr; exact st_assign e k
    · cases hr
  | pick x y z =>
    simp only [opT] at hr
    split at hr
    · rename_i e
      split at hr
      · rename_i e'; cases hr; exact st_pickT e e' k
      · cases hr
    · rename_i e
      split at hr
      · rename_i e'; cases hr; exact st_pickF e e' k
      · cases hr
    · cases hr
  | unOp u _ x =>
    cases u with
    | not =>
      simp only [opT] at hr
      split at hr
      · rename_i e; cases hr; exact st_not e k
      · cases hr
    | neg =>
      simp only [opT] at hr
      split at hr
      · rename_i e; cases hr; exact st_neg e k
      · cases hr
    | _ => cases hr
  | extract x i =>
    simp only [opT] at hr
    split at hr
    · rename_i e
      split at hr
      · rename_i e'; cases hr; exact st_extract e e' k
      · cases hr
    · cases hr
  | nilCheck x =>
    simp only [opT] at hr
    split at hr
    · rename_i e
      obtain ⟨h1, h2⟩ := cond_some hr
      cases h2; exact st_nilCheck e h1 k
    · cases hr
  | alloc t1 =>
    simp only [opT] at hr
    split at hr
    · rename_i e
      rw [frc_eq] at hr
      cases hr; exact st_alloc hL e k
    · cases hr
  | box t1 x =>
    simp only [opT] at hr
    split at hr
    · rename_i e
      split at hr
      · rename_i e'
        rw [frc_eq] at hr
        cases hr; exact st_box e e' k
      · cases hr
    · cases hr
  | convert t1 t2 x =>
    simp only [opT] at hr
    split at hr
    · rename_i e1 e2 e3
      cases hr; exact st_convI hL e1 e2 e3 rfl k
    · cases hr
  | makeInterface t1 x =>
    simp only [opT] at hr
    split at hr
    · rename_i e1 e2
      obtain ⟨h1, h2⟩ := cond_some hr
      cases h2; exact st_iface hL e1 e2 h1 k
    · rename_i e1 e2
      obtain ⟨h1, h2⟩ := cond_some hr
      cases h2; exact st_ifaceR hL e1 e2 h1 k
    · cases hr
  | makeFunc f first caps =>
    simp only [opT] at hr
    split at hr
    · rename_i e1 e2
      cases hr; exact st_makeFunc e1 e2 k
    · cases hr
  | _ => cases hr

/-- What a store does. -/
def opU (L : Lay) (t : Tm) (h : Heap) : Op → Option Heap
  | .store t1 x y => match evT t x, evT t y, look L t1 with
    | some (.ptr id off), some z, some i => match look h id with
      | some (.cells cs) => match avCells z with
        | some xs => cond (Nat.beq xs.length i.size && Nat.ble (off + i.size) cs.length && oneAll xs) (frc (putAt cs off xs) fun cs => frc (del h id) fun h => some ((id, .cells cs) :: h)) none
        | none => none
      | _ => none
    | _, _, _ => none
  | _ => none
theorem OpsL.same {h' : Heap} (e : ∀ id, look h' id = look h id) (k : OpsL P ops j l ⟨N, n, t, h'⟩ q) : OpsL P ops j l ⟨N, n, t, h⟩ q := fun hl c a hs Qx hQ => by
  have hs' : SRel c ⟨N, n, t, h'⟩ a := ⟨hs.defers, hs.n, hs.t, hrel_sub hs.h fun id o x => by rw [← e]; exact x⟩
  exact k hl c a hs' Qx fun s' c' a' h1 h2 h3 => hQ s' c' a' h1 h2 ((ev_sub fun id o x => by rw [← e]; exact x).trans h3)
theorem opU_ok (hL : LayOk P L) {h' : Heap} (hr : opU L t h op = some h') (k : OpsL P ops (j + 1) l ⟨N, n, t, h'⟩ q) : OpG P ops j ⟨none, op, ty, pos, af, g⟩ l ⟨N, n, t, h⟩ q := by
  cases op with
  | store t1 x y =>
    simp only [opU] at hr
    split at hr
    · rename_i id off z i e1 e2 e3
      split at hr
      · rename_i e4
        split at hr
        · rename_i e5
          obtain ⟨h1, h2⟩ := cond_some hr
          rw [frc_eq, frc_eq] at h2
          cases h2
          refine st_store hL e1 e2 e4 e3 e5 h1 (OpsL.same (fun id' => ?_) k)
          rw [look_cons, look_cons, look_del]
          split <;> rfl
        · cases hr
      · cases hr
    · cases hr
  | _ => cases hr
/-- The state behind an operation, whatever its guard. -/
def opX (L : Lay) (N n : Nat) (t : Tm) (h : Heap) (o : Op) : Option Nat → Option (Nat × Tm × Heap)
  | some d => cond (Nat.blt d N) (match opT L t h n o with
    | some (x, h', n') => some (n', (d, x) :: t, h')
    | none => none) none
  | none => match opU L t h o with
    | some h' => some (n, t, h')
    | none => none
def opN (N n : Nat) (t : Tm) (h : Heap) : Option Nat → Option (Nat × Tm × Heap)
  | some d => cond (Nat.blt d N) (some (n, (d, .tuple []) :: t, h)) none
  | none => some (n, t, h)
def opS (L : Lay) (ops : Array Oper) (N n : Nat) (t : Tm) (h : Heap) : Oper → Option (Nat × Tm × Heap)
  | ⟨dst, o, _, _, _, none⟩ => opX L N n t h o dst
  | ⟨dst, o, _, _, _, some (g, w)⟩ => match (ops[g]?).bind (·.dst) with
    | some tg => match look t tg with
      | some (.st (.bool true)) => cond w (opX L N n t h o dst) (opN N n t h dst)
      | some (.st (.bool false)) => cond w (opN N n t h dst) (opX L N n t h o dst)
      | some (.tuple []) => opN N n t h dst
      | _ => none
    | none => none
theorem opX_ok (hL : LayOk P L) {dst : Option Nat} {r : Nat × Tm × Heap} (hr : opX L N n t h op dst = some r) (k : OpsL P ops (j + 1) l ⟨N, r.1, r.2.1, r.2.2⟩ q) :
    dstOk N dst = true ∧ OpG P ops j ⟨dst, op, ty, pos, af, g⟩ l ⟨N, n, t, h⟩ q := by
  cases dst with
  | some d =>
    simp only [opX] at hr
    obtain ⟨h1, h2⟩ := cond_some hr
    split at h2
    · rename_i e; cases h2; exact ⟨h1, opT_ok hL e k⟩
    · cases h2
  | none =>
    simp only [opX] at hr
    split at hr
    · rename_i e; cases hr; exact ⟨rfl, opU_ok hL e k⟩
    · cases hr
theorem stp_ (hL : LayOk P L) {o : Oper} {r : Nat × Tm × Heap} (hr : opS L ops N n t h o = some r) (k : OpsL P ops (j + 1) l ⟨N, r.1, r.2.1, r.2.2⟩ q) : OpsL P ops j (o :: l) ⟨N, n, t, h⟩ q := by
  have skip : ∀ {dst : Option Nat} {g tg : Nat} {w : Bool} {op : Op} {ty : TypeId} {pos : String} {af : Array Edge}, opN N n t h dst = some r → (ops[g]?).bind (·.dst) = some tg → (∃ b, look t tg = some (.st (.bool b)) ∧ (b != w) = true) ∨ look t tg = some (.tuple []) →
      OpsL P ops j (⟨dst, op, ty, pos, af, some (g, w)⟩ :: l) ⟨N, n, t, h⟩ q := by
    intro dst g tg w op ty pos af hN hj hb
    cases dst with
    | some d =>
      obtain ⟨h1, h2⟩ := cond_some hN
      cases h2
      rcases hb with ⟨b, hb, hw⟩ | hb
      · exact no hj hb hw h1 k
      · exact nou hj hb h1 k
    | none =>
      cases hN
      rcases hb with ⟨b, hb, hw⟩ | hb
      · exact no_ hj hb hw k
      · exact nou_ hj hb k
  cases o with
  | mk dst op ty pos af g =>
    cases g with
    | none => obtain ⟨h1, h2⟩ := opX_ok hL hr k; exact go rfl h1 h2
    | some g =>
      obtain ⟨g, w⟩ := g
      simp only [opS] at hr
      split at hr
      · rename_i tg hj
        split at hr
        · rename_i e
          cases w with
          | true => obtain ⟨h1, h2⟩ := opX_ok hL hr k; exact yes rfl hj e h1 h2
          | false => exact skip (w := false) hr hj (.inl ⟨true, e, rfl⟩)
        · rename_i e
          cases w with
          | false => obtain ⟨h1, h2⟩ := opX_ok hL hr k; exact yes rfl hj e h1 h2
          | true => exact skip (w := true) hr hj (.inl ⟨false, e, rfl⟩)
        · rename_i e; exact skip hr hj (.inr e)
        · cases hr
      · cases hr
theorem stp (hL : LayOk P L) {o : Oper} {n' : Nat} {t' : Tm} {h' : Heap} (hr : opS L ops N n t h o = some (n', t', h')) (k : OpsL P ops (j + 1) l ⟨N, n', t', h'⟩ q) : OpsL P ops j (o :: l) ⟨N, n, t, h⟩ q := stp_ hL hr k
theorem gT (hL : LayOk P L) {x : AV} {h' : Heap} {n' : Nat} (hr : opT L t h n op = some (x, h', n')) (k : OpsL P ops (j + 1) l ⟨N, n', (d, x) :: t, h'⟩ q) : OpG P ops j ⟨some d, op, ty, pos, af, g⟩ l ⟨N, n, t, h⟩ q := opT_ok hL hr k
/-- Truth values that aren't known, ahead of a guard. -/
theorem gd {o : Oper} {g tg : Nat} {w : Bool} {p : Prop} [Decidable p] (hg : o.guard = some (g, w)) (hj : (ops[g]?).bind (·.dst) = some tg) (ht : look t tg = some (.st (.bool (decide p))))
    (h1 : p → OpsL P ops j (o :: l) ⟨N, n, (tg, .st (.bool true)) :: t, h⟩ q) (h2 : ¬ p → OpsL P ops j (o :: l) ⟨N, n, (tg, .st (.bool false)) :: t, h⟩ q) :
    OpsL P ops j (o :: l) ⟨N, n, t, h⟩ q := both tg ht (fun e => h1 (of_decide_eq_true e)) (fun e => h2 (of_decide_eq_false e))
theorem gb {o : Oper} {g tg : Nat} {w b : Bool} (hg : o.guard = some (g, w)) (hj : (ops[g]?).bind (·.dst) = some tg) (ht : look t tg = some (.st (.bool b)))
    (h1 : b = true → OpsL P ops j (o :: l) ⟨N, n, (tg, .st (.bool true)) :: t, h⟩ q) (h2 : b = false → OpsL P ops j (o :: l) ⟨N, n, (tg, .st (.bool false)) :: t, h⟩ q) :
    OpsL P ops j (o :: l) ⟨N, n, t, h⟩ q := both tg ht h1 h2
/-- A number in range is itself. -/
theorem wr {e : Int} (h1 : -9223372036854775808 ≤ e ∧ e < 9223372036854775808) (k : OpsL P ops j l ⟨N, n, (d, .st (.int .i64 e)) :: t, h⟩ q) : OpsL P ops j l ⟨N, n, (d, .st (.int .i64 (IntKind.i64.wrap e))) :: t, h⟩ q := by
  rw [IntWalk.i64_in _ (by omega)]; exact k
theorem ln {α β : Type} {f : α → β} {xs : List α} (k : OpsL P ops j l ⟨N, n, (d, .st (.int .i64 (xs.length : Int))) :: t, h⟩ q) : OpsL P ops j l ⟨N, n, (d, .st (.int .i64 ((xs.map f).length : Int))) :: t, h⟩ q := by
  rw [List.length_map]; exact k
end
end Go.Proofs.YtohmbpcjapjkbaaGreatDoorAl
