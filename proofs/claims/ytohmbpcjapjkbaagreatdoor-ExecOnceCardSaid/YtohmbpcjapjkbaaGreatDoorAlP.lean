/- The A-logic, part 15: what a row's reading of its arguments gives; what a contract gives a row. -/
import Derived.Test.YtohmbpcjapjkbaaGreatDoorAlN
import Derived.ProofKit
import Derived.OpenShut
import Derived.ShutString
import Derived.ChangeOld
import Derived.SizedLaws
import Derived.ChangeArms
set_option linter.all false
namespace Go.Proofs.YtohmbpcjapjkbaaGreatDoorAl

/-- Values of a type, read as data, are stable values of which Φ holds. -/
def Rd (P : Program) (t : TypeId) (Φ : List SV → Prop) : Prop :=
  ∀ (H : Type) (enc : TypeId × Value → H) (W : World) (fuel : Nat) (cs : List Value) (d : DataW H) (p : List MemPlace), DataW.trod enc P W 0 (fun _ => true) true fuel t cs = some (d, p) →
    (∀ n ∈ d.weights P t, n ≤ reachBytes) → ∃ xs, SList (fun b => b < W.heap.size) W xs cs ∧ Φ xs

section
variable {P : Program} {t : TypeId}
theorem rd_int {k : IntKind} (h : P.underlying t = some (.int k)) : Rd P t fun xs => ∃ n, xs = [.int k n] ∧ (Lit.int k n).wf = true := by
  intro H enc W fuel cs d p e _
  obtain ⟨n, rfl, _, h2⟩ := DataW.trod_int h e
  exact ⟨[.int k n], .cons _ _ _ _ (.int _ _) .nil, n, rfl, h2⟩
theorem rd_str (h : P.underlying t = some .string) : Rd P t fun xs => ∃ s : ByteArray, xs = [.str s] ∧ s.size ≤ reachBytes := by
  intro H enc W fuel cs d p e hw
  obtain ⟨s, rfl, h1, _⟩ := DataW.trod_string h e
  cases h1
  refine ⟨[.str s], .cons _ _ _ _ (.str _) .nil, s, rfl, ?_⟩
  have := hw s.data.toList.length (by simp [DataW.weights])
  simpa using this

theorem weightsAll_mem {H : Type} {e : TypeId} : ∀ {ds : List (DataW H)} {d : DataW H}, d ∈ ds → ∀ n ∈ d.weights P e, n ∈ DataW.weightsAll P e ds
  | x :: r, d, hd, n, hn => by
    simp only [DataW.weightsAll, List.mem_append]
    rcases List.mem_cons.1 hd with rfl | hd
    · exact .inl hn
    · exact .inr (weightsAll_mem hd n hn)

theorem cells_list {W : World} {a : Addr} {k : Nat} {vs : List Value} (h : W.cells? 0 a k = some vs) : vs.length = k ∧ ∀ j v, vs[j]? = some v → W.cell? (a.add j) = some v := by
  unfold World.cells? at h
  rw [if_pos (Nat.zero_le _)] at h
  have key : ∀ (m off : Nat) (us : List Value), ((List.range' off m).mapM fun i => W.cell? (a.add i)) = some us → us.length = m ∧ ∀ j v, us[j]? = some v → W.cell? (a.add (off + j)) = some v := by
    intro m
    induction m with
    | zero => intro off us h; simp at h; subst h; simp
    | succ m ih =>
      intro off us h
      rw [List.range'_succ, List.mapM_cons] at h
      cases hc : W.cell? (a.add off) with
      | none => simp [hc] at h
      | some v0 =>
        cases hr : ((List.range' (off + 1) m).mapM fun i => W.cell? (a.add i)) with
        | none => simp [hc, hr] at h
        | some us' =>
          simp [hc, hr] at h
          subst h
          obtain ⟨h1, h2⟩ := ih _ _ hr
          refine ⟨by simp [h1], fun j v e => ?_⟩
          cases j with
          | zero => simp at e; subst e; simpa using hc
          | succ j => simp at e; have := h2 j v e; rw [← this]; congr 2; omega
  rw [List.range_eq_range'] at h
  obtain ⟨h1, h2⟩ := key k 0 vs h
  exact ⟨h1, fun j v e => by have := h2 j v e; rwa [Nat.zero_add] at this⟩

theorem scells_of {St : Nat → Prop} {W : World} {b : Nat} : ∀ {xs : List SV} {us : List Value} {o : Nat}, SList St W xs us → (∀ i v, us[i]? = some v → W.cell? ⟨b, o + i, none⟩ = some v) → SCells St W b o xs
  | _, _, o, .nil, _ => .nil _ _
  | _, _, o, .cons _ v _ _ h1 h2, hu => .cons _ _ _ v _ (by simpa using hu 0 v rfl) h1 (scells_of h2 fun i u e => by have := hu (i + 1) u (by simpa using e); rw [← this]; congr 2; omega)

/-- Slices. -/
theorem rd_slice {e : TypeId} {k bytes : Nat} {Φ : List SV → Prop} (h : P.underlying t = some (.slice e)) (hk : P.cellsOf e = k) (hb : P.bytesOf e = bytes) (hk0 : Nat.blt 0 k = true) (he : Rd P e Φ) :
    Rd P t fun xs => ∃ rows, xs = [.sl k rows] ∧ (∀ row ∈ rows, Φ row) ∧ rows.length * bytes ≤ reachBytes := by
  intro H enc W fuel cs d p e' hw
  have hk0 : 0 < k := by simpa [Nat.blt_eq] using hk0
  rcases DataW.trod_slice h e' with ⟨rfl, _⟩ | ⟨a, len, cap, elems, rest, n, rfl, rfl, hx, _, hlc, _, hel, hat, _⟩
  · exact ⟨[.sl k []], .cons _ _ _ _ (.slnil _ _ _) .nil, [], rfl, by simp, by simp⟩
  · simp only [Prod.mk.injEq] at hx
    obtain ⟨rfl, _⟩ := hx
    simp only [DataW.weights, h, hb, List.length_map] at hw
    have hwe : ∀ (i : Nat) (d' : DataW H), (elems.map (·.1))[i]? = some d' → ∀ m ∈ d'.weights P e, m ≤ reachBytes := fun i d' hd m hm =>
      hw m (List.mem_cons_of_mem _ (List.mem_append_left _ (weightsAll_mem (List.mem_of_getElem? hd) m hm)))
    have hsize := hw _ (List.mem_cons_self)
    -- rows, one by one
    have hrow : ∀ i, i < len → ∃ row, row.length = k ∧ Φ row ∧ ∃ vs, SList (fun b => b < W.heap.size) W row vs ∧ ∀ jj v, vs[jj]? = some v → W.cell? ((a.add (i * k)).add jj) = some v := by
      intro i hi
      have h1 := hat i hi
      rw [hk] at h1
      have hi' : i < elems.length := by omega
      rw [List.getElem?_eq_getElem hi'] at h1
      cases hc : W.cells? 0 (a.add (i * k)) k with
      | none => rw [hc] at h1; simp at h1
      | some vs =>
        rw [hc] at h1
        simp only [Option.bind_some] at h1
        obtain ⟨g1, g2⟩ := cells_list hc
        obtain ⟨row, r1, r2⟩ := he H enc W n vs (elems[i]).1 (elems[i]).2 h1 (hwe i _ (by simp [List.getElem?_map, List.getElem?_eq_getElem hi']))
        have := r1.length
        exact ⟨row, by omega, r2, vs, r1, g2⟩
    -- all of them
    have hall : ∀ m, m ≤ len → ∃ rows : List (List SV), rows.length = m ∧ ∀ i row, rows[i]? = some row → row.length = k ∧ Φ row ∧ ∃ vs, SList (fun b => b < W.heap.size) W row vs ∧ ∀ jj v, vs[jj]? = some v → W.cell? ((a.add (i * k)).add jj) = some v := by
      intro m
      induction m with
      | zero => intro _; exact ⟨[], rfl, by simp⟩
      | succ m ih =>
        intro hm
        obtain ⟨rows, h1, h2⟩ := ih (by omega)
        obtain ⟨row, h3⟩ := hrow m (by omega)
        refine ⟨rows ++ [row], by simp [h1], fun i r e => ?_⟩
        rcases Nat.lt_or_ge i rows.length with hi | hi
        · rw [List.getElem?_append_left hi] at e; exact h2 i r e
        · rw [List.getElem?_append_right hi] at e
          have h0 : i - rows.length = 0 := by
            rcases Nat.eq_zero_or_pos (i - rows.length) with h0 | h0
            · exact h0
            · rw [List.getElem?_eq_none (by simp; omega)] at e; cases e
          rw [h0] at e; simp at e; subst e
          have : i = m := by omega
          subst this; exact h3
    obtain ⟨rows, hl, hr⟩ := hall len (Nat.le_refl _)
    refine ⟨[.sl k rows], .cons _ _ _ _ ?_ .nil, rows, rfl, fun row hrow => ?_, ?_⟩
    · by_cases h0 : len = 0
      · have : rows = [] := List.length_eq_zero_iff.1 (by omega)
        subst this; rw [h0]; exact .slnil _ _ _
      · -- the address is whole
        have hr0 : 0 < rows.length := by omega
        obtain ⟨q1, _, vs, q3, q4⟩ := hr 0 _ (List.getElem?_eq_getElem hr0)
        have hvl := q3.length
        have hv0 : 0 < vs.length := by omega
        have hc0 := q4 0 _ (List.getElem?_eq_getElem hv0)
        rw [Nat.zero_mul] at hc0
        have haa : ∀ x : Addr, x.add 0 = x := fun x => by simp [Addr.add]
        rw [haa, haa] at hc0
        have hspot : a.spot = none := by
          cases hs : a.spot with
          | none => rfl
          | some z =>
            unfold World.cell? at hc0
            rw [hs] at hc0
            split at hc0 <;> simp at hc0
        have hae : a = ⟨a.block, a.off, none⟩ := by cases a; simp only at hspot; subst hspot; rfl
        have hblk : a.block < W.heap.size := World.block_lt_of_cell? W a hc0
        rw [hae]
        have := SVal.sl (St := fun b => b < W.heap.size) (w := W) k a.block a.off cap rows hblk (.mk fun i row e => by
          obtain ⟨s1, _, us, s3, s4⟩ := hr i row e
          refine ⟨s1, scells_of s3 fun jj v ev => ?_⟩
          have := s4 jj v ev
          rw [hae, add_lit, add_lit] at this
          exact this) (by omega)
        rw [hl] at this
        exact this
    · obtain ⟨i, hi⟩ := List.getElem?_of_mem hrow
      exact (hr i row hi).2.1
    · rw [hl, ← hel]
      exact Nat.le_trans (Nat.mul_le_mul_right _ (Nat.le_add_right _ _)) hsize

/-- Rows that are all of one making. -/
theorem rows_map {α : Type} {f : α → List SV} {Ok : α → Prop} : ∀ {rows : List (List SV)}, (∀ row ∈ rows, ∃ x, row = f x ∧ Ok x) → ∃ l : List α, rows = l.map f ∧ ∀ x ∈ l, Ok x
  | [], _ => ⟨[], rfl, by simp⟩
  | r :: rs, h => by
    obtain ⟨x, h1, h2⟩ := h r (List.mem_cons_self)
    obtain ⟨l, h3, h4⟩ := rows_map fun row hr => h row (List.mem_cons_of_mem _ hr)
    exact ⟨x :: l, by simp [h1, h3], fun y hy => by rcases List.mem_cons.1 hy with rfl | hy; exact h2; exact h4 y hy⟩

/-- A value that says less. -/
def SLe (x y : SV) : Prop := ∀ St w v, SVal St w x v → SVal St w y v
def SLeL (xs ys : List SV) : Prop := ∀ St w vs, SList St w xs vs → SList St w ys vs
theorem SLe.refl (x : SV) : SLe x x := fun _ _ _ h => h
theorem SLe.nil (k : Nat) : SLe .nilsl (.sl k []) := fun _ _ _ h => by cases h; exact .slnil _ _ _
theorem SLe.sl0 (k : Nat) : SLe .sl0 (.sl k []) := fun _ _ _ h => by cases h; exact .slnil _ _ _
theorem SLe.agg {xs ys : List SV} (h : SLeL xs ys) : SLe (.agg xs) (.agg ys) := fun _ _ _ k => by cases k with | agg _ _ k => exact .agg _ _ (h _ _ _ k)
theorem SLeL.nil : SLeL [] [] := fun _ _ _ h => h
theorem SLeL.cons {x y : SV} {xs ys : List SV} (h : SLe x y) (hs : SLeL xs ys) : SLeL (x :: xs) (y :: ys) := fun _ _ _ k => by
  cases k with | cons _ _ _ _ k1 k2 => exact .cons _ _ _ _ (h _ _ _ k1) (hs _ _ _ k2)
theorem stAll_inv {c : Cfg} : ∀ {xs : List SV} {vs : List Value}, AList c (stAll xs) vs → SList c.St c.w xs vs
  | [], _, h => by cases h; exact .nil
  | _ :: _, _, h => by cases h with | cons _ _ _ _ h1 h2 => exact .cons _ _ _ _ (st_inv h1) (stAll_inv h2)
theorem ACalls.le {f m : Nat} {xs ys : List SV} {h : Heap} {R : AV → Heap → Prop} (hl : SLeL xs ys) (k : ACalls P f m (stAll ys) h R) : ACalls P f m (stAll xs) h R :=
  fun c vals h1 h2 h3 => k c vals h1 h2 (stAll_val (hl _ _ _ (stAll_inv h3)))

/-- The world in which a call of the row begins. -/
theorem ACalls.row {f : Nat} {svs : List SV} {W : World} {args : Array Value} {r : AV} (h : ACalls P f 0 (stAll svs) [] fun x h' => x = r ∧ h' = []) (ha : SList (fun b => b < W.heap.size) W svs args.toList) {v : Value} (hv : ∀ c, AVal c r v → True) :
    Calls P f args W fun e w' => (∃ c u, e = .returned u ∧ AVal c r u) ∧ RowKit.Below W.heap.size W w' := by
  have h0 := h ⟨fun i => i, 0, fun b => b < W.heap.size, W⟩ args.toList rfl ⟨(fun _ _ e => by cases e), (fun _ _ e => by cases e), (fun _ _ e => by cases e), (fun _ _ e => by cases e), (fun _ _ _ _ e => by cases e), fun _ hb => hb, fun _ _ _ e => by cases e⟩ (stAll_val ha)
  simp only [Array.toArray_toList] at h0
  refine h0.mono ?_
  rintro e w' ⟨x, h', c', u, ⟨rfl, rfl⟩, rfl, rfl, hx, _, hev⟩
  exact ⟨⟨c', u, rfl, hx⟩, hev.os, hev.tape, hev.output, hev.size, fun k hk => hev.frame k hk fun _ _ e => by cases e⟩
/-- A law: it says true. -/
theorem ACalls.law {f : Nat} {svs : List SV} {W : World} {args : Array Value} (h : ACalls P f 0 (stAll svs) [] fun x h' => x = .st (.bool true) ∧ h' = []) (ha : SList (fun b => b < W.heap.size) W svs args.toList) :
    Calls P f args W fun e w' => e = .returned (.bool true) ∧ RowKit.Below W.heap.size W w' :=
  (h.row ha (v := .bool true) fun _ _ => trivial).mono fun _ _ ⟨⟨_, _, h1, h2⟩, h3⟩ => ⟨by rw [h1, bool_inv h2], h3⟩
end
end Go.Proofs.YtohmbpcjapjkbaaGreatDoorAl
