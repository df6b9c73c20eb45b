import Derived.Test.YtcandekalmjfaaaAlUb
set_option linter.all false
namespace Go.Proofs.YtcandekalmjfaaaFn
open Go.Proofs.YtcandekalmjfaaaAl Go.Proofs.Try
attribute [local irreducible] IntKind.wrap CodeOk OpsL OpG ACalls thn inBlk rndR cutR WkR Wk fnR DW
/-! ### the law of one body: the count -/
def rowS (s : ByteArray) : List SV := [.str s]
/-- Those that say a, or are bad; the first is left out. -/
def sayers (says : List ByteArray) (faulty : List Int) (first : Int) (a : ByteArray) (k : Nat) : List Int :=
  ((List.range k).filter fun (i : Nat) => decide ((i : Int) ≠ first) && (faulty.any (fun x => decide (x = i)) || decide (says[i]? = some a))).map fun (i : Nat) => (i : Int)
theorem sayers_succ (says : List ByteArray) (faulty : List Int) (first : Int) (a : ByteArray) (k : Nat) : sayers says faulty first a (k + 1) = sayers says faulty first a k ++
    (if (decide ((k : Int) ≠ first) && (faulty.any (fun x => decide (x = k)) || decide (says[k]? = some a))) = true then [(k : Int)] else []) := by
  unfold sayers
  rw [List.range_succ, List.filter_append, List.map_append]
  congr 1
  by_cases h : (decide ((k : Int) ≠ first) && (faulty.any (fun x => decide (x = k)) || decide (says[k]? = some a))) = true
  · rw [if_pos h]; simp only [List.filter_cons]; rw [if_pos h]; rfl
  · rw [if_neg h]; simp only [List.filter_cons]; rw [if_neg h]; rfl
theorem sayers_two (says : List ByteArray) (faulty : List Int) (first : Int) (a b : ByteArray) (hab : a ≠ b) : ∀ k, (sayers says faulty first a k).length + (sayers says faulty first b k).length ≤
    ((List.range k).filter fun (i : Nat) => decide ((i : Int) ≠ first)).length + ((List.range k).filter fun (i : Nat) => decide ((i : Int) ≠ first) && faulty.any (fun x => decide (x = i))).length := by
  intro k
  unfold sayers
  simp only [List.length_map]
  induction List.range k with
  | nil => simp
  | cons i r ih =>
    have hx : ¬ (says[i]? = some a ∧ says[i]? = some b) := fun h => hab (by rw [h.1] at h; exact Option.some.inj h.2)
    simp only [List.filter_cons]
    by_cases h1 : (i : Int) ≠ first <;> cases h2 : faulty.any (fun x => decide (x = (i : Int))) <;> by_cases h3 : says[i]? = some a <;> by_cases h4 : says[i]? = some b <;> simp_all <;> omega
theorem not_first (first : Int) (h0 : 0 ≤ first) : ∀ k : Nat, (first < k) → ((List.range k).filter fun (i : Nat) => decide ((i : Int) ≠ first)).length + 1 ≤ k := by
  intro k hk
  have : ∀ m : Nat, ((List.range m).filter fun (i : Nat) => decide ((i : Int) ≠ first)).length + (if first < m then 1 else 0) = m := by
    intro m
    induction m with
    | zero => first | (simp; done) | (simp; omega)
    | succ m ih =>
      rw [List.range_succ, List.filter_append, List.length_append]
      by_cases h1 : (m : Int) ≠ first
      · rw [List.filter_cons_of_pos (by simpa using h1)]
        simp only [List.filter_nil, List.length_singleton]
        split at ih <;> split <;> omega
      · rw [List.filter_cons_of_neg (by simpa using h1)]
        simp only [List.filter_nil, List.length_nil]
        split at ih <;> split <;> omega
  have h := this k
  rw [if_pos hk] at h; omega
theorem one_hit (first x : Int) (k : Nat) : ((List.range k).filter fun (i : Nat) => decide ((i : Int) ≠ first) && decide (x = i)).length = (if x ≠ first ∧ 0 ≤ x ∧ x < k then 1 else 0) := by
  induction k with
  | zero => first | (simp; done) | (simp; omega)
  | succ m ih =>
    rw [List.range_succ, List.filter_append, List.length_append, ih]
    simp only [List.filter_cons, List.filter_nil]
    by_cases h1 : (m : Int) ≠ first ∧ x = m
    · have e : (decide ((m : Int) ≠ first) && decide (x = m)) = true := by simp only [Bool.and_eq_true, decide_eq_true_eq]; exact h1
      rw [if_pos e, if_neg (by omega), if_pos (by omega)]; rfl
    · have e : ¬ (decide ((m : Int) ≠ first) && decide (x = m)) = true := by simp only [Bool.and_eq_true, decide_eq_true_eq]; exact h1
      rw [if_neg e, List.length_nil, Nat.add_zero]
      by_cases h2 : x ≠ first ∧ 0 ≤ x ∧ x < m
      · rw [if_pos h2, if_pos (by omega)]
      · rw [if_neg h2, if_neg (by omega)]
theorem bad_few (faulty : List Int) (first : Int) (k : Nat) : ((List.range k).filter fun (i : Nat) => decide ((i : Int) ≠ first) && faulty.any (fun x => decide (x = i))).length ≤ (faulty.filter fun x => decide (x ≠ first)).length := by
  induction faulty with
  | nil => simp
  | cons x xs ih =>
    have h1 : ((List.range k).filter fun (i : Nat) => decide ((i : Int) ≠ first) && (x :: xs).any (fun x => decide (x = i))).length ≤
        ((List.range k).filter fun (i : Nat) => decide ((i : Int) ≠ first) && decide (x = i)).length + ((List.range k).filter fun (i : Nat) => decide ((i : Int) ≠ first) && xs.any (fun x => decide (x = i))).length := by
      clear ih
      induction List.range k with
      | nil => simp
      | cons i r ih =>
        simp only [List.filter_cons, List.any_cons] at ih ⊢
        by_cases h1 : (i : Int) ≠ first <;> by_cases h2 : x = (i : Int) <;> cases h3 : xs.any (fun x => decide (x = (i : Int))) <;> simp_all <;> omega
    rw [one_hit] at h1
    simp only [List.filter_cons]
    by_cases hx : x ≠ first
    · rw [if_pos (by simpa using hx)]
      simp only [List.length_cons]
      split at h1 <;> omega
    · rw [if_neg (by simpa using hx)]
      rw [if_neg (by omega)] at h1
      omega
theorem filter_all (faulty : List Int) (first : Int) (h : faulty.length ≤ (faulty.filter fun x => decide (x ≠ first)).length) : faulty.all (fun x => decide (x ≠ first)) = true := by
  have : (faulty.filter fun x => decide (x ≠ first)).length = faulty.length := Nat.le_antisymm (List.length_filter_le _ _) h
  rw [List.length_filter_eq_length_iff] at this
  simpa using this
theorem one_law {f seq view : Int} {says : List ByteArray} {faulty : List Int} {a b : ByteArray} (hf : 1 ≤ f ∧ f ≤ 4) (hv : 0 ≤ view) (hn : (says.length : Int) = 3 * f + 1) (hl : (faulty.length : Int) ≤ f) {v1 : Int}
    (ha : proofOk f ⟨view, seq, a, sayers says faulty (view.tmod (3 * f + 1)) a says.length⟩ v1 = true) (hb : proofOk f ⟨view, seq, b, sayers says faulty (view.tmod (3 * f + 1)) b says.length⟩ v1 = true) (hab : a ≠ b) :
    faulty.all (fun x => decide (x ≠ view.tmod (3 * f + 1))) = true := by
  have h0 : 0 ≤ view.tmod (3 * f + 1) := by rw [Int.tmod_eq_emod_of_nonneg hv]; exact Int.emod_nonneg _ (by omega)
  have h1 : view.tmod (3 * f + 1) < 3 * f + 1 := by rw [Int.tmod_eq_emod_of_nonneg hv]; exact Int.emod_lt_of_pos _ (by omega)
  generalize view.tmod (3 * f + 1) = first at *
  simp only [proofOk, Bool.and_eq_true, decide_eq_true_eq] at ha hb
  have g1 := sayers_two says faulty first a b hab says.length
  have g2 := not_first first h0 says.length (by omega)
  have g3 := bad_few faulty first says.length
  exact filter_all faulty first (by omega)
end Go.Proofs.YtcandekalmjfaaaFn
