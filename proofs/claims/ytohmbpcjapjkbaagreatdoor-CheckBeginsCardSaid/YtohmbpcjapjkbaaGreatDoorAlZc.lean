/- The A-logic: maps of integers and texts; fields of values; max and min. -/
import Derived.Test.YtohmbpcjapjkbaaGreatDoorAlZb
import Derived.MapKept
set_option linter.all false
namespace Go.Proofs.YtohmbpcjapjkbaaGreatDoorAl
section
variable {c : Cfg}
/-- The entries of a map, one by one. -/
inductive MRel (c : Cfg) : List (SV × SV) → List MapEntry → Prop
  | nil : MRel c [] []
  | cons (k v : SV) (e : MapEntry) (es : List (SV × SV)) (ms : List MapEntry) : SVal c.St c.w k e.key → SVal c.St c.w v e.val → MRel c es ms → MRel c ((k, v) :: es) (e :: ms)
theorem MRel.of : ∀ {es : List (SV × SV)} {ms : List MapEntry}, ms.length = es.length → (∀ (i : Nat) k v, es[i]? = some (k, v) → ∃ e, ms[i]? = some e ∧ SVal c.St c.w k e.key ∧ SVal c.St c.w v e.val) → MRel c es ms
  | [], [], _, _ => .nil
  | [], _ :: _, h, _ => by simp at h
  | _ :: _, [], h, _ => by simp at h
  | (k, v) :: es, m :: ms, hl, h => by
    obtain ⟨e, h1, h2, h3⟩ := h 0 k v rfl
    simp at h1; subst h1
    exact .cons k v m es ms h2 h3 (MRel.of (by simpa using hl) fun i k v e => by simpa using h (i + 1) k v (by simpa using e))
theorem MRel.length : ∀ {es : List (SV × SV)} {ms : List MapEntry}, MRel c es ms → ms.length = es.length
  | _, _, .nil => rfl
  | _, _, .cons _ _ _ _ _ _ _ h => by simp [h.length]
theorem MRel.get : ∀ {es : List (SV × SV)} {ms : List MapEntry}, MRel c es ms → ∀ (i : Nat) k v, es[i]? = some (k, v) → ∃ e, ms[i]? = some e ∧ SVal c.St c.w k e.key ∧ SVal c.St c.w v e.val
  | _, _, .cons k v e es ms h1 h2 h3, 0, k', v', e' => by simp at e'; obtain ⟨rfl, rfl⟩ := e'; exact ⟨e, rfl, h1, h2⟩
  | _, _, .cons k v e es ms h1 h2 h3, i + 1, k', v', e' => by simpa using h3.get i k' v' (by simpa using e')
theorem MRel.goes {c' : Cfg} (g : Goes c.St c'.St c.w c'.w) : ∀ {es : List (SV × SV)} {ms : List MapEntry}, MRel c es ms → MRel c' es ms
  | _, _, .nil => .nil
  | _, _, .cons _ _ _ _ _ h1 h2 h3 => .cons _ _ _ _ _ (h1.goes g) (h2.goes g) (h3.goes g)

end

section
variable {P : Program} {ops : Array Oper} {j : Nat} {l : List Oper} {q : S → Prop} {s : S} {N n : Nat} {t : Tm} {h : Heap} {Q : Exit → S → Prop} {L : Lay}
variable {d : Nat} {ty : TypeId} {pos : String} {af : Array Edge} {g : Option (Nat × Bool)}

theorem st_makeMap {t1 : TypeId} (k : OpsL P ops (j + 1) l ⟨N, n + 1, (d, .map n) :: t, (n, .map []) :: h⟩ q) : OpG P ops j ⟨some d, .makeMap t1 none, ty, pos, af, g⟩ l ⟨N, n, t, h⟩ q :=
  OpOk.intro fun c a hs => by
    have hn := hs.n
    simp only at hn
    subst hn
    refine ⟨_, _, _, .map (some c.w.heap.size), c.alloc (.map #[] 0), ?_, k, ?_, ?_, ?_, ?_⟩
    · simp [execOp, Instr.makeMap, Cfg.alloc]
    · exact ev_alloc hs.h
    · simp [Cfg.alloc]
    · exact hrel_alloc hs.h ⟨#[], 0, heap_alloc_new, rfl, fun i k v e => by simp at e, fun i e he => by simp at he, by simp⟩
    · have : (c.alloc (.map #[] 0)).ι c.n = c.w.heap.size := by simp [Cfg.alloc]
      rw [← this]; exact .map _ (Nat.lt_succ_self _)

theorem st_min {ts : Array TypeId} {x y : Operand} {kk : IntKind} {m1 m2 : Int} (hx : evT t x = some (.st (.int kk m1))) (hy : evT t y = some (.st (.int kk m2)))
    (k : OpsL P ops (j + 1) l ⟨N, n, (d, .st (.int kk (min m1 m2))) :: t, h⟩ q) : OpG P ops j ⟨some d, .call ⟨.builtin .min, #[x, y], ts⟩, ty, pos, af, g⟩ l ⟨N, n, t, h⟩ q :=
  OpOk.pure (fun c a hs => by
    have h1 := int_inv (S.ev_val hs (x := x) (by rw [evT_eq]; exact hx))
    have h2 := int_inv (S.ev_val hs (x := y) (by rw [evT_eq]; exact hy))
    refine ⟨.int kk (min m1 m2), ?_, .st _ _ (.int _ _)⟩
    have hp : (Builtin.min_ ts ty #[.int kk m1, .int kk m2]).run P c.w = .ok (.int kk (min m1 m2)) c.w := by
      simp [Builtin.min_, Builtin.min2]
      rw [Int.min_def]; split <;> split <;> first | rfl | omega
    simp [execOp, h1, h2, resolve, invoke, builtin, hp]) k

end
end Go.Proofs.YtohmbpcjapjkbaaGreatDoorAl
