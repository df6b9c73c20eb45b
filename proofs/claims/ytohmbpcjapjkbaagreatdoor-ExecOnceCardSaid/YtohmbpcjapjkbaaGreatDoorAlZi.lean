/- The A-logic: a box is frozen between two operations; only when it holds these values. -/
import Derived.Test.YtohmbpcjapjkbaaGreatDoorAlZh
set_option linter.all false
namespace Go.Proofs.YtohmbpcjapjkbaaGreatDoorAl
def sts : List SV → List AV
  | [] => []
  | x :: r => .st x :: sts r
theorem unSt_sts : ∀ cs : List SV, unSt (sts cs) = some cs
  | [] => rfl
  | x :: r => by simp only [sts, unSt, unSt_sts r]
def keys {α : Type} : List (Nat × α) → List Nat
  | [] => []
  | (i, _) :: r => i :: keys r
def frcA0 {β : Type} (x : AV) (k : AV → β) : β := match x with
  | .st y => k (.st y)
  | .ptr a b => k (.ptr a b)
  | .lsl a b c d => k (.lsl a b c d)
  | x => k x
def frcAL {β : Type} : List AV → (List AV → β) → β
  | [], k => k []
  | x :: r, k => frcA0 x fun y => frcAL r fun r' => k (y :: r')
def frcA {β : Type} (x : AV) (k : AV → β) : β := match x with
  | .st y => k (.st y)
  | .ptr a b => k (.ptr a b)
  | .lsl a b c d => k (.lsl a b c d)
  | .fn f a b => frcAL a fun a' => frcAL b fun b' => k (.fn f a' b')
  | .agg a => frcAL a fun a' => k (.agg a')
  | x => k x
def frcT {β : Type} : Tm → (Tm → β) → β
  | [], k => k []
  | (i, x) :: r, k => frcA x fun y => frcT r fun r' => k ((i, y) :: r')
theorem frcA0_eq {β : Type} (x : AV) (k : AV → β) : frcA0 x k = k x := by cases x <;> rfl
theorem frcAL_eq {β : Type} : ∀ (l : List AV) (k : List AV → β), frcAL l k = k l
  | [], _ => rfl
  | x :: r, k => by simp only [frcAL, frcA0_eq, frcAL_eq r]
theorem frcA_eq {β : Type} (x : AV) (k : AV → β) : frcA x k = k x := by cases x <;> simp [frcA, frcAL_eq]
theorem frcT_eq {β : Type} : ∀ (l : Tm) (k : Tm → β), frcT l k = k l
  | [], _ => rfl
  | (i, x) :: r, k => by simp only [frcT, frcA_eq, frcT_eq r]
section
variable {P : Program} {ops : Array Oper} {j : Nat} {l : List Oper} {q : S → Prop} {N n : Nat} {t : Tm} {h : Heap}
theorem o_frb (id : Nat) (cs : List SV) (hl : look h id = some (.cells (sts cs))) {t1 t2 : Tm} {h1 h2 : Heap} (e1 : frc (keepL (keys t) t) some = some t1) (e2 : frc (del h id) some = some h1) (ht : ocbT id t1) (hh : ocbH id h1)
    (e3 : frcT (frbT id cs t1) some = some t2) (e4 : frc (frbH id cs h1) some = some h2) (k : OpsL P ops j l ⟨N, n, t2, h2⟩ q) : OpsL P ops j l ⟨N, n, t, h⟩ q := by
  rw [frc_eq] at e1 e2 e4; rw [frcT_eq] at e3; cases e1; cases e2; cases e3; cases e4
  exact OpsL.wk (Wk.frb id (keys t) hl (unSt_sts cs) rfl rfl ht hh rfl rfl) (Nat.le_refl _) k
end
end Go.Proofs.YtohmbpcjapjkbaaGreatDoorAl
