/- The A-logic, part 20: the rule of a region that draws; the walk, one operation at a time. -/
import Derived.Test.YtohmbpcjapjkbaaGreatDoorAlS
set_option linter.all false
namespace Go.Proofs.YtohmbpcjapjkbaaGreatDoorAl

section
variable {P : Program} {ops : Array Oper} {N m : Nat} {r : Nat → Rec} {st : Nat → S} {c0 : Cfg}

theorem Inv.any (hs : Seq P ops N m r st) {Q : Exit → Act → World → Prop}
    (hQ : ∀ listed a c tE hE, Inv ops N m r st c0 listed a c tE hE → (∀ k, k < m → Exd r listed k) → Q .normal a c.w) :
    ∀ (fuel : Nat) (U : List Nat) (listed : Array Bool) (a : Act) (c : Cfg) (tE : List (Nat × AV)) (hE : Heap), Inv ops N m r st c0 listed a c tE hE →
      (∀ k, k < m → Exd r listed k ∨ k ∈ U) → U.length ≤ fuel → wpAny P .any ops Q fuel listed a c.w := by
  intro fuel
  induction fuel with
  | zero =>
    intro U listed a c tE hE I hU hl
    have hU0 : U = [] := List.length_eq_zero_iff.1 (by omega)
    subst hU0
    have all : ∀ k, k < m → Exd r listed k := fun k hk => (hU k hk).resolve_right (by simp)
    refine ⟨?_, hQ listed a c tE hE I all⟩
    rw [List.eq_nil_iff_forall_not_mem]
    intro i hi
    obtain ⟨h0, o, ho, _⟩ := mem_ready.1 hi
    obtain ⟨k, hk, rfl⟩ := hs.sur i (Array.getElem?_eq_some_iff.1 ho).1
    exact (I.before hs hk hi).1 (all k hk)
  | succ fuel ih =>
    intro U listed a c tE hE I hU hl
    refine ⟨fun h0 => hQ listed a c tE hE I fun k => ?_, fun i hi => ?_⟩
    · induction k using Nat.strongRecOn with
      | _ k ihk =>
        intro hk
        by_cases he : Exd r listed k
        · exact he
        · have hlt : (r k).i < listed.size := by rw [I.size]; exact hs.lt k hk
          have : (r k).i ∈ Region.ready .any ops listed := by
            refine mem_ready.2 ⟨?_, ops[(r k).i]'(hs.lt k hk), by simp [hs.lt k hk], fun e hee hb => ?_⟩
            · unfold Exd at he
              simp only [Array.getD_eq_getD_getElem?, Array.getElem?_eq_getElem hlt, Option.getD_some] at he ⊢
              simpa using he
            · obtain ⟨p, hp, hpe⟩ := hs.topo k hk _ (by simp [hs.lt k hk]) e hee hb
              rw [← hpe]
              exact ihk p hp (by omega)
          rw [h0] at this; cases this
    · obtain ⟨_, o, ho, _⟩ := mem_ready.1 hi
      obtain ⟨k, hk, rfl⟩ := hs.sur i (Array.getElem?_eq_some_iff.1 ho).1
      obtain ⟨hn, _, _, _, hex⟩ := I.before hs hk hi
      refine I.step hs hk hi fun a' c' tE' hE' I' => ih (U.erase k) _ a' c' tE' hE' I' (fun p hp => ?_) ?_
      · by_cases hpk : p = k
        · exact .inl ((hex p hp).2 (.inr hpk))
        · rcases hU p hp with h | h
          · exact .inl ((hex p hp).2 (.inl h))
          · exact .inr ((List.mem_erase_of_ne hpk).2 h)
      · have := List.length_erase_of_mem ((hU k hk).resolve_left hn)
        omega

theorem Seq.code (hs : Seq P ops N m r st) (hm : P.follows .mixedOrders = true) (hN : (st 0).N = N) {id : Nat} {Q : Exit → S → Prop} {t' : List (Nat × AV)}
    (ht : ∀ d x, look t' d = some x → look (st m).t d = some x) (hsz : m = ops.size) (hq : Q .normal ⟨N, (st m).n, t', (st m).h⟩) : CodeOk P (.region id ops true) (st 0) Q := fun c a hr => by
  refine wp_region_any hm ?_
  have hn : c.n = (st 0).n := hr.n
  have hle := hs.nle m (Nat.le_refl _) 0 (by omega)
  let c1 : Cfg := { c.drew with n := (st m).n }
  have g0 : CGo c c1 := ⟨by show c.n ≤ (st m).n; omega, fun _ _ => rfl, ⟨fun _ h => h, fun _ _ => rfl⟩, fun _ _ h => h⟩
  have nl : ∀ k, ¬ Exd r (Array.replicate ops.size false) k := fun k h => by
    unfold Exd at h
    simp only [Array.getD_eq_getD_getElem?, Array.getElem?_replicate] at h
    split at h <;> simp at h
  have nmv : ∀ (n : Nat), (st 0).n ≤ n → (∀ d x, look (st 0).t d = some x → x.nm (belB n) = true) ∧ ∀ id o, look (st 0).h id = some o → id < n ∧ o.nm (belB n) = true := fun n hle => by
    have hb : ∀ id, id < c.n → belB n id = true := fun id h => belB_iff.2 (by omega)
    refine ⟨fun d x e => ?_, fun id o e => ⟨by have := hr.h.lt id o e; omega, hr.h.nm hb e⟩⟩
    obtain ⟨v, _, h2⟩ := hr.t.get d x e
    exact h2.nm hb
  have I : Inv ops N m r st c (Array.replicate ops.size false) a c1 (st 0).t (st 0).h := by
    refine ⟨by simp, ⟨hr.defers, rfl, ?_, ?_⟩, ?_, ⟨fun p _ he => absurd he (nl p), fun id _ o e => e⟩, ⟨fun p _ he => absurd he (nl p), fun id _ o e => e⟩, fun p _ he => absurd he (nl p),
      (nmv _ (Nat.le_refl _)).1, (nmv _ (Nat.le_refl _)).2, fun k hk _ => ?_, fun j o _ hl => ?_⟩
    · have := hr.t.goes g0
      rw [hN] at this; exact this
    · exact ⟨fun id o e => by have := hr.h.lt id o e; show id < (st m).n; omega, hr.h.blk, hr.h.own, fun id o e q => (hr.h.rel id o e q).goes g0 rfl, hr.h.inj, hr.h.st, hr.h.fact⟩
    · refine ⟨⟨by show c.n ≤ (st 0).n; omega, fun _ _ => rfl, ⟨fun _ h => h, fun _ _ => rfl⟩, fun _ _ h => h⟩, rfl, rfl, rfl, Nat.le_refl _, fun _ _ _ => rfl, fun _ h => .inl h, fun id o e q => .inr ⟨id, o, e, q, rfl⟩⟩
    · have hk0 : (st 0).n ≤ (r k).nin := by rw [hs.nin k hk]; exact hs.nle k (by omega) 0 (by omega)
      have up : ∀ id, belB (st 0).n id = true → outB (r k).nin (r k).nout id = true := fun id h => outB_iff.2 (.inl (Nat.lt_of_lt_of_le (belB_iff.1 h) hk0))
      obtain ⟨h1, h2⟩ := nmv _ (Nat.le_refl _)
      exact ⟨fun d x e => AV.nm_mono up (h1 d x e), fun id o e => ⟨up id (belB_iff.2 (h2 id o e).1), AO.nm_mono up (h2 id o e).2⟩⟩
    · simp only [Array.getD_eq_getD_getElem?, Array.getElem?_replicate] at hl
      split at hl <;> simp at hl
  refine Inv.any (c0 := c) hs (Q := fun e a' w' => ∃ s' c', Q e s' ∧ SRel c' s' a' ∧ c'.w = w' ∧ Ev c (st 0).h c' s'.h) (fun listed a c2 tE hE I hall => ?_) ops.size (List.range m) _ a c1 _ _ I
    (fun k hk => .inr (List.mem_range.2 hk)) (by simp [hsz])
  have tget : ∀ d x, look t' d = some x → look tE d = some x := fun d x e => I.ct.get hs.tt (Nat.le_refl _) (ht d x e) (fun p hp _ => hall p hp) (fun p hp hpm _ _ => by omega)
  have hget : ∀ id o, look (st m).h id = some o → look hE id = some o := fun id o e => I.ch.get hs.hh (Nat.le_refl _) e (fun p hp _ => hall p hp) (fun p hp hpm _ _ => by omega)
  have hcn : c2.n = (st m).n := I.rel.n
  refine ⟨_, c2, hq, ⟨I.rel.defers, hcn, ⟨I.rel.t.size, fun d x e => I.rel.t.get d x (tget d x e)⟩, hrel_sub' I.rel.h hget⟩, rfl, ?_⟩
  have h1 := I.ev
  have h2 : Ev c (st 0).h c2 hE := ⟨⟨by rw [hn, hcn]; exact hle, h1.go.ids, h1.go.st, h1.go.shape⟩, h1.os, h1.tape, h1.output, h1.size, h1.frame, h1.new, h1.objs⟩
  exact h2.trans (ev_sub hget)
end
end Go.Proofs.YtohmbpcjapjkbaaGreatDoorAl
