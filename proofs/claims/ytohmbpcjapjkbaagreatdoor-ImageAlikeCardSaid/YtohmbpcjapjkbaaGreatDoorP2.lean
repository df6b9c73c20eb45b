/- Texts that the law's proof uses: part 2. -/
import Derived.Test.YtohmbpcjapjkbaaGreatDoorP1
import Derived.Test.YtohmbpcjapjkbaaGreatDoorAlZj
import Derived.Test.YtohmbpcjapjkbaaGreatDoorAlZk
import Derived.Test.YtohmbpcjapjkbaaGreatDoorAlZo
import Derived.Test.YtohmbpcjapjkbaaGreatDoorAlZl
import Derived.Sort.AssemblyPlain
import Derived.Sort.Walk0
import Derived.WalkKit
import Derived.WalkLawsBesides
import Derived.Deep.Draws
import Derived.Sort.Grow
set_option linter.all false
namespace Go.Proofs.YtohmbpcjapjkbaaGreatDoorFn
open Go.Proofs.YtohmbpcjapjkbaaGreatDoorAl Go.Proofs.Tryz
attribute [local irreducible] IntKind.wrap CodeOk OpsL OpG ACalls thn inBlk rndR cutR WkR Wk fnR DW ExtOk partsOf
theorem b175 : HasBody prog 175 := ⟨f175, func175, Option.some_ne_none _, by decide⟩
theorem b146 : HasBody prog 146 := ⟨f146, func146, Option.some_ne_none _, by decide⟩
theorem b108 : HasBody prog 108 := ⟨f108, func108, Option.some_ne_none _, by decide⟩
theorem b109 : HasBody prog 109 := ⟨f109, func109, Option.some_ne_none _, by decide⟩
theorem b118 : HasBody prog 118 := ⟨f118, func118, Option.some_ne_none _, by decide⟩
theorem rowB_one {b : List UInt8} : ∀ row ∈ b.map rowB, ∀ y ∈ row, SV.one y = true := by
  intro row hr y hy
  obtain ⟨_, _, rfl⟩ := List.mem_map.1 hr
  simp only [rowB, List.mem_singleton] at hy; subst hy; rfl
theorem cloneB_ok (b : List UInt8) (hb : b.length ≤ 4000000000) : ACalls prog 175 0 [.st (.sl 1 (b.map rowB))] [] fun r h => r = .lsl 0 1 0 (b.map rowB).length ∧ h = [(0, .arr 1 (b.map rowB))] := by
  refine fnC lay_ok func175 rfl rfl rfl rfl rfl ?_
  have hm : (List.map rowB b).length = b.length := List.length_map _
  repeat' first | refine stp lay_ok rfl ?_ | refine fin ?_ | refine n_thn ?_ | refine r_thn ?_ | refine .seq ?_ | refine reg ?_ | refine .skip ?_ | refine .ret ?_ | refine cnd rfl (fun hc => ?_) (fun hc => ?_) | (refine o_none rfl ?_; (first | refine st_nilSl lay_ok rfl rfl rfl rfl (fun z hz => ?_) | refine st_append lay_ok rfl rfl rfl rfl rfl rfl rfl rfl .sl0 .sl rfl rowB_one (by simp only [List.length_nil]; omega) (by simp only [List.length_nil]; omega) ?_)) | fail
  · cases z with
    | false => cases hc
    | true =>
      rw [hz rfl]
      refine f_end (n0 := 1) (t'' := [(2, .lsl 0 1 0 0)]) (h'' := [(0, .arr 1 [])]) (Wk.then (Wk.nilT 1 2 rfl rfl) (WkR.of [0] (by (repeat' first | exact trivial | refine And.intro ?_ ?_ | rfl); first | done | fail) (by (repeat' first | exact trivial | refine And.intro ?_ ?_ | rfl); first | done | fail) rfl)) rfl rfl ⟨?_, rfl⟩
      rfl
  · refine f_end (n0 := 1) (t'' := [(2, .lsl 0 1 0 (b.map rowB).length)]) (h'' := [(0, .arr 1 (b.map rowB))]) (WkR.of [0] (by (repeat' first | exact trivial | refine And.intro ?_ ?_ | rfl); first | done | fail) (by (repeat' first | exact trivial | refine And.intro ?_ ?_ | rfl); first | done | fail) rfl) rfl rfl ⟨?_, rfl⟩
    rfl
/-- A number's bytes, low ones first. -/
def numF : Nat → Nat → List UInt8
  | 0, _ => []
  | f + 1, n => if 128 ≤ n then UInt8.ofNat (n % 128 + 128) :: numF f (n / 128) else [UInt8.ofNat n]
abbrev numL (n : Nat) : List UInt8 := numF 10 n
abbrev U (n : Nat) : AV := .st (.int .u64 (n : Int))
abbrev Bs (b : List UInt8) : AV := .st (.sl 1 (b.map rowB))
theorem u8wrap (n : Nat) : IntKind.u8.wrap (n : Int) = ((UInt8.ofNat n).toNat : Int) := by
  simp [IntKind.wrap, IntKind.signed, IntKind.bits]
theorem or128 : ∀ k < 256, k ||| 128 = k % 128 + 128 := by decide +kernel
theorem bit128 (n : Nat) : binJ .or .u8 (IntKind.u8.wrap (n : Int)) 128 = some (.int .u8 ((UInt8.ofNat (n % 128 + 128)).toNat : Int)) := by
  have h1 : (BitVec.ofInt 8 ((n % 256 : Nat) : Int) ||| BitVec.ofInt 8 128).toNat = n % 128 + 128 := by
    have h2 := or128 (n % 256) (by omega)
    simp only [BitVec.toNat_or, BitVec.toNat_ofInt]
    have e1 : (((n % 256 : Nat) : Int) % ((2 ^ 8 : Nat) : Int)).toNat = n % 256 := by omega
    have e2 : ((128 : Int) % ((2 ^ 8 : Nat) : Int)).toNat = 128 := by decide
    rw [e1, e2, h2]; omega
  have e3 : IntKind.u8.wrap (n : Int) = ((n % 256 : Nat) : Int) := by simp [IntKind.wrap, IntKind.signed, IntKind.bits]
  simp only [binJ, e3]
  have e4 : IntKind.u8.bits = 8 := rfl
  rw [e4, h1, u8wrap]
theorem shr7 (n : Nat) : shI .shr .u64 (n : Int) 7 = some (.int .u64 ((n / 128 : Nat) : Int)) := by
  simp only [shI]
  have : Int.fdiv (n : Int) (2 ^ min (Int.toNat 7) IntKind.u64.bits) = ((n / 128 : Nat) : Int) := by
    have e : (2 ^ min (Int.toNat 7) IntKind.u64.bits : Int) = 128 := by decide
    rw [e, Int.fdiv_eq_ediv_of_nonneg _ (by decide)]
    rfl
  rw [this]
theorem rowW_one (n : Nat) : ∀ row ∈ [[SV.int .u8 (IntKind.u8.wrap (n : Int))]], ∀ y ∈ row, SV.one y = true := by
  intro row hr y hy
  simp only [List.mem_singleton] at hr; subst hr
  simp only [List.mem_singleton] at hy; subst hy; rfl
theorem num_ok (b : List UInt8) (n0 : Nat) (hb : b.length ≤ 3000000000) (hn : n0 < 2 ^ 64) : ACalls prog 146 0 [Bs b, U n0] [] fun r h => r = .lsl 0 1 0 ((b ++ numL n0).map rowB).length ∧ h = [(0, .arr 1 ((b ++ numL n0).map rowB))] := by
  refine fnC lay_ok func146 rfl rfl rfl rfl rfl ?_
  have hcl := cloneB_ok b (by omega)
  repeat' first | refine stp lay_ok rfl ?_ | refine fin ?_ | refine n_thn ?_ | refine .seq ?_ | refine reg ?_ | refine .block ?_ | (refine o_none rfl ?_; refine st_callF 1 (hcl) b175 rfl rfl rfl rfl rfl rfl (by (repeat' first | exact trivial | refine And.intro ?_ ?_ | rfl); first | done | fail) rfl ?_) | fail
  refine lpR (fun (out, n, f) => b ++ numL n0 = out ++ numF (f + 1) n ∧ n < 128 ^ (f + 1) ∧ f ≤ 9 ∧ n < 2 ^ 64 ∧ out.length + f = b.length + 9) (fun (out, n, f) => f) (fun (out, n, f) => [(1, U n), (5, .lsl 1 1 0 (out.map rowB).length)]) (fun (out, n, f) => [(1, .arr 1 (out.map rowB))]) ((b, n0, 9)) [] [] [0] rfl rfl rfl (.of [0] (by (repeat' first | exact trivial | refine And.intro ?_ ?_ | rfl); first | done | fail) (by (repeat' first | exact trivial | refine And.intro ?_ ?_ | rfl); first | done | fail) rfl) ?_ ?_
  · refine ⟨rfl, ?_, Nat.le_refl _, hn, rfl⟩
    omega
  · rintro ⟨out, n, f⟩ ⟨h1, h2, h3, h4, h5⟩
    refine nrm rfl rfl ?_
    have hm : (List.map rowB out).length = out.length := List.length_map _
    by_cases hge : 128 ≤ n
    · have hf : f ≠ 0 := by rintro rfl; omega
      obtain ⟨f', rfl⟩ : ∃ f', f = f' + 1 := ⟨f - 1, by omega⟩
      have hbit := bit128 n
      have hsh := shr7 n
      have hr : ∀ x : UInt8, List.map rowB out ++ [[SV.int .u8 (x.toNat : Int)]] = List.map rowB (out ++ [x]) := fun x => by rw [List.map_append]; rfl
      repeat' first | refine stp lay_ok rfl ?_ | refine fin ?_ | refine n_thn ?_ | refine n_blk ?_ | refine e_thn ?_ | refine e_hit ?_ | refine e_rr ?_ | refine .seq ?_ | refine reg ?_ | refine .block ?_ | refine .skip ?_ | refine .exit ?_ | refine c_dec rfl (fun hc => ?_) (fun hc => ?_) | (refine o_none rfl ?_; (first | refine st_bits rfl rfl hbit ?_ | refine st_shift rfl rfl (by decide) hsh ?_ | refine st_append lay_ok rfl rfl rfl rfl rfl rfl rfl rfl (.lsl rfl rfl) .sl rfl (rowB_one (b := [UInt8.ofNat (n % 128 + 128)])) (by simp only [List.length_cons, List.length_nil]; omega) (by simp only [List.length_cons, List.length_nil]; omega) ?_)) | fail
      · rw [hr]
        refine n_rr ((out ++ [UInt8.ofNat (n % 128 + 128)], n / 128, f')) ?_ (.of [2] (by (repeat' first | exact trivial | refine And.intro ?_ ?_ | rfl); first | done | fail) (by (repeat' first | exact trivial | refine And.intro ?_ ?_ | rfl); first | done | fail) rfl) ?_
        · exact Nat.lt_succ_self _
        · refine ⟨?_, ?_, by omega, by omega, ?_⟩
          · rw [h1, numF, if_pos hge, List.append_assoc]; rfl
          · rw [Nat.pow_succ] at h2; omega
          · simp; omega
      · omega
    · have hend : b ++ numL n0 = out ++ [UInt8.ofNat n] := by rw [h1, numF, if_neg hge]
      have hr : List.map rowB out ++ [[SV.int .u8 (IntKind.u8.wrap (n : Int))]] = List.map rowB (b ++ numL n0) := by rw [hend, List.map_append, u8wrap]; rfl
      repeat' first | refine stp lay_ok rfl ?_ | refine fin ?_ | refine n_thn ?_ | refine e_thn ?_ | refine e_hit ?_ | refine e_rr ?_ | refine .seq ?_ | refine reg ?_ | refine .block ?_ | refine .skip ?_ | refine .ret ?_ | refine .exit ?_ | refine c_dec rfl (fun hc => ?_) (fun hc => ?_) | (refine o_none rfl ?_; refine st_append lay_ok rfl rfl rfl rfl rfl rfl rfl rfl (.lsl rfl rfl) .sl rfl (rowW_one n) (by simp only [List.length_cons, List.length_nil]; omega) (by simp only [List.length_cons, List.length_nil]; omega) ?_) | fail
      · omega
      · rw [hr]
        refine f_end (n0 := 1) (t'' := [(4, .lsl 0 1 0 ((b ++ numL n0).map rowB).length)]) (h'' := [(0, .arr 1 ((b ++ numL n0).map rowB))]) (WkR.of [2] (by (repeat' first | exact trivial | refine And.intro ?_ ?_ | rfl); first | done | fail) (by (repeat' first | exact trivial | refine And.intro ?_ ?_ | rfl); first | done | fail) rfl) rfl rfl ⟨?_, rfl⟩
        rfl
end Go.Proofs.YtohmbpcjapjkbaaGreatDoorFn
namespace Go.Proofs.YtohmbpcjapjkbaaGreatDoorFn
open Go.Proofs.YtohmbpcjapjkbaaGreatDoorAl Go.Proofs.Tryz
attribute [local irreducible] IntKind.wrap CodeOk OpsL OpG ACalls thn inBlk rndR cutR WkR Wk fnR DW ExtOk partsOf
abbrev bytes (s : ByteArray) : List UInt8 := s.data.toList
theorem bytes_len (s : ByteArray) : (bytes s).length = s.size := by rw [Array.length_toList]; rfl
def textL (s : ByteArray) : List UInt8 := numL s.size ++ bytes s
theorem u64wrap (n : Nat) (h : n < 2 ^ 64) : IntKind.u64.wrap (n : Int) = n := by
  simp [IntKind.wrap, IntKind.signed, IntKind.bits]; omega
theorem numF_len : ∀ f n, (numF f n).length ≤ f
  | 0, _ => by simp [numF]
  | f + 1, n => by
    have := numF_len f (n / 128)
    rw [numF]; split <;> simp <;> omega
theorem text_ok (b : List UInt8) (s : ByteArray) (hb : b.length ≤ 3000000000) (hs : s.size ≤ 3000000000) : ACalls prog 108 0 [Bs b, Sx s] [] fun r h => r = .lsl 0 1 0 ((b ++ textL s).map rowB).length ∧ h = [(0, .arr 1 ((b ++ textL s).map rowB))] := by
  refine fnC lay_ok func108 rfl rfl rfl rfl rfl ?_
  have hn := num_ok b s.size hb (by omega)
  have hl := numF_len 10 s.size
  have hlen : ((b ++ numL s.size).map rowB).length ≤ 3000000010 := by simp [numL]; omega
  have hr : (b ++ numL s.size).map rowB ++ s.data.toList.map rowB = (b ++ textL s).map rowB := by rw [← List.map_append, textL, List.append_assoc]
  repeat' first | refine stp lay_ok rfl ?_ | refine fin ?_ | refine n_thn ?_ | refine .seq ?_ | refine reg ?_ | fail
  rw [u64wrap _ (by omega)]
  repeat' first | refine stp lay_ok rfl ?_ | refine fin ?_ | refine n_thn ?_ | refine .ret ?_ | (refine o_none rfl ?_; (first | refine st_callF 1 (hn) b146 rfl rfl rfl rfl rfl rfl (by (repeat' first | exact trivial | refine And.intro ?_ ?_ | rfl); first | done | fail) rfl ?_ | refine st_appendS lay_ok rfl rfl rfl rfl rfl rfl rfl rfl (.lsl rfl rfl) rfl (by omega) (by omega) ?_)) | fail
  rw [hr]
  refine f_end (n0 := 1) (t'' := [(4, .lsl 0 1 0 ((b ++ textL s).map rowB).length)]) (h'' := [(0, .arr 1 ((b ++ textL s).map rowB))]) (WkR.of [1] (by (repeat' first | exact trivial | refine And.intro ?_ ?_ | rfl); first | done | fail) (by (repeat' first | exact trivial | refine And.intro ?_ ?_ | rfl); first | done | fail) rfl) rfl rfl ⟨?_, rfl⟩
  rfl
/-- A number's value and how many bytes it takes, from these bytes on. -/
def gnF : List UInt8 → Nat → Nat → Option (Nat × Nat)
  | [], _, _ => none
  | x :: r, i, acc => if 10 ≤ i ∨ (x.toNat = 0 ∧ 0 < i) ∨ (1 < x.toNat ∧ i = 9) then none
    else if 128 ≤ x.toNat then gnF r (i + 1) (acc + x.toNat % 128 * 2 ^ (7 * i)) else some (acc + x.toNat % 128 * 2 ^ (7 * i), i + 1)
def gnR (b : List UInt8) (at_ : Int) (most : Nat) : AV := if at_ < 0 ∨ (b.length : Int) < at_ then .tuple [U 0, I 0, errE 1] else
  match gnF (b.drop at_.toNat) 0 0 with
  | none => .tuple [U 0, I 0, errE 2]
  | some (n, k) => if most < n then .tuple [U 0, I 0, errE 7] else .tuple [U n, I (at_ + k), nilE]
theorem at_rowB {l : List UInt8} {k : Nat} (h : k < l.length) : (l.map rowB)[((k : Nat) : Int).toNat]? = some (rowB l[k]) := by simp [h]
theorem and127_all : ∀ k < 256, k &&& 127 = k % 128 := by decide +kernel
theorem and127 (x : UInt8) : binJ .and .u8 (x.toNat : Int) 127 = some (.int .u8 ((x.toNat % 128 : Nat) : Int)) := by
  have hx := x.toNat_lt
  have h1 : (BitVec.ofInt 8 (x.toNat : Int) &&& BitVec.ofInt 8 127).toNat = x.toNat % 128 := by
    simp only [BitVec.toNat_and, BitVec.toNat_ofInt]
    have e1 : ((x.toNat : Int) % ((2 ^ 8 : Nat) : Int)).toNat = x.toNat := by omega
    have e2 : ((127 : Int) % ((2 ^ 8 : Nat) : Int)).toNat = 127 := by decide
    rw [e1, e2, and127_all _ (by omega)]
  have e4 : IntKind.u8.bits = 8 := rfl
  simp only [binJ]
  rw [e4, h1, u8wrap]
  simp; omega
theorem bit_small {v i : Nat} (h1 : v ≤ 127 ∧ i ≤ 9) (h2 : i = 9 → v ≤ 1) : v * 2 ^ (7 * i) < 2 ^ 64 := by
  rcases Nat.lt_or_ge i 9 with h | h
  · have := Nat.pow_le_pow_right (n := 2) (by decide) (show 7 * i ≤ 56 by omega)
    have := Nat.mul_le_mul h1.1 this
    omega
  · obtain rfl : i = 9 := by omega
    have := h2 rfl
    omega
theorem acc_next {acc v i : Nat} (h : acc < 2 ^ (7 * i)) (hv : v ≤ 127) : acc + v * 2 ^ (7 * i) < 2 ^ (7 * (i + 1)) := by
  have e : 2 ^ (7 * (i + 1)) = 128 * 2 ^ (7 * i) := by rw [Nat.mul_add, Nat.pow_add]; omega
  have := Nat.mul_le_mul_right (2 ^ (7 * i)) hv
  omega
theorem shl_u64 (v i : Nat) (hi : i ≤ 9) (h : v * 2 ^ (7 * i) < 2 ^ 64) : shI .shl .u64 (IntKind.u64.wrap ((v : Nat) : Int)) (7 * (i : Int)) = some (.int .u64 ((v * 2 ^ (7 * i) : Nat) : Int)) := by
  have hv : v < 2 ^ 64 := Nat.lt_of_le_of_lt (Nat.le_mul_of_pos_right v (Nat.pow_pos (by decide))) h
  rw [u64wrap _ hv]
  simp only [shI]
  have e1 : min (7 * (i : Int)).toNat IntKind.u64.bits = 7 * i := by
    have : IntKind.u64.bits = 64 := rfl
    omega
  rw [e1]
  have e2 : ((v : Int) * 2 ^ (7 * i)) = ((v * 2 ^ (7 * i) : Nat) : Int) := by push_cast; rfl
  rw [e2, u64wrap _ h]
theorem or_u64 (acc v i : Nat) (h : acc < 2 ^ (7 * i)) (hv : v * 2 ^ (7 * i) < 2 ^ 64) (hi : i ≤ 9) : binJ .or .u64 (acc : Int) ((v * 2 ^ (7 * i) : Nat) : Int) = some (.int .u64 ((acc + v * 2 ^ (7 * i) : Nat) : Int)) := by
  have hp : 2 ^ (7 * i) ≤ 2 ^ 63 := Nat.pow_le_pow_right (by decide) (by omega)
  have ha : acc < 2 ^ 64 := by omega
  have hor : acc ||| v * 2 ^ (7 * i) = acc + v * 2 ^ (7 * i) := by
    rw [← Nat.shiftLeft_eq, Nat.or_comm, ← Nat.shiftLeft_add_eq_or_of_lt h, Nat.add_comm]
  have hs : acc + v * 2 ^ (7 * i) < 2 ^ 64 := by
    rw [← hor]; exact Nat.or_lt_two_pow ha hv
  have h1 : (BitVec.ofInt 64 (acc : Int) ||| BitVec.ofInt 64 ((v * 2 ^ (7 * i) : Nat) : Int)).toNat = acc + v * 2 ^ (7 * i) := by
    simp only [BitVec.toNat_or, BitVec.toNat_ofInt]
    have e1 : ((acc : Int) % ((2 ^ 64 : Nat) : Int)).toNat = acc := by omega
    have e2 : (((v * 2 ^ (7 * i) : Nat) : Int) % ((2 ^ 64 : Nat) : Int)).toNat = v * 2 ^ (7 * i) := by
      generalize v * 2 ^ (7 * i) = w at *
      omega
    rw [e1, e2, hor]
  have e4 : IntKind.u64.bits = 64 := rfl
  simp only [binJ]
  rw [e4, h1, u64wrap _ hs]
set_option maxHeartbeats 2000000 in
theorem getNum_ok (b : List UInt8) (p : Int) (most : Nat) (hb : b.length ≤ 4000000000) (hp : p ≤ 9000000000 ∧ -9000000000 ≤ p) (hm : most < 2 ^ 64) : ACalls prog 109 0 [Bs b, I p, U most] [] fun r h => r = gnR b p most ∧ h = [] := by
  refine fnC lay_ok func109 rfl rfl rfl rfl rfl ?_
  have hlm : (List.map rowB b).length = b.length := List.length_map _
  by_cases h0 : p < 0
  · repeat' first | refine ln ?_ | refine stp lay_ok rfl ?_ | refine fin ?_ | refine n_thn ?_ | refine r_thn ?_ | refine .seq ?_ | refine reg ?_ | refine .skip ?_ | refine .ret ?_ | refine cndT rfl ?_ | refine c_dec rfl (fun hc => ?_) (fun hc => ?_) | refine gd rfl rfl rfl (fun hg => ?_) (fun hg => ?_) | fail
    · refine f_r [] rfl trivial rfl ⟨?_, rfl⟩; rw [gnR, if_pos (.inl h0)]; rfl
    all_goals omega
  · by_cases h1 : (b.length : Int) < p
    · repeat' first | refine ln ?_ | refine stp lay_ok rfl ?_ | refine fin ?_ | refine n_thn ?_ | refine r_thn ?_ | refine .seq ?_ | refine reg ?_ | refine .skip ?_ | refine .ret ?_ | refine cndT rfl ?_ | refine c_dec rfl (fun hc => ?_) (fun hc => ?_) | refine gd rfl rfl rfl (fun hg => ?_) (fun hg => ?_) | fail
      all_goals first | omega | skip
      · refine f_r [] rfl trivial rfl ⟨?_, rfl⟩; rw [gnR, if_pos (.inr h1)]; rfl
      all_goals omega
    · obtain ⟨k, rfl⟩ : ∃ k : Nat, p = k := ⟨p.toNat, by omega⟩
      have hk : k ≤ b.length := by omega
      have hkk : ¬((k : Int) < 0 ∨ (b.length : Int) < k) := by omega
      have hdl : (List.map rowB b).drop k = (b.drop k).map rowB := (List.map_drop ..).symm
      have htk : ((List.map rowB b).drop k).take (b.length - k) = (b.drop k).map rowB := by rw [hdl, List.take_of_length_le]; simp
      have hlen : ((b.drop k).map rowB).length = b.length - k := by simp
      repeat' first | refine ln ?_ | refine stp lay_ok rfl ?_ | refine fin ?_ | refine n_thn ?_ | refine r_thn ?_ | refine .seq ?_ | refine reg ?_ | refine .block ?_ | refine .skip ?_ | refine .ret ?_ | refine c_dec rfl (fun hc => ?_) (fun hc => ?_) | (refine o_none rfl ?_; refine st_subL k b.length lay_ok rfl rfl rfl ⟨_, _, rfl, rfl⟩ hlm.symm hk (by omega) ?_) | fail
      · exfalso; omega
      rw [htk]
      skip
      generalize hr : b.drop k = r at *
      have hrl : (List.map rowB r).length = r.length := List.length_map _
      refine lpR (fun (i, acc, f) => i ≤ r.length ∧ acc < 2 ^ (7 * i) ∧ i ≤ 10 ∧ f + i = r.length ∧ gnF r 0 0 = gnF (r.drop i) i acc) (fun (i, acc, f) => f) (fun (i, acc, f) => [(25, I i), (9, U acc)]) (fun (i, acc, f) => []) ((0, 0, r.length)) [1, 2, 23, 24] [] [] rfl rfl rfl (.of [] (by (repeat' first | exact trivial | refine And.intro ?_ ?_ | rfl); first | done | fail) (by (repeat' first | exact trivial | refine And.intro ?_ ?_ | rfl); first | done | fail) rfl) ?_ ?_
      · exact ⟨by omega, by decide, by omega, rfl, by simp⟩
      rintro ⟨i, acc, f⟩ ⟨g1, g2, g3, g4, g5⟩
      refine nrm rfl rfl ?_
      repeat' first | refine stp lay_ok rfl ?_ | refine fin ?_ | refine n_thn ?_ | refine e_thn ?_ | refine e_hit ?_ | refine e_rr ?_ | refine .seq ?_ | refine reg ?_ | refine .block ?_ | refine .skip ?_ | refine .ret ?_ | refine .exit ?_ | refine c_dec rfl (fun hc => ?_) (fun hc => ?_) | fail
      · have hi : i < r.length := by omega
        have hat := at_rowB hi
        rw [List.drop_eq_getElem_cons hi, gnF] at g5
        generalize r[i] = x at *
        by_cases hbad : 10 ≤ i ∨ x.toNat = 0 ∧ 0 < i ∨ 1 < x.toNat ∧ i = 9
        · rw [if_pos hbad] at g5
          have hend : gnR b (k : Int) most = .tuple [U 0, I 0, errE 2] := by
            rw [gnR, if_neg hkk, Int.toNat_natCast, hr, g5]
          repeat' first | refine stp lay_ok rfl ?_ | refine fin ?_ | refine n_thn ?_ | refine e_thn ?_ | refine e_hit ?_ | refine e_miss rfl ?_ | refine e_rr ?_ | refine .seq ?_ | refine reg ?_ | refine .skip ?_ | refine .ret ?_ | refine .exit ?_ | refine cndT rfl ?_ | refine cndF rfl ?_ | refine c_dec rfl (fun hc => ?_) (fun hc => ?_) | (refine o_none rfl ?_; refine st_index (rowB x) lay_ok rfl rfl rfl rfl (by omega) hat ?_) | refine gd rfl rfl rfl (fun hg => ?_) (fun hg => ?_) | fail
          all_goals first
            | (exfalso; omega)
            | (refine f_r [] rfl trivial rfl ⟨?_, rfl⟩; rw [hend]; rfl)
        · rw [if_neg hbad] at g5
          have hand := and127 x
          have hv : x.toNat % 128 * 2 ^ (7 * i) < 2 ^ 64 := bit_small (by omega) (by omega)
          have hacc := acc_next (i := i) (v := x.toNat % 128) g2 (by omega)
          have hshl := shl_u64 (x.toNat % 128) i (by omega) hv
          have hor := or_u64 acc (x.toNat % 128) i g2 hv (by omega)
          generalize hz : acc + x.toNat % 128 * 2 ^ (7 * i) = z at *
          have hend : ¬ 128 ≤ x.toNat → gnR b (k : Int) most = if most < z then .tuple [U 0, I 0, errE 7] else .tuple [U z, I (k + i + 1), nilE] := fun hx => by
            rw [gnR, if_neg hkk, Int.toNat_natCast, hr, g5, if_neg hx]
            simp only [Int.natCast_add, Int.add_assoc]; rfl
          repeat' first | refine wr (by omega) ?_ | refine stp lay_ok rfl ?_ | refine fin ?_ | refine n_thn ?_ | refine e_thn ?_ | refine e_hit ?_ | refine e_miss rfl ?_ | refine r_thn ?_ | refine r_blk ?_ | refine e_rr ?_ | refine r_rr ?_ | refine .seq ?_ | refine reg ?_ | refine .skip ?_ | refine .ret ?_ | refine .exit ?_ | refine cndT rfl ?_ | refine cndF rfl ?_ | refine c_dec rfl (fun hc => ?_) (fun hc => ?_) | (refine o_none rfl ?_; (first | refine st_index (rowB x) lay_ok rfl rfl rfl rfl (by omega) hat ?_ | refine st_bits rfl rfl hand ?_ | refine st_shift rfl rfl (by omega) hshl ?_ | refine st_bits rfl rfl hor ?_)) | refine gd rfl rfl rfl (fun hg => ?_) (fun hg => ?_) | fail
          all_goals first
            | (exfalso; omega)
            | (refine f_r [] rfl trivial rfl ⟨?_, rfl⟩; rw [hend (by omega), if_pos (by omega)]; rfl)
            | (refine f_r [] rfl trivial rfl ⟨?_, rfl⟩; rw [hend (by omega), if_neg (by omega)]; rfl)
            | (refine n_rr ((i + 1, z, f - 1)) ?_ (.of [] (by (repeat' first | exact trivial | refine And.intro ?_ ?_ | rfl); first | done | fail) (by (repeat' first | exact trivial | refine And.intro ?_ ?_ | rfl); first | done | fail) rfl) ?_
               · show f - 1 < f; omega
               · refine ⟨by omega, hacc, by omega, by omega, ?_⟩
                 rw [g5, if_pos (by omega)])
      · have hend : gnR b (k : Int) most = .tuple [U 0, I 0, errE 2] := by
          rw [gnR, if_neg hkk, Int.toNat_natCast, hr, g5, List.drop_eq_nil_of_le (by omega), gnF]
        refine f_r [] rfl trivial rfl ⟨?_, rfl⟩
        rw [hend]; rfl
end Go.Proofs.YtohmbpcjapjkbaaGreatDoorFn
namespace Go.Proofs.YtohmbpcjapjkbaaGreatDoorFn
open Go.Proofs.YtohmbpcjapjkbaaGreatDoorAl Go.Proofs.Tryz
attribute [local irreducible] IntKind.wrap CodeOk OpsL OpG ACalls thn inBlk rndR cutR WkR Wk fnR DW ExtOk partsOf
/-- A number that is read at a place: the error, or the number and the place behind it. -/
def gnC (b : List UInt8) (p most : Nat) : Except Int (Nat × Nat) := match gnF (b.drop p) 0 0 with
  | none => .error 2
  | some (n, k) => if most < n then .error 7 else .ok (n, p + k)
def gnX : Except Int (Nat × Nat) → AV
  | .error e => .tuple [U 0, I 0, errE e]
  | .ok (n, q) => .tuple [U n, I q, nilE]
theorem gnR_eq (b : List UInt8) (p most : Nat) (hp : p ≤ b.length) : gnR b (p : Int) most = gnX (gnC b p most) := by
  rw [gnR, if_neg (by omega), Int.toNat_natCast, gnC]
  cases gnF (b.drop p) 0 0 with
  | none => rfl
  | some x =>
    obtain ⟨n, k⟩ := x
    simp only []
    split <;> simp [gnX]
theorem getN_ok (b : List UInt8) (p most : Nat) (hb : b.length ≤ 4000000000) (hp : p ≤ b.length) (hm : most < 2 ^ 64) : ACalls prog 109 0 [Bs b, I p, U most] [] fun r h => r = gnX (gnC b p most) ∧ h = [] := by
  rw [← gnR_eq b p most hp]
  exact getNum_ok b p most hb (by omega) hm
theorem gnF_le : ∀ (l : List UInt8) (i acc : Nat) {n k : Nat}, gnF l i acc = some (n, k) → k ≤ i + l.length ∧ i < k
  | [], _, _, _, _, h => by simp [gnF] at h
  | x :: r, i, acc, n, k, h => by
    rw [gnF] at h
    split at h
    · cases h
    · split at h
      · have := gnF_le r _ _ h; simp; omega
      · simp only [Option.some.injEq, Prod.mk.injEq] at h
        simp; omega
theorem gnC_le {b : List UInt8} {p most n q : Nat} (hp : p ≤ b.length) (h : gnC b p most = .ok (n, q)) : n ≤ most ∧ q ≤ b.length ∧ p < q := by
  rw [gnC] at h
  cases hg : gnF (b.drop p) 0 0 with
  | none => rw [hg] at h; cases h
  | some x =>
    obtain ⟨n', k⟩ := x
    rw [hg] at h
    simp only [] at h
    split at h
    · cases h
    · simp only [Except.ok.injEq, Prod.mk.injEq] at h
      have := gnF_le _ _ _ hg
      simp at this
      omega
abbrev mt : ByteArray := ⟨#[]⟩
def txC (b : List UInt8) (p : Nat) : Except Int (ByteArray × Nat) := match gnC b p 4096 with
  | .error e => .error e
  | .ok (n, q) => if b.length < q + n then .error 2 else .ok (Go.Proofs.YtohmbpcjapjkbaaGreatDoorAl.strOf ((b.drop q).take n), q + n)
def txX : Except Int (ByteArray × Nat) → AV
  | .error e => .tuple [Sx mt, I 0, errE e]
  | .ok (s, q) => .tuple [Sx s, I q, nilE]
theorem w4096 : IntKind.u64.wrap 4096 = ((4096 : Nat) : Int) := u64wrap 4096 (by decide)
theorem getT_ok (b : List UInt8) (p : Nat) (hb : b.length ≤ 4000000000) (hp : p ≤ b.length) : ACalls prog 118 0 [Bs b, I p, I 4096] [] fun r h => r = txX (txC b p) ∧ h = [] := by
  refine fnC lay_ok func118 rfl rfl rfl rfl rfl ?_
  have hg := getN_ok b p 4096 hb hp (by decide)
  have hlm : (List.map rowB b).length = b.length := List.length_map _
  repeat' first | refine stp lay_ok rfl ?_ | refine fin ?_ | refine n_thn ?_ | refine .seq ?_ | refine reg ?_ | refine .skip ?_ | refine cndF rfl ?_ | fail
  rw [w4096]
  cases hc : gnC b p 4096 with
  | error e =>
    rw [hc] at hg; simp only [gnX] at hg
    have hend : txC b p = .error e := by rw [txC, hc]
    repeat' first | refine stp lay_ok rfl ?_ | refine fin ?_ | refine n_thn ?_ | refine r_thn ?_ | refine .seq ?_ | refine reg ?_ | refine .ret ?_ | refine cndT rfl ?_ | (refine o_none rfl ?_; refine st_pure (hg) b109 rfl rfl rfl rfl ?_) | fail
    refine f_r [] rfl trivial rfl ⟨?_, rfl⟩; rw [hend]; rfl
  | ok x =>
    obtain ⟨n, q⟩ := x
    have hle := gnC_le hp hc
    rw [hc] at hg; simp only [gnX] at hg
    have hend : txC b p = if b.length < q + n then .error 2 else .ok (Go.Proofs.YtohmbpcjapjkbaaGreatDoorAl.strOf ((b.drop q).take n), q + n) := by rw [txC, hc]
    by_cases hx : b.length < q + n
    · rw [if_pos hx] at hend
      repeat' first | refine wr (by omega) ?_ | refine ln ?_ | refine stp lay_ok rfl ?_ | refine fin ?_ | refine n_thn ?_ | refine r_thn ?_ | refine .seq ?_ | refine reg ?_ | refine .skip ?_ | refine .ret ?_ | refine cndF rfl ?_ | refine c_dec rfl (fun hc => ?_) (fun hc => ?_) | (refine o_none rfl ?_; refine st_pure (hg) b109 rfl rfl rfl rfl ?_) | fail
      · refine f_r [] rfl trivial rfl ⟨?_, rfl⟩; rw [hend]; rfl
      · exfalso; omega
    · rw [if_neg hx] at hend
      have hsl : ((List.map rowB b).drop q).take (q + n - q) = ((b.drop q).take n).map rowB := by
        rw [← List.map_drop, ← List.map_take, Nat.add_sub_cancel_left]
      repeat' first | refine wr (by omega) ?_ | refine ln ?_ | refine stp lay_ok rfl ?_ | refine fin ?_ | refine n_thn ?_ | refine r_thn ?_ | refine .seq ?_ | refine reg ?_ | refine .skip ?_ | refine .ret ?_ | refine cndF rfl ?_ | refine c_dec rfl (fun hc => ?_) (fun hc => ?_) | (refine o_none rfl ?_; (first | refine st_pure (hg) b109 rfl rfl rfl rfl ?_ | refine st_subL q (q + n) lay_ok rfl rfl rfl ⟨_, _, rfl, rfl⟩ ⟨_, _, rfl, (Int.natCast_add q n).symm⟩ (by omega) (by omega) ?_)) | fail
      · exfalso; omega
      · rw [hsl]
        repeat' first | refine stp lay_ok rfl ?_ | refine fin ?_ | refine n_thn ?_ | refine .ret ?_ | (refine o_none rfl ?_; refine st_strOf lay_ok rfl rfl rfl rfl rfl rfl rfl ?_) | fail
        refine f_r [] rfl trivial rfl ⟨?_, rfl⟩; rw [hend]; simp only [txX, Int.natCast_add]; rfl
end Go.Proofs.YtohmbpcjapjkbaaGreatDoorFn
namespace Go.Proofs.YtohmbpcjapjkbaaGreatDoorFn
open Go.Proofs.YtohmbpcjapjkbaaGreatDoorAl Go.Proofs.Tryz
attribute [local irreducible] IntKind.wrap CodeOk OpsL OpG ACalls thn inBlk rndR cutR WkR Wk fnR DW ExtOk partsOf
theorem b51 : HasBody prog 51 := ⟨f51, func51, Option.some_ne_none _, by decide⟩
theorem b81 : HasBody prog 81 := ⟨f81, func81, Option.some_ne_none _, by decide⟩
theorem b62 : HasBody prog 62 := ⟨f62, func62, Option.some_ne_none _, by decide⟩
theorem rowS_one {b : List ByteArray} : ∀ row ∈ b.map rowS, ∀ y ∈ row, SV.one y = true := by
  intro row hr y hy
  obtain ⟨_, _, rfl⟩ := List.mem_map.1 hr
  simp only [rowS, List.mem_singleton] at hy; subst hy; rfl
theorem rowE_one {b : List EV} : ∀ row ∈ b.map rowE, ∀ y ∈ row, SV.one y = true := by
  intro row hr y hy
  obtain ⟨_, _, rfl⟩ := List.mem_map.1 hr
  simp only [rowE, List.mem_cons, List.not_mem_nil, or_false] at hy
  rcases hy with rfl | rfl | rfl <;> rfl
theorem cloneS_ok (b : List ByteArray) (hb : b.length ≤ 4000000000) : ACalls prog 51 0 [.st (.sl 1 (b.map rowS))] [] fun r h => r = .st (.sl 1 (b.map rowS)) ∧ h = [] := by
  refine fnC lay_ok func51 rfl rfl rfl rfl rfl ?_
  have hm : (List.map rowS b).length = b.length := List.length_map _
  repeat' first | refine stp lay_ok rfl ?_ | refine fin ?_ | refine n_thn ?_ | refine r_thn ?_ | refine .seq ?_ | refine reg ?_ | refine .skip ?_ | refine .ret ?_ | refine cnd rfl (fun hc => ?_) (fun hc => ?_) | (refine o_none rfl ?_; (first | refine st_nilSl lay_ok rfl rfl rfl rfl (fun z hz => ?_) | refine st_append lay_ok rfl rfl rfl rfl rfl rfl rfl rfl .sl0 .sl rfl rowS_one (by simp only [List.length_nil]; omega) (by simp only [List.length_nil]; omega) ?_)) | fail
  · cases z with
    | false => cases hc
    | true =>
      rw [hz rfl]
      refine f_end (n0 := 0) (t'' := [(2, .st (.sl 1 []))]) (h'' := []) (Wk.then (Wk.trans (Wk.nilT 1 2 rfl rfl) (Wk.frz 0 [2] rfl rfl rfl (by (repeat' first | exact trivial | refine And.intro ?_ ?_ | rfl); first | done | fail) (by (repeat' first | exact trivial | refine And.intro ?_ ?_ | rfl); first | done | fail) rfl rfl)) (WkR.of [] (by (repeat' first | exact trivial | refine And.intro ?_ ?_ | rfl); first | done | fail) (by (repeat' first | exact trivial | refine And.intro ?_ ?_ | rfl); first | done | fail) rfl)) rfl rfl ⟨?_, rfl⟩
      rfl
  · refine f_end (n0 := 0) (t'' := [(2, .st (.sl 1 (b.map rowS)))]) (h'' := []) (Wk.then (Wk.frz 0 [2] rfl rfl rfl (by (repeat' first | exact trivial | refine And.intro ?_ ?_ | rfl); first | done | fail) (by (repeat' first | exact trivial | refine And.intro ?_ ?_ | rfl); first | done | fail) rfl rfl) (WkR.of [] (by (repeat' first | exact trivial | refine And.intro ?_ ?_ | rfl); first | done | fail) (by (repeat' first | exact trivial | refine And.intro ?_ ?_ | rfl); first | done | fail) rfl)) rfl rfl ⟨?_, rfl⟩
    rfl
theorem cloneE_ok (b : List EV) (hb : b.length ≤ 4000000000) : ACalls prog 81 0 [.st (.sl 3 (b.map rowE))] [] fun r h => r = .lsl 0 3 0 (b.map rowE).length ∧ h = [(0, .arr 3 (b.map rowE))] := by
  refine fnC lay_ok func81 rfl rfl rfl rfl rfl ?_
  have hm : (List.map rowE b).length = b.length := List.length_map _
  repeat' first | refine stp lay_ok rfl ?_ | refine fin ?_ | refine n_thn ?_ | refine r_thn ?_ | refine .seq ?_ | refine reg ?_ | refine .skip ?_ | refine .ret ?_ | refine cnd rfl (fun hc => ?_) (fun hc => ?_) | (refine o_none rfl ?_; (first | refine st_nilSl lay_ok rfl rfl rfl rfl (fun z hz => ?_) | refine st_append lay_ok rfl rfl rfl rfl rfl rfl rfl rfl .sl0 .sl rfl rowE_one (by simp only [List.length_nil]; omega) (by simp only [List.length_nil]; omega) ?_)) | fail
  · cases z with
    | false => cases hc
    | true =>
      rw [hz rfl]
      refine f_end (n0 := 1) (t'' := [(2, .lsl 0 3 0 0)]) (h'' := [(0, .arr 3 [])]) (Wk.then (Wk.nilT 3 2 rfl rfl) (WkR.of [0] (by (repeat' first | exact trivial | refine And.intro ?_ ?_ | rfl); first | done | fail) (by (repeat' first | exact trivial | refine And.intro ?_ ?_ | rfl); first | done | fail) rfl)) rfl rfl ⟨?_, rfl⟩
      rfl
  · refine f_end (n0 := 1) (t'' := [(2, .lsl 0 3 0 (b.map rowE).length)]) (h'' := [(0, .arr 3 (b.map rowE))]) (WkR.of [0] (by (repeat' first | exact trivial | refine And.intro ?_ ?_ | rfl); first | done | fail) (by (repeat' first | exact trivial | refine And.intro ?_ ?_ | rfl); first | done | fail) rfl) rfl rfl ⟨?_, rfl⟩
    rfl
theorem set_same {α : Type} {l : List α} {i : Nat} {x : α} (h : l[i]? = some x) : l.set i x = l := by
  apply List.ext_getElem?
  intro j
  rw [List.getElem?_set]
  split
  · rename_i e; subst e; rw [h]; split
    · rfl
    · rename_i h2; rw [List.getElem?_eq_none (by omega)] at h; cases h
  · rfl
theorem entries_ok (b : List EV) (hb : b.length ≤ 4000000000) (hk : ∀ e ∈ b, e.keys.length ≤ 4000000000) : ACalls prog 62 0 [.st (.sl 3 (b.map rowE))] [] fun r h => r = .st (.sl 3 (b.map rowE)) ∧ h = [] := by
  refine fnC lay_ok func62 rfl rfl rfl rfl rfl ?_
  have hm : (List.map rowE b).length = b.length := List.length_map _
  have h1 := cloneE_ok b hb
  repeat' first | refine ln ?_ | refine stp lay_ok rfl ?_ | refine fin ?_ | refine n_thn ?_ | refine .seq ?_ | refine reg ?_ | refine .block ?_ | (refine o_none rfl ?_; refine st_callF 1 (h1) b81 rfl rfl rfl rfl rfl rfl (by (repeat' first | exact trivial | refine And.intro ?_ ?_ | rfl); first | done | fail) rfl ?_) | fail
  refine lpR (fun k => k ≤ b.length) (fun k => b.length - k) (fun k => [(9, I k), (3, .lsl 0 3 0 (b.map rowE).length)]) (fun k => [(0, .arr 3 (b.map rowE))]) (0) [3, 8] [0] [] rfl rfl rfl (.of [] (by (repeat' first | exact trivial | refine And.intro ?_ ?_ | rfl); first | done | fail) (by (repeat' first | exact trivial | refine And.intro ?_ ?_ | rfl); first | done | fail) rfl) ?_ ?_
  · exact Nat.zero_le _
  rintro k hk0
  refine nrm rfl rfl ?_
  repeat' first | refine stp lay_ok rfl ?_ | refine fin ?_ | refine n_thn ?_ | refine e_thn ?_ | refine e_hit ?_ | refine e_rr ?_ | refine .seq ?_ | refine reg ?_ | refine .block ?_ | refine .skip ?_ | refine .ret ?_ | refine .exit ?_ | refine c_dec rfl (fun hc => ?_) (fun hc => ?_) | fail
  · have hk' : k < b.length := by omega
    have hcl := cloneS_ok b[k].keys (hk _ (List.getElem_mem hk'))
    have hat : (b.map rowE)[0 + ((k : Nat) : Int).toNat]? = some (rowE b[k]) := by simp [hk']
    have hset : (b.map rowE).set (0 + ((k : Nat) : Int).toNat) (putAt (rowE b[k]) 2 [.sl 1 (b[k].keys.map rowS)]) = b.map rowE := set_same hat
    generalize b[k] = e at *
    repeat' first | refine wr (by omega) ?_ | refine stp lay_ok rfl ?_ | refine fin ?_ | refine n_thn ?_ | refine n_blk ?_ | refine reg ?_ | ((first | refine o_none rfl ?_ | refine o_none_ ?_); (first | refine st_indexL lay_ok rfl rfl rfl rfl (by omega) (by omega) ?_ | refine st_loadE (rowE e) lay_ok rfl rfl rfl hat rfl rfl rfl ?_ | refine st_pure (hcl) b51 rfl rfl rfl rfl ?_)) | refine o_none_ (st_storeE lay_ok rfl rfl rfl hat rfl rfl rfl rfl ?_) | fail
    refine n_rr (k + 1) ?_ (.of [] (by (repeat' first | exact trivial | refine And.intro ?_ ?_ | rfl | exact congrArg (fun r => some (AO.arr 3 r)) hset); first | done | fail) (by (repeat' first | exact trivial | refine And.intro ?_ ?_ | rfl | exact congrArg (fun r => some (AO.arr 3 r)) hset); first | done | fail) rfl) ?_
    · omega
    · exact hk'
  · refine f_end (n0 := 0) (t'' := [(2, .st (.sl 3 (b.map rowE)))]) (h'' := []) (Wk.then (Wk.frz 0 [2] rfl rfl rfl (by (repeat' first | exact trivial | refine And.intro ?_ ?_ | rfl); first | done | fail) (by (repeat' first | exact trivial | refine And.intro ?_ ?_ | rfl); first | done | fail) rfl rfl) (WkR.of [] (by (repeat' first | exact trivial | refine And.intro ?_ ?_ | rfl); first | done | fail) (by (repeat' first | exact trivial | refine And.intro ?_ ?_ | rfl); first | done | fail) rfl)) rfl rfl ⟨?_, rfl⟩
    rfl
end Go.Proofs.YtohmbpcjapjkbaaGreatDoorFn
namespace Go.Proofs.YtohmbpcjapjkbaaGreatDoorFn
open Go.Proofs.YtohmbpcjapjkbaaGreatDoorAl Go.Proofs.Tryz
attribute [local irreducible] IntKind.wrap CodeOk OpsL OpG ACalls thn inBlk rndR cutR WkR Wk fnR DW ExtOk partsOf
theorem b84 : HasBody prog 84 := ⟨f84, func84, Option.some_ne_none _, by decide⟩
theorem b49 : HasBody prog 49 := ⟨f49, func49, Option.some_ne_none _, by decide⟩
theorem b82 : HasBody prog 82 := ⟨f82, func82, Option.some_ne_none _, by decide⟩
theorem b119 : HasBody prog 119 := ⟨f119, func119, Option.some_ne_none _, by decide⟩
theorem b120 : HasBody prog 120 := ⟨f120, func120, Option.some_ne_none _, by decide⟩
theorem b123 : HasBody prog 123 := ⟨f123, func123, Option.some_ne_none _, by decide⟩
theorem b96 : HasBody prog 96 := ⟨f96, func96, Option.some_ne_none _, by decide⟩
structure NV where
  client : Int
  name : ByteArray
  done : Bool
  entries : List EV
deriving DecidableEq
def rowN (s : NV) : List SV := [.int .i64 s.client, .str s.name, .bool s.done, .sl 3 (s.entries.map rowE)]
theorem rowN_one {b : List NV} : ∀ row ∈ b.map rowN, ∀ y ∈ row, SV.one y = true := by
  intro row hr y hy
  obtain ⟨_, _, rfl⟩ := List.mem_map.1 hr
  simp only [rowN, List.mem_cons, List.not_mem_nil, or_false] at hy
  rcases hy with rfl | rfl | rfl | rfl <;> rfl
theorem cloneN_ok (b : List NV) (hb : b.length ≤ 4000000000) : ACalls prog 84 0 [.st (.sl 4 (b.map rowN))] [] fun r h => r = .lsl 0 4 0 (b.map rowN).length ∧ h = [(0, .arr 4 (b.map rowN))] := by
  refine fnC lay_ok func84 rfl rfl rfl rfl rfl ?_
  have hm : (List.map rowN b).length = b.length := List.length_map _
  repeat' first | refine stp lay_ok rfl ?_ | refine fin ?_ | refine n_thn ?_ | refine r_thn ?_ | refine .seq ?_ | refine reg ?_ | refine .skip ?_ | refine .ret ?_ | refine cnd rfl (fun hc => ?_) (fun hc => ?_) | (refine o_none rfl ?_; (first | refine st_nilSl lay_ok rfl rfl rfl rfl (fun z hz => ?_) | refine st_append lay_ok rfl rfl rfl rfl rfl rfl rfl rfl .sl0 .sl rfl rowN_one (by simp only [List.length_nil]; omega) (by simp only [List.length_nil]; omega) ?_)) | fail
  · cases z with
    | false => cases hc
    | true =>
      rw [hz rfl]
      refine f_end (n0 := 1) (t'' := [(2, .lsl 0 4 0 0)]) (h'' := [(0, .arr 4 [])]) (Wk.then (Wk.nilT 4 2 rfl rfl) (WkR.of [0] (by (repeat' first | exact trivial | refine And.intro ?_ ?_ | rfl); first | done | fail) (by (repeat' first | exact trivial | refine And.intro ?_ ?_ | rfl); first | done | fail) rfl)) rfl rfl ⟨?_, rfl⟩
      rfl
  · refine f_end (n0 := 1) (t'' := [(2, .lsl 0 4 0 (b.map rowN).length)]) (h'' := [(0, .arr 4 (b.map rowN))]) (WkR.of [0] (by (repeat' first | exact trivial | refine And.intro ?_ ?_ | rfl); first | done | fail) (by (repeat' first | exact trivial | refine And.intro ?_ ?_ | rfl); first | done | fail) rfl) rfl rfl ⟨?_, rfl⟩
    rfl
/-- Lists that are not too long to be counted. -/
def EV.fit (e : EV) : Prop := e.path.size ≤ 4000000000 - 1 ∧ e.keys.length ≤ 4000000000
def NV.fit (s : NV) : Prop := s.name.size ≤ 4000000000 - 1 ∧ s.entries.length ≤ 4000000000 ∧ ∀ e ∈ s.entries, e.fit
theorem snapshots_ok (b : List NV) (hb : b.length ≤ 4000000000) (hk : ∀ s ∈ b, s.fit) : ACalls prog 49 0 [.st (.sl 4 (b.map rowN))] [] fun r h => r = .st (.sl 4 (b.map rowN)) ∧ h = [] := by
  refine fnC lay_ok func49 rfl rfl rfl rfl rfl ?_
  have hm : (List.map rowN b).length = b.length := List.length_map _
  have h1 := cloneN_ok b hb
  repeat' first | refine ln ?_ | refine stp lay_ok rfl ?_ | refine fin ?_ | refine n_thn ?_ | refine .seq ?_ | refine reg ?_ | refine .block ?_ | (refine o_none rfl ?_; refine st_callF 1 (h1) b84 rfl rfl rfl rfl rfl rfl (by (repeat' first | exact trivial | refine And.intro ?_ ?_ | rfl); first | done | fail) rfl ?_) | fail
  refine lpR (fun k => k ≤ b.length) (fun k => b.length - k) (fun k => [(9, I k), (3, .lsl 0 4 0 (b.map rowN).length)]) (fun k => [(0, .arr 4 (b.map rowN))]) (0) [3, 8] [0] [] rfl rfl rfl (.of [] (by (repeat' first | exact trivial | refine And.intro ?_ ?_ | rfl); first | done | fail) (by (repeat' first | exact trivial | refine And.intro ?_ ?_ | rfl); first | done | fail) rfl) ?_ ?_
  · exact Nat.zero_le _
  rintro k hk0
  refine nrm rfl rfl ?_
  repeat' first | refine stp lay_ok rfl ?_ | refine fin ?_ | refine n_thn ?_ | refine e_thn ?_ | refine e_hit ?_ | refine e_rr ?_ | refine .seq ?_ | refine reg ?_ | refine .block ?_ | refine .skip ?_ | refine .ret ?_ | refine .exit ?_ | refine c_dec rfl (fun hc => ?_) (fun hc => ?_) | fail
  · have hk' : k < b.length := by omega
    have hfit := hk _ (List.getElem_mem hk')
    have hcl := entries_ok b[k].entries hfit.2.1 (fun e he => (hfit.2.2 e he).2)
    have hat : (b.map rowN)[0 + ((k : Nat) : Int).toNat]? = some (rowN b[k]) := by simp [hk']
    have hset : (b.map rowN).set (0 + ((k : Nat) : Int).toNat) (putAt (rowN b[k]) 3 [.sl 3 (b[k].entries.map rowE)]) = b.map rowN := set_same hat
    generalize b[k] = e at *
    repeat' first | refine wr (by omega) ?_ | refine stp lay_ok rfl ?_ | refine fin ?_ | refine n_thn ?_ | refine n_blk ?_ | refine reg ?_ | ((first | refine o_none rfl ?_ | refine o_none_ ?_); (first | refine st_indexL lay_ok rfl rfl rfl rfl (by omega) (by omega) ?_ | refine st_loadE (rowN e) lay_ok rfl rfl rfl hat rfl rfl rfl ?_ | refine st_pure (hcl) b62 rfl rfl rfl rfl ?_)) | refine o_none_ (st_storeE lay_ok rfl rfl rfl hat rfl rfl rfl rfl ?_) | fail
    refine n_rr (k + 1) ?_ (.of [] (by (repeat' first | exact trivial | refine And.intro ?_ ?_ | rfl | exact congrArg (fun r => some (AO.arr 4 r)) hset); first | done | fail) (by (repeat' first | exact trivial | refine And.intro ?_ ?_ | rfl | exact congrArg (fun r => some (AO.arr 4 r)) hset); first | done | fail) rfl) ?_
    · omega
    · exact hk'
  · refine f_end (n0 := 0) (t'' := [(2, .st (.sl 4 (b.map rowN)))]) (h'' := []) (Wk.then (Wk.frz 0 [2] rfl rfl rfl (by (repeat' first | exact trivial | refine And.intro ?_ ?_ | rfl); first | done | fail) (by (repeat' first | exact trivial | refine And.intro ?_ ?_ | rfl); first | done | fail) rfl rfl) (WkR.of [] (by (repeat' first | exact trivial | refine And.intro ?_ ?_ | rfl); first | done | fail) (by (repeat' first | exact trivial | refine And.intro ?_ ?_ | rfl); first | done | fail) rfl)) rfl rfl ⟨?_, rfl⟩
    rfl
theorem idxN_ok (f : Nat) (bf : HasBody prog f) (cs : List SV) (p : NV → Bool) (l : List NV) (hl : l.length ≤ 4000000000) (hf : ∀ e ∈ l, ACalls prog f 0 [.st (.agg (rowN e)), .st (.sptr cs)] [] fun r h => r = B (p e) ∧ h = []) :
    ACalls prog 96 0 [.st (.sl 4 (l.map rowN)), .fn (.func f) [] [.st (.sptr cs)]] [] fun r h => r = I (fidx p l) ∧ h = [] := by
  refine fnC lay_ok func96 rfl rfl rfl rfl rfl ?_
  repeat' first | refine ln ?_ | refine stp lay_ok rfl ?_ | refine fin ?_ | refine n_thn ?_ | refine .seq ?_ | refine reg ?_ | refine .block ?_ | fail
  refine lpR (fun k => k ≤ l.length ∧ ∀ j (h : j < k), ∀ h2 : j < l.length, p l[j] = false) (fun k => l.length - k) (fun k => [(8, I k)]) (fun k => []) (0) [0, 1, 7] [] [] rfl rfl rfl (.of [] (by (repeat' first | exact trivial | refine And.intro ?_ ?_ | rfl); first | done | fail) (by (repeat' first | exact trivial | refine And.intro ?_ ?_ | rfl); first | done | fail) rfl) ?_ ?_
  · exact ⟨Nat.zero_le _, fun j h => by omega⟩
  rintro k ⟨hk, hall⟩
  refine nrm rfl rfl ?_
  repeat' first | refine stp lay_ok rfl ?_ | refine fin ?_ | refine n_thn ?_ | refine e_thn ?_ | refine e_hit ?_ | refine e_rr ?_ | refine .seq ?_ | refine reg ?_ | refine .block ?_ | refine .skip ?_ | refine .ret ?_ | refine .exit ?_ | refine c_dec rfl (fun hc => ?_) (fun hc => ?_) | fail
  · have hk' : k < l.length := by omega
    have hat : (l.map rowN)[((k : Nat) : Int).toNat]? = some (rowN l[k]) := by simp [hk']
    have h1 := hf l[k] (List.getElem_mem hk')
    cases hp : p l[k] with
    | true =>
      rw [hp] at h1
      repeat' first | refine stp lay_ok rfl ?_ | refine fin ?_ | refine n_thn ?_ | refine r_thn ?_ | refine r_blk ?_ | refine r_rr ?_ | refine .seq ?_ | refine reg ?_ | refine .ret ?_ | refine cndT rfl ?_ | (refine o_none rfl ?_; (first | refine st_index (rowN l[k]) lay_ok rfl rfl rfl rfl (by omega) hat ?_ | refine st_pure (h1) bf rfl rfl rfl rfl ?_)) | fail
      refine f_r [] rfl trivial rfl ⟨?_, rfl⟩
      rw [fidx_step _ l k hk' (fun j h => hall j h _) hp]; rfl
    | false =>
      rw [hp] at h1
      repeat' first | refine wr (by omega) ?_ | refine stp lay_ok rfl ?_ | refine fin ?_ | refine n_thn ?_ | refine n_blk ?_ | refine reg ?_ | refine .skip ?_ | refine cndF rfl ?_ | (refine o_none rfl ?_; (first | refine st_index (rowN l[k]) lay_ok rfl rfl rfl rfl (by omega) hat ?_ | refine st_pure (h1) bf rfl rfl rfl rfl ?_)) | fail
      refine n_rr (k + 1) ?_ (.of [] (by (repeat' first | exact trivial | refine And.intro ?_ ?_ | rfl); first | done | fail) (by (repeat' first | exact trivial | refine And.intro ?_ ?_ | rfl); first | done | fail) rfl) ?_
      · omega
      · refine ⟨hk', fun j h h2 => ?_⟩
        by_cases hj : j = k
        · subst hj; exact hp
        · exact hall j (by omega) h2
  · refine f_r [] rfl trivial rfl ⟨?_, rfl⟩
    rw [fidx_none _ l (fun j h => hall j (by omega) h)]; rfl
theorem conN_ok (f : Nat) (bf : HasBody prog f) (cs : List SV) (p : NV → Bool) (l : List NV) (hl : l.length ≤ 4000000000) (hf : ∀ e ∈ l, ACalls prog f 0 [.st (.agg (rowN e)), .st (.sptr cs)] [] fun r h => r = B (p e) ∧ h = []) :
    ACalls prog 123 0 [.st (.sl 4 (l.map rowN)), .fn (.func f) [] [.st (.sptr cs)]] [] fun r h => r = B (l.any p) ∧ h = [] := by
  refine fnC lay_ok func123 rfl rfl rfl rfl rfl ?_
  have h1 := idxN_ok f bf cs p l hl hf
  repeat' first | refine stp lay_ok rfl ?_ | refine fin ?_ | refine n_thn ?_ | refine .seq ?_ | refine reg ?_ | refine .ret ?_ | (refine o_none rfl ?_; refine st_pure (h1) b96 rfl rfl rfl rfl ?_) | fail
  refine f_r [] rfl trivial rfl ⟨?_, rfl⟩
  rw [← fidx_any]; rfl
theorem idxE0_ok (f : Nat) (bf : HasBody prog f) (p : EV → Bool) (l : List EV) (hl : l.length ≤ 4000000000) (hf : ∀ e ∈ l, ACalls prog f 0 [.st (.agg (rowE e))] [] fun r h => r = B (p e) ∧ h = []) :
    ACalls prog 139 0 [.st (.sl 3 (l.map rowE)), .st (.fn (.func f) [] [])] [] fun r h => r = I (fidx p l) ∧ h = [] := by
  refine fnC lay_ok func139 rfl rfl rfl rfl rfl ?_
  repeat' first | refine ln ?_ | refine stp lay_ok rfl ?_ | refine fin ?_ | refine n_thn ?_ | refine .seq ?_ | refine reg ?_ | refine .block ?_ | fail
  refine lpR (fun k => k ≤ l.length ∧ ∀ j (h : j < k), ∀ h2 : j < l.length, p l[j] = false) (fun k => l.length - k) (fun k => [(8, I k)]) (fun k => []) (0) [0, 1, 7] [] [] rfl rfl rfl (.of [] (by (repeat' first | exact trivial | refine And.intro ?_ ?_ | rfl); first | done | fail) (by (repeat' first | exact trivial | refine And.intro ?_ ?_ | rfl); first | done | fail) rfl) ?_ ?_
  · exact ⟨Nat.zero_le _, fun j h => by omega⟩
  rintro k ⟨hk, hall⟩
  refine nrm rfl rfl ?_
  repeat' first | refine stp lay_ok rfl ?_ | refine fin ?_ | refine n_thn ?_ | refine e_thn ?_ | refine e_hit ?_ | refine e_rr ?_ | refine .seq ?_ | refine reg ?_ | refine .block ?_ | refine .skip ?_ | refine .ret ?_ | refine .exit ?_ | refine c_dec rfl (fun hc => ?_) (fun hc => ?_) | fail
  · have hk' : k < l.length := by omega
    have hat : (l.map rowE)[((k : Nat) : Int).toNat]? = some (rowE l[k]) := by simp [hk']
    have h1 := hf l[k] (List.getElem_mem hk')
    cases hp : p l[k] with
    | true =>
      rw [hp] at h1
      repeat' first | refine stp lay_ok rfl ?_ | refine fin ?_ | refine n_thn ?_ | refine r_thn ?_ | refine r_blk ?_ | refine r_rr ?_ | refine .seq ?_ | refine reg ?_ | refine .ret ?_ | refine cndT rfl ?_ | (refine o_none rfl ?_; (first | refine st_index (rowE l[k]) lay_ok rfl rfl rfl rfl (by omega) hat ?_ | refine st_pure (h1) bf rfl rfl rfl rfl ?_)) | fail
      refine f_r [] rfl trivial rfl ⟨?_, rfl⟩
      rw [fidx_step _ l k hk' (fun j h => hall j h _) hp]; rfl
    | false =>
      rw [hp] at h1
      repeat' first | refine wr (by omega) ?_ | refine stp lay_ok rfl ?_ | refine fin ?_ | refine n_thn ?_ | refine n_blk ?_ | refine reg ?_ | refine .skip ?_ | refine cndF rfl ?_ | (refine o_none rfl ?_; (first | refine st_index (rowE l[k]) lay_ok rfl rfl rfl rfl (by omega) hat ?_ | refine st_pure (h1) bf rfl rfl rfl rfl ?_)) | fail
      refine n_rr (k + 1) ?_ (.of [] (by (repeat' first | exact trivial | refine And.intro ?_ ?_ | rfl); first | done | fail) (by (repeat' first | exact trivial | refine And.intro ?_ ?_ | rfl); first | done | fail) rfl) ?_
      · omega
      · refine ⟨hk', fun j h h2 => ?_⟩
        by_cases hj : j = k
        · subst hj; exact hp
        · exact hall j (by omega) h2
  · refine f_r [] rfl trivial rfl ⟨?_, rfl⟩
    rw [fidx_none _ l (fun j h => hall j (by omega) h)]; rfl
theorem conE0_ok (f : Nat) (bf : HasBody prog f) (p : EV → Bool) (l : List EV) (hl : l.length ≤ 4000000000) (hf : ∀ e ∈ l, ACalls prog f 0 [.st (.agg (rowE e))] [] fun r h => r = B (p e) ∧ h = []) :
    ACalls prog 99 0 [.st (.sl 3 (l.map rowE)), .st (.fn (.func f) [] [])] [] fun r h => r = B (l.any p) ∧ h = [] := by
  refine fnC lay_ok func99 rfl rfl rfl rfl rfl ?_
  have h1 := idxE0_ok f bf p l hl hf
  repeat' first | refine stp lay_ok rfl ?_ | refine fin ?_ | refine n_thn ?_ | refine .seq ?_ | refine reg ?_ | refine .ret ?_ | (refine o_none rfl ?_; refine st_pure (h1) b139 rfl rfl rfl rfl ?_) | fail
  refine f_r [] rfl trivial rfl ⟨?_, rfl⟩
  rw [← fidx_any]; rfl
theorem may1_ok (s x : NV) : ACalls prog 119 0 [.st (.agg (rowN x)), .st (.sptr (rowN s))] [] fun r h => r = B (decide (x.client = s.client) && decide (x.name = s.name)) ∧ h = [] := by
  obtain ⟨c, n, d, es⟩ := s
  obtain ⟨c', n', d', es'⟩ := x
  refine fnC lay_ok func119 rfl rfl rfl rfl rfl ?_
  repeat' first | refine stp lay_ok rfl ?_ | refine fin ?_ | refine n_thn ?_ | refine .seq ?_ | refine reg ?_ | refine .ret ?_ | refine gd rfl rfl rfl (fun hg => ?_) (fun hg => ?_) | fail
  all_goals
    refine f_r [] rfl trivial rfl ⟨?_, rfl⟩
    simp_all [retOf, B]
theorem may2_ok (e : EV) : ACalls prog 120 0 [.st (.agg (rowE e))] [] fun r h => r = B (decide (e.keys.length > 16)) ∧ h = [] := by
  obtain ⟨c, n, d⟩ := e
  refine fnC lay_ok func120 rfl rfl rfl rfl rfl ?_
  repeat' first | refine ln ?_ | refine stp lay_ok rfl ?_ | refine fin ?_ | refine n_thn ?_ | refine .seq ?_ | refine reg ?_ | refine .ret ?_ | fail
  refine f_r [] rfl trivial rfl ⟨?_, rfl⟩
  simp only [retOf, B, AV.st.injEq, SV.bool.injEq]
  rw [Bool.eq_iff_iff]; simp; omega
end Go.Proofs.YtohmbpcjapjkbaaGreatDoorFn
namespace Go.Proofs.YtohmbpcjapjkbaaGreatDoorFn
open Go.Proofs.YtohmbpcjapjkbaaGreatDoorAl Go.Proofs.Tryz
attribute [local irreducible] IntKind.wrap CodeOk OpsL OpG ACalls thn inBlk rndR cutR WkR Wk fnR DW ExtOk partsOf
def treeOk (l : List EV) : Bool := decide (l.length ≤ 32) && (badFrom l l.length 0).isNone
theorem treeC_cases (l : List EV) : (treeOk l = true ∧ treeC l = nilE) ∨ (treeOk l = false ∧ (treeC l = errE 7 ∨ ∃ i n, treeC l = spotE i n)) := by
  unfold treeOk treeC
  by_cases h : 32 < l.length
  · right
    rw [if_pos h]
    exact ⟨by simp; omega, .inl rfl⟩
  · rw [if_neg h]
    cases badFrom l l.length 0 with
    | none => left; exact ⟨by simp; omega, rfl⟩
    | some x => right; exact ⟨by simp, .inr ⟨_, _, rfl⟩⟩
def many (c : Int) (l : List NV) : Nat := l.countP fun x => decide (x.client = c)
theorem many_take (c : Int) (l : List NV) (k : Nat) (h : k < l.length) : many c (l.take (k + 1)) = many c (l.take k) + if l[k].client = c then 1 else 0 := by
  rw [many, List.take_succ_eq_append_getElem h, List.countP_append, many]
  simp [List.countP_cons]
theorem many_le (c : Int) (l : List NV) : many c l ≤ l.length := List.countP_le_length
def nameOk (s : ByteArray) : Bool := pathOk s && !decide (slAt s ≥ 0)
/-- Whether a snapshot may stand behind others. -/
def mayN (ahead : List NV) (s : NV) : Bool := decide (0 ≤ s.client ∧ s.client < 8) && decide (many s.client ahead < 8) && nameOk s.name && !(ahead.any fun x => decide (x.client = s.client) && decide (x.name = s.name)) && treeOk s.entries && !(s.entries.any fun e => decide (e.keys.length > 16))
set_option maxHeartbeats 4000000 in
theorem may_ok' (ahead : List NV) (s : NV) (hl : ahead.length ≤ 4000000000) (hs : s.fit) : ACalls prog 82 0 [.st (.sl 4 (ahead.map rowN)), .st (.agg (rowN s))] [] fun r h => r = B (mayN ahead s) ∧ h = [] := by
  have hcs := conN_ok 119 b119 (rowN s) (fun x => decide (x.client = s.client) && decide (x.name = s.name)) ahead hl (fun x _ => may1_ok s x)
  have hce := conE0_ok 120 b120 (fun e => decide (e.keys.length > 16)) s.entries hs.2.1 (fun e _ => may2_ok e)
  have htc := treeCheck_ok s.entries hs.2.1 (fun e he => (hs.2.2 e he).1) (fun e he => (hs.2.2 e he).2)
  have hpc := pathCheck_ok s.name hs.1
  have hct := contains_ok s.name
  have hm : (List.map rowN ahead).length = ahead.length := List.length_map _
  have hmy : mayN ahead s = (decide (0 ≤ s.client ∧ s.client < 8) && decide (many s.client ahead < 8) && nameOk s.name && !(ahead.any fun x => decide (x.client = s.client) && decide (x.name = s.name)) && treeOk s.entries && !(s.entries.any fun e => decide (e.keys.length > 16))) := rfl
  have hno : nameOk s.name = (pathOk s.name && !decide (slAt s.name ≥ 0)) := rfl
  generalize mayN ahead s = M at *
  generalize hA : (ahead.any fun x => decide (x.client = s.client) && decide (x.name = s.name)) = A at *
  generalize hE : (s.entries.any fun e => decide (e.keys.length > 16)) = E at *
  generalize decide (slAt s.name ≥ 0) = Z at *
  obtain ⟨c, n, d, es⟩ := s
  simp only at *
  refine fnC lay_ok func82 rfl rfl rfl rfl rfl ?_
  repeat' first | refine o_frb 0 [.int .i64 c, .str n, .bool d, .sl 3 (es.map rowE)] rfl rfl rfl (by (repeat' first | exact trivial | refine And.intro ?_ ?_ | rfl); first | done | fail) (by (repeat' first | exact trivial | refine And.intro ?_ ?_ | rfl); first | done | fail) rfl rfl ?_ | refine ln ?_ | refine stp lay_ok rfl ?_ | refine fin ?_ | refine n_thn ?_ | refine .seq ?_ | refine reg ?_ | refine .block ?_ | fail
  refine lpR (fun k => k ≤ ahead.length) (fun k => ahead.length - k) (fun k => [(13, I k), (5, I (many c (ahead.take k)))]) (fun k => []) (0) [0, 3, 11, 12] [] [] rfl rfl rfl (.of [] (by (repeat' first | exact trivial | refine And.intro ?_ ?_ | rfl); first | done | fail) (by (repeat' first | exact trivial | refine And.intro ?_ ?_ | rfl); first | done | fail) rfl) ?_ ?_
  · exact Nat.zero_le _
  rintro k hk
  refine nrm rfl rfl ?_
  repeat' first | refine stp lay_ok rfl ?_ | refine fin ?_ | refine n_thn ?_ | refine e_thn ?_ | refine e_hit ?_ | refine e_rr ?_ | refine .seq ?_ | refine reg ?_ | refine .block ?_ | refine .skip ?_ | refine .exit ?_ | refine c_dec rfl (fun hc => ?_) (fun hc => ?_) | fail
  · have hk' : k < ahead.length := by omega
    have hat : (ahead.map rowN)[((k : Nat) : Int).toNat]? = some (rowN ahead[k]) := by simp [hk']
    have hmt := many_take c ahead k hk'
    have hml := many_le c (ahead.take k)
    rw [List.length_take] at hml
    generalize ahead[k] = x at *
    obtain ⟨c', n', d', es'⟩ := x
    simp only at *
    repeat' first | refine wr (by omega) ?_ | refine stp lay_ok rfl ?_ | refine fin ?_ | refine n_thn ?_ | refine n_blk ?_ | refine .seq ?_ | refine reg ?_ | refine .skip ?_ | refine c_dec rfl (fun hc => ?_) (fun hc => ?_) | (refine o_none rfl ?_; refine st_index (rowN ⟨c', n', d', es'⟩) lay_ok rfl rfl rfl rfl (by omega) hat ?_) | fail
    · refine n_rr (k + 1) ?_ (.of [] (by (repeat' first | exact trivial | refine And.intro ?_ ?_ | rfl | rw [hmt, if_pos (by assumption)]; push_cast; rfl); first | done | fail) (by (repeat' first | exact trivial | refine And.intro ?_ ?_ | rfl | rw [hmt, if_pos (by assumption)]; push_cast; rfl); first | done | fail) rfl) ?_
      · omega
      · exact hk'
    · refine n_rr (k + 1) ?_ (.of [] (by (repeat' first | exact trivial | refine And.intro ?_ ?_ | rfl | rw [hmt, if_neg (by assumption)]; rfl); first | done | fail) (by (repeat' first | exact trivial | refine And.intro ?_ ?_ | rfl | rw [hmt, if_neg (by assumption)]; rfl); first | done | fail) rfl) ?_
      · omega
      · exact hk'
  · have hke : k = ahead.length := by omega
    subst hke
    rw [List.take_length]
    rcases treeC_cases es with ⟨h1, h2⟩ | ⟨h1, h2 | ⟨i0, n0, h2⟩⟩ <;> rw [h1] at hmy <;> rw [h2] at htc
    all_goals
      cases hpo : pathOk n <;> rw [hpo] at hpc hno <;> simp only [if_true, if_false, Bool.false_eq_true] at hpc
      all_goals
        repeat' first | refine stp lay_ok rfl ?_ | refine fin ?_ | refine n_thn ?_ | refine .seq ?_ | refine reg ?_ | refine .ret ?_ | ((first | refine o_none rfl ?_ | refine o_yes rfl rfl rfl ?_); (first | refine st_pure (hpc) b121 rfl rfl rfl rfl ?_ | refine st_pure (hct) b122 rfl rfl rfl rfl ?_ | refine st_pure (hcs) b123 rfl rfl rfl rfl ?_ | refine st_pure (htc) b124 rfl rfl rfl rfl ?_ | refine st_pure (hce) b99 rfl rfl rfl rfl ?_)) | refine gb (b := (!A)) rfl rfl rfl (fun hg => ?_) (fun hg => ?_) | refine gb (b := (!Z)) rfl rfl rfl (fun hg => ?_) (fun hg => ?_) | refine gd rfl rfl rfl (fun hg => ?_) (fun hg => ?_) | fail
        all_goals
          refine f_r [] rfl trivial rfl ⟨?_, rfl⟩
          rw [hmy, hno]
          clear hcs hce htc hct hpc hmy hno hA hE hs
          first
            | (simp_all [retOf, B]; done)
            | (simp_all [retOf, B]; omega)
end Go.Proofs.YtohmbpcjapjkbaaGreatDoorFn
namespace Go.Proofs.YtohmbpcjapjkbaaGreatDoorFn
open Go.Proofs.YtohmbpcjapjkbaaGreatDoorAl Go.Proofs.Tryz
attribute [local irreducible] IntKind.wrap CodeOk OpsL OpG ACalls thn inBlk rndR cutR WkR Wk fnR DW ExtOk partsOf
theorem b47 : HasBody prog 47 := ⟨f47, func47, Option.some_ne_none _, by decide⟩
theorem b19 : HasBody prog 19 := ⟨f19, func19, Option.some_ne_none _, by decide⟩
theorem b30 : HasBody prog 30 := ⟨f30, func30, Option.some_ne_none _, by decide⟩
/-- Whether snapshots may be a catalog's. -/
def fromF : List NV → List NV → Bool
  | _, [] => true
  | ahead, s :: r => mayN ahead s && fromF (ahead ++ [s]) r
abbrev fromB (l : List NV) : Bool := fromF [] l
theorem fromF_step {l : List NV} {k : Nat} (h : k < l.length) : fromF (l.take k) (l.drop k) = (mayN (l.take k) l[k] && fromF (l.take (k + 1)) (l.drop (k + 1))) := by
  rw [List.drop_eq_getElem_cons h, fromF, List.take_succ_eq_append_getElem h]
theorem from_ok (l : List NV) (hl : l.length ≤ 4000000000) (hk : ∀ s ∈ l, s.fit) (hb : fromB l = true) :
    ACalls prog 47 0 [.st (.sl 4 (l.map rowN))] [] fun r h => r = .tuple [.ptr 0 0, nilE] ∧ h = [(0, .cells [.st (.sl 4 (l.map rowN))])] := by
  have hsn := snapshots_ok l hl hk
  have hm : (List.map rowN l).length = l.length := List.length_map _
  refine fnC lay_ok func47 rfl rfl rfl rfl rfl ?_
  repeat' first | refine ln ?_ | refine stp lay_ok rfl ?_ | refine fin ?_ | refine n_thn ?_ | refine .seq ?_ | refine reg ?_ | refine .block ?_ | fail
  refine lpR (fun k => k ≤ l.length ∧ fromF (l.take k) (l.drop k) = true) (fun k => l.length - k) (fun k => [(8, I k)]) (fun k => []) (0) [0, 6, 7] [] [] rfl rfl rfl (.of [] (by (repeat' first | exact trivial | refine And.intro ?_ ?_ | rfl); first | done | fail) (by (repeat' first | exact trivial | refine And.intro ?_ ?_ | rfl); first | done | fail) rfl) ?_ ?_
  · exact ⟨Nat.zero_le _, hb⟩
  rintro k ⟨hk1, hk2⟩
  refine nrm rfl rfl ?_
  repeat' first | refine stp lay_ok rfl ?_ | refine fin ?_ | refine n_thn ?_ | refine e_thn ?_ | refine e_hit ?_ | refine e_rr ?_ | refine .seq ?_ | refine reg ?_ | refine .block ?_ | refine .skip ?_ | refine .exit ?_ | refine c_dec rfl (fun hc => ?_) (fun hc => ?_) | fail
  · have hk' : k < l.length := by omega
    have hat : (l.map rowN)[((k : Nat) : Int).toNat]? = some (rowN l[k]) := by simp [hk']
    rw [fromF_step hk', Bool.and_eq_true] at hk2
    have hmy := may_ok' (l.take k) l[k] (by simp; omega) (hk _ (List.getElem_mem hk'))
    rw [hk2.1, List.map_take] at hmy
    generalize l[k] = s at *
    obtain ⟨c, n, d, es⟩ := s
    repeat' first | refine o_frb 0 [.int .i64 c, .str n, .bool d, .sl 3 (es.map rowE)] rfl rfl rfl (by (repeat' first | exact trivial | refine And.intro ?_ ?_ | rfl); first | done | fail) (by (repeat' first | exact trivial | refine And.intro ?_ ?_ | rfl); first | done | fail) rfl rfl ?_ | refine stp lay_ok rfl ?_ | refine fin ?_ | refine n_thn ?_ | refine .seq ?_ | (refine o_none rfl ?_; refine st_index (rowN ⟨c, n, d, es⟩) lay_ok rfl rfl rfl rfl (by omega) hat ?_) | fail
    refine dreg [(0, [], [14, 16]), (1, [], [13, 16]), (2, [0, 1], [16]), (3, [], [13, 14, 15]), (4, [0, 1, 2, 3], []), (5, [0, 1, 2, 3, 4], [])] mixed (by kernel_rfl) ?_
    repeat' first | refine wr (by omega) ?_ | refine stp lay_ok rfl ?_ | refine fin ?_ | refine n_thn ?_ | refine n_blk ?_ | refine reg ?_ | refine .skip ?_ | refine cndF rfl ?_ | refine dws lay_ok rfl rfl rfl rfl rfl rfl rfl ?_ | refine dw_end ?_ | refine dwb rfl rfl rfl rfl rfl (by (first | refine st_subL 0 k lay_ok rfl rfl rfl rfl ⟨_, _, rfl, rfl⟩ (Nat.zero_le _) (by omega) ?_ | refine st_pure (hmy) b82 rfl rfl rfl rfl ?_); exact fin rfl) rfl rfl ?_ | fail
    refine n_rr (k + 1) ?_ (.of [] (by (repeat' first | exact trivial | refine And.intro ?_ ?_ | rfl); first | done | fail) (by (repeat' first | exact trivial | refine And.intro ?_ ?_ | rfl); first | done | fail) rfl) ?_
    · omega
    · exact ⟨hk', hk2.2⟩
  · repeat' first | refine stp lay_ok rfl ?_ | refine fin ?_ | refine n_thn ?_ | refine .ret ?_ | (refine o_none rfl ?_; refine st_pure (hsn) b49 rfl rfl rfl rfl ?_) | fail
    refine f_end (n0 := 1) (t'' := [(2, .ptr 0 0), (3, nilE)]) (h'' := [(0, .cells [.st (.sl 4 (l.map rowN))])]) (WkR.of [0] (by (repeat' first | exact trivial | refine And.intro ?_ ?_ | rfl); first | done | fail) (by (repeat' first | exact trivial | refine And.intro ?_ ?_ | rfl); first | done | fail) rfl) rfl rfl ⟨?_, rfl⟩
    rfl
theorem from_no (l : List NV) (hl : l.length ≤ 4000000000) (hk : ∀ s ∈ l, s.fit) (hb : fromB l = false) :
    ACalls prog 47 0 [.st (.sl 4 (l.map rowN))] [] fun r h => r = .tuple [.st .nilptr, errE 1] ∧ h = [] := by
  have hm : (List.map rowN l).length = l.length := List.length_map _
  refine fnC lay_ok func47 rfl rfl rfl rfl rfl ?_
  repeat' first | refine ln ?_ | refine stp lay_ok rfl ?_ | refine fin ?_ | refine n_thn ?_ | refine .seq ?_ | refine reg ?_ | refine .block ?_ | fail
  refine lpR (fun k => k ≤ l.length ∧ fromF (l.take k) (l.drop k) = false) (fun k => l.length - k) (fun k => [(8, I k)]) (fun k => []) (0) [0, 6, 7] [] [] rfl rfl rfl (.of [] (by (repeat' first | exact trivial | refine And.intro ?_ ?_ | rfl); first | done | fail) (by (repeat' first | exact trivial | refine And.intro ?_ ?_ | rfl); first | done | fail) rfl) ?_ ?_
  · exact ⟨Nat.zero_le _, hb⟩
  rintro k ⟨hk1, hk2⟩
  refine nrm rfl rfl ?_
  repeat' first | refine stp lay_ok rfl ?_ | refine fin ?_ | refine n_thn ?_ | refine e_thn ?_ | refine e_hit ?_ | refine e_rr ?_ | refine .seq ?_ | refine reg ?_ | refine .block ?_ | refine .skip ?_ | refine .exit ?_ | refine c_dec rfl (fun hc => ?_) (fun hc => ?_) | fail
  · have hk' : k < l.length := by omega
    have hat : (l.map rowN)[((k : Nat) : Int).toNat]? = some (rowN l[k]) := by simp [hk']
    rw [fromF_step hk'] at hk2
    have hmy := may_ok' (l.take k) l[k] (by simp; omega) (hk _ (List.getElem_mem hk'))
    rw [List.map_take] at hmy
    cases hmm : mayN (l.take k) l[k] with
    | false =>
      rw [hmm] at hmy
      generalize l[k] = s at *
      obtain ⟨c, n, d, es⟩ := s
      repeat' first | refine o_frb 0 [.int .i64 c, .str n, .bool d, .sl 3 (es.map rowE)] rfl rfl rfl (by (repeat' first | exact trivial | refine And.intro ?_ ?_ | rfl); first | done | fail) (by (repeat' first | exact trivial | refine And.intro ?_ ?_ | rfl); first | done | fail) rfl rfl ?_ | refine stp lay_ok rfl ?_ | refine fin ?_ | refine n_thn ?_ | refine .seq ?_ | (refine o_none rfl ?_; refine st_index (rowN ⟨c, n, d, es⟩) lay_ok rfl rfl rfl rfl (by omega) hat ?_) | fail
      refine dreg [(0, [], [14, 16]), (1, [], [13, 16]), (2, [0, 1], [16]), (3, [], [13, 14, 15]), (4, [0, 1, 2, 3], []), (5, [0, 1, 2, 3, 4], [])] mixed (by kernel_rfl) ?_
      repeat' first | refine stp lay_ok rfl ?_ | refine fin ?_ | refine n_thn ?_ | refine r_thn ?_ | refine r_blk ?_ | refine r_rr ?_ | refine .seq ?_ | refine reg ?_ | refine .ret ?_ | refine cndT rfl ?_ | refine dws lay_ok rfl rfl rfl rfl rfl rfl rfl ?_ | refine dw_end ?_ | refine dwb rfl rfl rfl rfl rfl (by (first | refine st_subL 0 k lay_ok rfl rfl rfl rfl ⟨_, _, rfl, rfl⟩ (Nat.zero_le _) (by omega) ?_ | refine st_pure (hmy) b82 rfl rfl rfl rfl ?_); exact fin rfl) rfl rfl ?_ | fail
      refine f_r [] rfl trivial rfl ⟨?_, rfl⟩
      rfl
    | true =>
      rw [hmm] at hmy hk2
      generalize l[k] = s at *
      obtain ⟨c, n, d, es⟩ := s
      repeat' first | refine o_frb 0 [.int .i64 c, .str n, .bool d, .sl 3 (es.map rowE)] rfl rfl rfl (by (repeat' first | exact trivial | refine And.intro ?_ ?_ | rfl); first | done | fail) (by (repeat' first | exact trivial | refine And.intro ?_ ?_ | rfl); first | done | fail) rfl rfl ?_ | refine stp lay_ok rfl ?_ | refine fin ?_ | refine n_thn ?_ | refine .seq ?_ | (refine o_none rfl ?_; refine st_index (rowN ⟨c, n, d, es⟩) lay_ok rfl rfl rfl rfl (by omega) hat ?_) | fail
      refine dreg [(0, [], [14, 16]), (1, [], [13, 16]), (2, [0, 1], [16]), (3, [], [13, 14, 15]), (4, [0, 1, 2, 3], []), (5, [0, 1, 2, 3, 4], [])] mixed (by kernel_rfl) ?_
      repeat' first | refine wr (by omega) ?_ | refine stp lay_ok rfl ?_ | refine fin ?_ | refine n_thn ?_ | refine n_blk ?_ | refine reg ?_ | refine .skip ?_ | refine cndF rfl ?_ | refine dws lay_ok rfl rfl rfl rfl rfl rfl rfl ?_ | refine dw_end ?_ | refine dwb rfl rfl rfl rfl rfl (by (first | refine st_subL 0 k lay_ok rfl rfl rfl rfl ⟨_, _, rfl, rfl⟩ (Nat.zero_le _) (by omega) ?_ | refine st_pure (hmy) b82 rfl rfl rfl rfl ?_); exact fin rfl) rfl rfl ?_ | fail
      refine n_rr (k + 1) ?_ (.of [] (by (repeat' first | exact trivial | refine And.intro ?_ ?_ | rfl); first | done | fail) (by (repeat' first | exact trivial | refine And.intro ?_ ?_ | rfl); first | done | fail) rfl) ?_
      · omega
      · exact ⟨hk', hk2⟩
  · exfalso
    have : k = l.length := by omega
    subst this
    rw [List.drop_length, fromF] at hk2
    cases hk2
theorem snaps_ok (l : List NV) (hl : l.length ≤ 4000000000) (hk : ∀ s ∈ l, s.fit) : ACalls prog 19 0 [.st (.sptr [.sl 4 (l.map rowN)])] [] fun r h => r = .st (.sl 4 (l.map rowN)) ∧ h = [] := by
  have hsn := snapshots_ok l hl hk
  refine fnC lay_ok func19 rfl rfl rfl rfl rfl ?_
  repeat' first | refine stp lay_ok rfl ?_ | refine fin ?_ | refine n_thn ?_ | refine .seq ?_ | refine reg ?_ | refine .ret ?_ | (refine o_none rfl ?_; refine st_pure (hsn) b49 rfl rfl rfl rfl ?_) | fail
  refine f_r [] rfl trivial rfl ⟨?_, rfl⟩; rfl
end Go.Proofs.YtohmbpcjapjkbaaGreatDoorFn
namespace Go.Proofs.YtohmbpcjapjkbaaGreatDoorFn
open Go.Proofs.YtohmbpcjapjkbaaGreatDoorAl Go.Proofs.Tryz
attribute [local irreducible] IntKind.wrap CodeOk OpsL OpG ACalls thn inBlk rndR cutR WkR Wk fnR DW ExtOk partsOf
theorem b65 : HasBody prog 65 := ⟨f65, func65, Option.some_ne_none _, by decide⟩
theorem b110 : HasBody prog 110 := ⟨f110, func110, Option.some_ne_none _, by decide⟩
/-- Where a reader stands, and whether something is amiss. -/
structure RS where
  at_ : Nat
  bad : Bool
abbrev rcell (b : List UInt8) (s : RS) : AO := .cells [Bs b, I s.at_, B s.bad]
def numR (b : List UInt8) (s : RS) : Nat × RS := if s.bad then (0, s) else match gnC b s.at_ 65536 with
  | .error _ => (0, ⟨s.at_, true⟩)
  | .ok (n, q) => (n, ⟨q, false⟩)
def textR (b : List UInt8) (s : RS) : ByteArray × RS := if s.bad then (mt, s) else match txC b s.at_ with
  | .error _ => (mt, ⟨s.at_, true⟩)
  | .ok (x, q) => (x, ⟨q, false⟩)
theorem numR_le {b : List UInt8} {s : RS} (h : s.at_ ≤ b.length) : (numR b s).2.at_ ≤ b.length ∧ (numR b s).1 ≤ 65536 := by
  unfold numR
  split
  · exact ⟨h, Nat.zero_le _⟩
  · split
    · exact ⟨h, Nat.zero_le _⟩
    · rename_i e; have := gnC_le h e; exact ⟨this.2.1, this.1⟩
theorem txC_le {b : List UInt8} {p q : Nat} {x : ByteArray} (hp : p ≤ b.length) (h : txC b p = .ok (x, q)) : q ≤ b.length ∧ x.size ≤ 4096 := by
  unfold txC at h
  split at h
  · cases h
  · rename_i n q' e
    have := gnC_le hp e
    split at h
    · cases h
    · simp only [Except.ok.injEq, Prod.mk.injEq] at h
      obtain ⟨rfl, rfl⟩ := h
      refine ⟨by omega, ?_⟩
      have e2 : (Go.Proofs.YtohmbpcjapjkbaaGreatDoorAl.strOf ((b.drop q').take n)).size = ((b.drop q').take n).length := by simp [Go.Proofs.YtohmbpcjapjkbaaGreatDoorAl.strOf, ByteArray.size]
      rw [e2, List.length_take]; omega
theorem textR_le {b : List UInt8} {s : RS} (h : s.at_ ≤ b.length) : (textR b s).2.at_ ≤ b.length ∧ (textR b s).1.size ≤ 4096 := by
  unfold textR
  split
  · exact ⟨h, show mt.size ≤ 4096 by decide⟩
  · split
    · exact ⟨h, show mt.size ≤ 4096 by decide⟩
    · rename_i e; exact txC_le h e
theorem rnum_ok (b : List UInt8) (s : RS) (hb : b.length ≤ 4000000000) (hp : s.at_ ≤ b.length) :
    ACalls prog 65 1 [.ptr 0 0] [(0, rcell b s)] fun r h => r = I (numR b s).1 ∧ h = [(0, rcell b (numR b s).2)] := by
  obtain ⟨p, bad⟩ := s
  have hg := getN_ok b p 65536 hb hp (by decide)
  refine fnC lay_ok func65 rfl rfl rfl rfl rfl ?_
  cases bad with
  | true =>
    repeat' first | refine stp lay_ok rfl ?_ | refine fin ?_ | refine n_thn ?_ | refine r_thn ?_ | refine .seq ?_ | refine reg ?_ | refine .ret ?_ | refine cndT rfl ?_ | fail
    refine f_r [(0, rcell b ⟨p, true⟩)] rfl (by (repeat' first | exact trivial | refine And.intro ?_ ?_ | rfl); first | done | fail) rfl ⟨?_, rfl⟩
    rfl
  | false =>
    cases hc : gnC b p 65536 with
    | error e =>
      have hn : numR b ⟨p, false⟩ = (0, ⟨p, true⟩) := by simp [numR, hc]
      rw [hc] at hg; simp only [gnX] at hg
      rw [hn]
      repeat' first | refine stp lay_ok rfl ?_ | refine fin ?_ | refine n_thn ?_ | refine .seq ?_ | refine reg ?_ | refine .skip ?_ | refine cndF rfl ?_ | fail
      refine dreg [(0, [], [15, 16, 17, 18]), (1, [0], [15, 16, 17, 18]), (2, [0, 1], [15, 16, 17, 18]), (3, [0, 1, 2], [15, 16, 17, 18]), (4, [], [11, 12, 13, 14]), (5, [4], [11, 12, 13, 14]), (6, [4, 5], [11, 12, 13, 14]), (7, [4, 5, 6], [11, 12, 13, 14]), (8, [0, 1, 2, 3, 4, 5, 6, 7], []), (9, [0, 1, 2, 3, 4, 5, 6, 7, 8], []), (10, [0, 1, 2, 3, 4, 5, 6, 7, 8, 9], [21, 22]), (11, [0, 1, 2, 3, 4, 5, 6, 7, 8, 9], [20, 22, 3]), (12, [0, 1, 2, 3, 4, 5, 6, 7, 8, 9], [20, 21, 3, 4]), (13, [0, 1, 2, 3, 4, 5, 6, 7, 8, 9, 10], [21, 22]), (14, [0, 1, 2, 3, 4, 5, 6, 7, 8, 9, 10, 11, 13], [22]), (15, [0, 1, 2, 3, 4, 5, 6, 7, 8, 9, 10, 11, 12, 13, 14], [])] mixed (by kernel_rfl) ?_
      repeat' first | refine stp lay_ok rfl ?_ | refine fin ?_ | refine n_thn ?_ | refine r_thn ?_ | refine .seq ?_ | refine reg ?_ | refine .ret ?_ | refine cndT rfl ?_ | refine dws lay_ok rfl rfl rfl rfl rfl rfl rfl ?_ | refine dw_end ?_ | refine dwb rfl rfl rfl rfl rfl (by (first | refine st_pure (hg) b109 rfl rfl rfl rfl ?_); exact fin rfl) rfl rfl ?_ | fail
      refine f_r [(0, rcell b ⟨p, true⟩)] rfl (by (repeat' first | exact trivial | refine And.intro ?_ ?_ | rfl); first | done | fail) rfl ⟨?_, rfl⟩
      rfl
    | ok x =>
      obtain ⟨n, q⟩ := x
      have hle := gnC_le hp hc
      have hn : numR b ⟨p, false⟩ = (n, ⟨q, false⟩) := by simp [numR, hc]
      rw [hc] at hg; simp only [gnX] at hg
      rw [hn]
      repeat' first | refine stp lay_ok rfl ?_ | refine fin ?_ | refine n_thn ?_ | refine .seq ?_ | refine reg ?_ | refine .skip ?_ | refine cndF rfl ?_ | fail
      refine dreg [(0, [], [15, 16, 17, 18]), (1, [0], [15, 16, 17, 18]), (2, [0, 1], [15, 16, 17, 18]), (3, [0, 1, 2], [15, 16, 17, 18]), (4, [], [11, 12, 13, 14]), (5, [4], [11, 12, 13, 14]), (6, [4, 5], [11, 12, 13, 14]), (7, [4, 5, 6], [11, 12, 13, 14]), (8, [0, 1, 2, 3, 4, 5, 6, 7], []), (9, [0, 1, 2, 3, 4, 5, 6, 7, 8], []), (10, [0, 1, 2, 3, 4, 5, 6, 7, 8, 9], [21, 22]), (11, [0, 1, 2, 3, 4, 5, 6, 7, 8, 9], [20, 22, 3]), (12, [0, 1, 2, 3, 4, 5, 6, 7, 8, 9], [20, 21, 3, 4]), (13, [0, 1, 2, 3, 4, 5, 6, 7, 8, 9, 10], [21, 22]), (14, [0, 1, 2, 3, 4, 5, 6, 7, 8, 9, 10, 11, 13], [22]), (15, [0, 1, 2, 3, 4, 5, 6, 7, 8, 9, 10, 11, 12, 13, 14], [])] mixed (by kernel_rfl) ?_
      repeat' first | refine wr (by omega) ?_ | refine stp lay_ok rfl ?_ | refine fin ?_ | refine n_thn ?_ | refine .seq ?_ | refine reg ?_ | refine .skip ?_ | refine .ret ?_ | refine cndF rfl ?_ | refine dws lay_ok rfl rfl rfl rfl rfl rfl rfl ?_ | refine dw_end ?_ | refine dwb rfl rfl rfl rfl rfl (by (first | refine st_pure (hg) b109 rfl rfl rfl rfl ?_); exact fin rfl) rfl rfl ?_ | fail
      refine f_r [(0, rcell b ⟨q, false⟩)] rfl (by (repeat' first | exact trivial | refine And.intro ?_ ?_ | rfl); first | done | fail) rfl ⟨?_, rfl⟩
      rfl
theorem rtext_ok (b : List UInt8) (s : RS) (hb : b.length ≤ 4000000000) (hp : s.at_ ≤ b.length) :
    ACalls prog 110 1 [.ptr 0 0] [(0, rcell b s)] fun r h => r = Sx (textR b s).1 ∧ h = [(0, rcell b (textR b s).2)] := by
  obtain ⟨p, bad⟩ := s
  have hg := getT_ok b p hb hp
  refine fnC lay_ok func110 rfl rfl rfl rfl rfl ?_
  cases bad with
  | true =>
    repeat' first | refine stp lay_ok rfl ?_ | refine fin ?_ | refine n_thn ?_ | refine r_thn ?_ | refine .seq ?_ | refine reg ?_ | refine .ret ?_ | refine cndT rfl ?_ | fail
    refine f_r [(0, rcell b ⟨p, true⟩)] rfl (by (repeat' first | exact trivial | refine And.intro ?_ ?_ | rfl); first | done | fail) rfl ⟨?_, rfl⟩
    rfl
  | false =>
    cases hc : txC b p with
    | error e =>
      have hn : textR b ⟨p, false⟩ = (mt, ⟨p, true⟩) := by simp [textR, hc]
      rw [hc] at hg; simp only [txX] at hg
      rw [hn]
      repeat' first | refine stp lay_ok rfl ?_ | refine fin ?_ | refine n_thn ?_ | refine .seq ?_ | refine reg ?_ | refine .skip ?_ | refine cndF rfl ?_ | fail
      refine dreg [(0, [], [15, 16, 17, 18]), (1, [0], [15, 16, 17, 18]), (2, [0, 1], [15, 16, 17, 18]), (3, [0, 1, 2], [15, 16, 17, 18]), (4, [], [11, 12, 13, 14]), (5, [4], [11, 12, 13, 14]), (6, [4, 5], [11, 12, 13, 14]), (7, [4, 5, 6], [11, 12, 13, 14]), (8, [0, 1, 2, 3, 4, 5, 6, 7], []), (9, [0, 1, 2, 3, 4, 5, 6, 7, 8], []), (10, [0, 1, 2, 3, 4, 5, 6, 7, 8, 9], [21, 22]), (11, [0, 1, 2, 3, 4, 5, 6, 7, 8, 9], [20, 22, 3]), (12, [0, 1, 2, 3, 4, 5, 6, 7, 8, 9], [20, 21, 3, 4]), (13, [0, 1, 2, 3, 4, 5, 6, 7, 8, 9, 10], [21, 22]), (14, [0, 1, 2, 3, 4, 5, 6, 7, 8, 9, 10, 11, 13], [22]), (15, [0, 1, 2, 3, 4, 5, 6, 7, 8, 9, 10, 11, 12, 13, 14], [])] mixed (by kernel_rfl) ?_
      repeat' first | refine stp lay_ok rfl ?_ | refine fin ?_ | refine n_thn ?_ | refine r_thn ?_ | refine .seq ?_ | refine reg ?_ | refine .ret ?_ | refine cndT rfl ?_ | refine dws lay_ok rfl rfl rfl rfl rfl rfl rfl ?_ | refine dw_end ?_ | refine dwb rfl rfl rfl rfl rfl (by (first | refine st_pure (hg) b118 rfl rfl rfl rfl ?_); exact fin rfl) rfl rfl ?_ | fail
      refine f_r [(0, rcell b ⟨p, true⟩)] rfl (by (repeat' first | exact trivial | refine And.intro ?_ ?_ | rfl); first | done | fail) rfl ⟨?_, rfl⟩
      rfl
    | ok x =>
      obtain ⟨n, q⟩ := x
      have hle := txC_le hp hc
      have hn : textR b ⟨p, false⟩ = (n, ⟨q, false⟩) := by simp [textR, hc]
      rw [hc] at hg; simp only [txX] at hg
      rw [hn]
      repeat' first | refine stp lay_ok rfl ?_ | refine fin ?_ | refine n_thn ?_ | refine .seq ?_ | refine reg ?_ | refine .skip ?_ | refine cndF rfl ?_ | fail
      refine dreg [(0, [], [15, 16, 17, 18]), (1, [0], [15, 16, 17, 18]), (2, [0, 1], [15, 16, 17, 18]), (3, [0, 1, 2], [15, 16, 17, 18]), (4, [], [11, 12, 13, 14]), (5, [4], [11, 12, 13, 14]), (6, [4, 5], [11, 12, 13, 14]), (7, [4, 5, 6], [11, 12, 13, 14]), (8, [0, 1, 2, 3, 4, 5, 6, 7], []), (9, [0, 1, 2, 3, 4, 5, 6, 7, 8], []), (10, [0, 1, 2, 3, 4, 5, 6, 7, 8, 9], [21, 22]), (11, [0, 1, 2, 3, 4, 5, 6, 7, 8, 9], [20, 22, 3]), (12, [0, 1, 2, 3, 4, 5, 6, 7, 8, 9], [20, 21, 3, 4]), (13, [0, 1, 2, 3, 4, 5, 6, 7, 8, 9, 10], [21, 22]), (14, [0, 1, 2, 3, 4, 5, 6, 7, 8, 9, 10, 11, 13], [22]), (15, [0, 1, 2, 3, 4, 5, 6, 7, 8, 9, 10, 11, 12, 13, 14], [])] mixed (by kernel_rfl) ?_
      repeat' first | refine stp lay_ok rfl ?_ | refine fin ?_ | refine n_thn ?_ | refine .seq ?_ | refine reg ?_ | refine .skip ?_ | refine .ret ?_ | refine cndF rfl ?_ | refine dws lay_ok rfl rfl rfl rfl rfl rfl rfl ?_ | refine dw_end ?_ | refine dwb rfl rfl rfl rfl rfl (by (first | refine st_pure (hg) b118 rfl rfl rfl rfl ?_); exact fin rfl) rfl rfl ?_ | fail
      refine f_r [(0, rcell b ⟨q, false⟩)] rfl (by (repeat' first | exact trivial | refine And.intro ?_ ?_ | rfl); first | done | fail) rfl ⟨?_, rfl⟩
      rfl
end Go.Proofs.YtohmbpcjapjkbaaGreatDoorFn
namespace Go.Proofs.YtohmbpcjapjkbaaGreatDoorFn
open Go.Proofs.YtohmbpcjapjkbaaGreatDoorAl Go.Proofs.Tryz
attribute [local irreducible] IntKind.wrap CodeOk OpsL OpG ACalls thn inBlk rndR cutR WkR Wk fnR DW ExtOk partsOf
theorem b111 : HasBody prog 111 := ⟨f111, func111, Option.some_ne_none _, by decide⟩
/-- So many texts, behind others. -/
def textsR (b : List UInt8) : Nat → RS → List ByteArray → List ByteArray × RS
  | 0, s, acc => (acc, s)
  | n + 1, s, acc => if s.bad then (acc, s) else textsR b n (textR b s).2 (acc ++ [(textR b s).1])
def entryR (b : List UInt8) (s : RS) : EV × RS :=
  let r1 := textR b s
  let r2 := numR b r1.2
  let r3 := numR b r2.2
  let r4 := textsR b r3.1 r3.2 []
  (⟨r1.1, r2.1, r4.1⟩, r4.2)
theorem rentry_ok (b : List UInt8) (s : RS) (hb : b.length ≤ 4000000000) (hp : s.at_ ≤ b.length) :
    ACalls prog 111 1 [.ptr 0 0] [(0, rcell b s)] fun r h => r = .st (.agg (rowE (entryR b s).1)) ∧ h = [(0, rcell b (entryR b s).2)] := by
  have hT := rtext_ok b s hb hp
  have hle := textR_le hp
  simp only [entryR]
  generalize textR b s = r1 at *
  obtain ⟨p, s1⟩ := r1
  simp only at *
  have hN := rnum_ok b s1 hb hle.1
  have hle1 := numR_le hle.1
  generalize numR b s1 = r2 at *
  obtain ⟨z, s2⟩ := r2
  simp only at *
  have hN2 := rnum_ok b s2 hb hle1.1
  have hle2 := numR_le hle1.1
  generalize numR b s2 = r3 at *
  obtain ⟨n, s3⟩ := r3
  simp only at *
  refine ACalls.drop1 (h1 := [(0, rcell b (textsR b n s3 []).2), (1, .cells [.st (.str p), .st (.int .i64 (z : Int)), .st (.sl 1 ((textsR b n s3 []).1.map rowS))])]) ⟨rfl, trivial⟩ ?_
  refine fnC lay_ok func111 rfl rfl rfl rfl rfl ?_
  repeat' first | refine stp lay_ok rfl ?_ | refine fin ?_ | refine n_thn ?_ | refine .seq ?_ | refine reg ?_ | refine .block ?_ | (refine o_none rfl ?_; (first | refine st_callF 0 (hT) b110 rfl rfl rfl rfl rfl rfl (by (repeat' first | exact trivial | refine And.intro ?_ ?_ | rfl); first | done | fail) rfl ?_ | refine st_callF 0 (hN) b65 rfl rfl rfl rfl rfl rfl (by (repeat' first | exact trivial | refine And.intro ?_ ?_ | rfl); first | done | fail) rfl ?_ | refine st_callF 0 (hN2) b65 rfl rfl rfl rfl rfl rfl (by (repeat' first | exact trivial | refine And.intro ?_ ?_ | rfl); first | done | fail) rfl ?_)) | fail
  refine CodeOk.wk (Wk.nilC 1 2 2 rfl rfl rfl rfl rfl) (Nat.le_succ _) ?_
  refine nrm rfl rfl ?_
  refine lpR (fun (s, ks, f) => s.at_ ≤ b.length ∧ ks.length + f ≤ 65536 ∧ textsR b n s3 [] = textsR b f s ks) (fun (s, ks, f) => f) (fun (s, ks, f) => [(4, I f)]) (fun (s, ks, f) => [(0, rcell b s), (2, .cells [.st (.str p), .st (.int .i64 (z : Int)), .lsl 4 1 0 (ks.map rowS).length]), (4, .arr 1 (ks.map rowS))]) ((s3, [], n)) [0, 2, 3] [0, 2] [3] rfl rfl rfl (.of [3] (by (repeat' first | exact trivial | refine And.intro ?_ ?_ | rfl); first | done | fail) (by (repeat' first | exact trivial | refine And.intro ?_ ?_ | rfl); first | done | fail) rfl) ?_ ?_
  · exact ⟨hle2.1, by simp; omega, rfl⟩
  rintro ⟨⟨q, bad⟩, ks, f⟩ ⟨g1, g2, g3⟩
  refine nrm rfl rfl ?_
  rw [g3]
  clear g3
  cases f with
  | zero =>
    rw [textsR]
    repeat' first | refine stp lay_ok rfl ?_ | refine fin ?_ | refine n_thn ?_ | refine e_thn ?_ | refine e_hit ?_ | refine e_rr ?_ | refine .seq ?_ | refine reg ?_ | refine .ret ?_ | refine .exit ?_ | refine cndF rfl ?_ | fail
    refine f_end (n0 := 2) (t'' := [(2, .ptr 1 0)]) (h'' := [(0, rcell b ⟨q, bad⟩), (1, .cells [.st (.str p), .st (.int .i64 (z : Int)), .st (.sl 1 (ks.map rowS))])]) (Wk.then (Wk.frz 4 [2] rfl rfl rfl (by (repeat' first | exact trivial | refine And.intro ?_ ?_ | rfl); first | done | fail) (by (repeat' first | exact trivial | refine And.intro ?_ ?_ | rfl); first | done | fail) rfl rfl) (WkR.of [1] (by (repeat' first | exact trivial | refine And.intro ?_ ?_ | rfl); first | done | fail) (by (repeat' first | exact trivial | refine And.intro ?_ ?_ | rfl); first | done | fail) rfl)) rfl rfl ⟨?_, rfl⟩
    rfl
  | succ f =>
    cases bad with
    | true =>
      rw [textsR, if_pos rfl]
      repeat' first | refine stp lay_ok rfl ?_ | refine fin ?_ | refine n_thn ?_ | refine e_thn ?_ | refine e_hit ?_ | refine e_rr ?_ | refine .seq ?_ | refine reg ?_ | refine .ret ?_ | refine .exit ?_ | refine cndF rfl ?_ | refine gd rfl rfl rfl (fun hg => ?_) (fun hg => ?_) | fail
      · refine f_end (n0 := 2) (t'' := [(2, .ptr 1 0)]) (h'' := [(0, rcell b ⟨q, true⟩), (1, .cells [.st (.str p), .st (.int .i64 (z : Int)), .st (.sl 1 (ks.map rowS))])]) (Wk.then (Wk.frz 4 [2] rfl rfl rfl (by (repeat' first | exact trivial | refine And.intro ?_ ?_ | rfl); first | done | fail) (by (repeat' first | exact trivial | refine And.intro ?_ ?_ | rfl); first | done | fail) rfl rfl) (WkR.of [1] (by (repeat' first | exact trivial | refine And.intro ?_ ?_ | rfl); first | done | fail) (by (repeat' first | exact trivial | refine And.intro ?_ ?_ | rfl); first | done | fail) rfl)) rfl rfl ⟨?_, rfl⟩
        rfl
      · exfalso; omega
    | false =>
      rw [textsR, if_neg (by simp)]
      have hT := rtext_ok b ⟨q, false⟩ hb g1
      have hle := textR_le (s := ⟨q, false⟩) g1
      generalize textR b ⟨q, false⟩ = r1 at *
      obtain ⟨x, s1⟩ := r1
      simp only at *
      have hm : (List.map rowS ks).length = ks.length := List.length_map _
      have hr : List.map rowS ks ++ [[SV.str x]] = List.map rowS (ks ++ [x]) := by rw [List.map_append]; rfl
      repeat' first | refine stp lay_ok rfl ?_ | refine fin ?_ | refine n_thn ?_ | refine e_thn ?_ | refine e_hit ?_ | refine e_rr ?_ | refine .seq ?_ | refine reg ?_ | refine .block ?_ | refine .skip ?_ | refine .ret ?_ | refine .exit ?_ | refine cndT rfl ?_ | refine cndF rfl ?_ | refine gd rfl rfl rfl (fun hg => ?_) (fun hg => ?_) | fail
      · refine dreg [(0, [], [25, 26, 27]), (1, [0], [25, 26, 27]), (2, [], [23, 24]), (3, [2], [23, 24]), (4, [2, 3], [23, 24]), (5, [0, 1, 2, 3, 4], []), (6, [0, 1, 2, 3, 4, 5], []), (7, [0, 1, 2, 3, 4, 5, 6], [])] mixed (by kernel_rfl) ?_
        repeat' first | refine wr (by omega) ?_ | refine stp lay_ok rfl ?_ | refine fin ?_ | refine n_thn ?_ | refine n_blk ?_ | refine reg ?_ | refine dws lay_ok rfl rfl rfl rfl rfl rfl rfl ?_ | refine dwu lay_ok rfl rfl rfl rfl rfl rfl rfl rfl rfl ?_ | refine dw_end ?_ | refine dwg rfl rfl rfl rfl rfl (by (first | refine st_callF 0 (hT) b110 rfl rfl rfl rfl rfl rfl (by (repeat' first | exact trivial | refine And.intro ?_ ?_ | rfl); first | done | fail) rfl ?_ | refine st_append lay_ok rfl rfl rfl rfl rfl rfl rfl rfl (.lsl rfl rfl) .sl rfl (rowS_one (b := [x])) (by simp only [List.length_cons, List.length_nil]; omega) (by simp only [List.length_cons, List.length_nil]; omega) ?_); exact fin rfl) rfl rfl rfl rfl rfl ?_ | fail
        rw [hr]
        refine n_rr ((s1, ks ++ [x], f)) ?_ (.of [5] (by (repeat' first | exact trivial | refine And.intro ?_ ?_ | rfl | exact congrArg (fun z : Int => some (AV.st (.int .i64 z))) (show ((f + 1 : Nat) : Int) - 1 = (f : Int) by omega)); first | done | fail) (by (repeat' first | exact trivial | refine And.intro ?_ ?_ | rfl | exact congrArg (fun z : Int => some (AV.st (.int .i64 z))) (show ((f + 1 : Nat) : Int) - 1 = (f : Int) by omega)); first | done | fail) rfl) ?_
        · exact Nat.lt_succ_self _
        · exact ⟨hle.1, by show (ks ++ [x]).length + f ≤ 65536; rw [List.length_append, List.length_singleton]; omega, rfl⟩
      · exfalso; omega
end Go.Proofs.YtohmbpcjapjkbaaGreatDoorFn
namespace Go.Proofs.YtohmbpcjapjkbaaGreatDoorFn
open Go.Proofs.YtohmbpcjapjkbaaGreatDoorAl Go.Proofs.Tryz
attribute [local irreducible] IntKind.wrap CodeOk OpsL OpG ACalls thn inBlk rndR cutR WkR Wk fnR DW ExtOk partsOf
theorem b66 : HasBody prog 66 := ⟨f66, func66, Option.some_ne_none _, by decide⟩
theorem textsR_le (b : List UInt8) : ∀ (n : Nat) (s : RS) (acc : List ByteArray), s.at_ ≤ b.length → (textsR b n s acc).2.at_ ≤ b.length ∧ (textsR b n s acc).1.length ≤ acc.length + n
  | 0, s, acc, h => ⟨h, Nat.le_refl _⟩
  | n + 1, s, acc, h => by
    rw [textsR]
    split
    · exact ⟨h, by simp⟩
    · have := textsR_le b n (textR b s).2 (acc ++ [(textR b s).1]) (textR_le h).1
      refine ⟨this.1, ?_⟩
      have h2 := this.2
      rw [List.length_append, List.length_singleton] at h2; omega
theorem entryR_le {b : List UInt8} {s : RS} (h : s.at_ ≤ b.length) : (entryR b s).2.at_ ≤ b.length ∧ (entryR b s).1.path.size ≤ 4096 ∧ (entryR b s).1.keys.length ≤ 65536 := by
  have h1 := textR_le h
  have h2 := numR_le h1.1
  have h3 := numR_le h2.1
  have h4 := textsR_le b (numR b (numR b (textR b s).2).2).1 (numR b (numR b (textR b s).2).2).2 [] h3.1
  refine ⟨h4.1, h1.2, ?_⟩
  have h5 := h4.2
  have h6 := h3.2
  simp only [List.length_nil] at h5
  exact Nat.le_trans h5 (by omega)
def entsR (b : List UInt8) : Nat → RS → List EV → List EV × RS
  | 0, s, acc => (acc, s)
  | n + 1, s, acc => if s.bad then (acc, s) else entsR b n (entryR b s).2 (acc ++ [(entryR b s).1])
def snapR (b : List UInt8) (s : RS) : NV × RS :=
  let r1 := numR b s
  let r2 := textR b r1.2
  let r3 := numR b r2.2
  let r4 := numR b ⟨r3.2.at_, r3.2.bad || decide ((r3.1 : Int) > 1)⟩
  let r5 := entsR b r4.1 r4.2 []
  (⟨r1.1, r2.1, decide ((r3.1 : Int) = 1), r5.1⟩, r5.2)
theorem rsnap_ok (b : List UInt8) (s : RS) (hb : b.length ≤ 4000000000) (hp : s.at_ ≤ b.length) :
    ACalls prog 66 1 [.ptr 0 0] [(0, rcell b s)] fun r h => r = .st (.agg (rowN (snapR b s).1)) ∧ h = [(0, rcell b (snapR b s).2)] := by
  have hN1 := rnum_ok b s hb hp
  have hle1 := numR_le hp
  simp only [snapR]
  generalize numR b s = r1 at *
  obtain ⟨c, s1⟩ := r1
  simp only at *
  have hT := rtext_ok b s1 hb hle1.1
  have hle2 := textR_le hle1.1
  generalize textR b s1 = r2 at *
  obtain ⟨p, s2⟩ := r2
  simp only at *
  have hN2 := rnum_ok b s2 hb hle2.1
  have hle3 := numR_le hle2.1
  generalize numR b s2 = r3 at *
  obtain ⟨d, ⟨q3, bad3⟩⟩ := r3
  simp only at *
  have hN3 := rnum_ok b ⟨q3, bad3 || decide ((d : Int) > 1)⟩ hb hle3.1
  have hle4 := numR_le (b := b) (s := ⟨q3, bad3 || decide ((d : Int) > 1)⟩) hle3.1
  generalize numR b ⟨q3, bad3 || decide ((d : Int) > 1)⟩ = r4 at *
  obtain ⟨n, s4⟩ := r4
  simp only at *
  generalize hz : decide ((d : Int) = 1) = z
  refine ACalls.drop1 (h1 := [(0, rcell b (entsR b n s4 []).2), (1, .cells [.st (.int .i64 (c : Int)), .st (.str p), .st (.bool z), .st (.sl 3 ((entsR b n s4 []).1.map rowE))])]) ⟨rfl, trivial⟩ ?_
  refine fnC lay_ok func66 rfl rfl rfl rfl rfl ?_
  cases bad3
  all_goals
    repeat' first | refine stp lay_ok rfl ?_ | refine fin ?_ | refine n_thn ?_ | refine .seq ?_ | refine reg ?_ | refine .block ?_ | (refine o_none rfl ?_; (first | refine st_callF 0 (hN1) b65 rfl rfl rfl rfl rfl rfl (by (repeat' first | exact trivial | refine And.intro ?_ ?_ | rfl); first | done | fail) rfl ?_ | refine st_callF 0 (hT) b110 rfl rfl rfl rfl rfl rfl (by (repeat' first | exact trivial | refine And.intro ?_ ?_ | rfl); first | done | fail) rfl ?_ | refine st_callF 0 (hN2) b65 rfl rfl rfl rfl rfl rfl (by (repeat' first | exact trivial | refine And.intro ?_ ?_ | rfl); first | done | fail) rfl ?_ | refine st_callF 0 (hN3) b65 rfl rfl rfl rfl rfl rfl (by (repeat' first | exact trivial | refine And.intro ?_ ?_ | rfl); first | done | fail) rfl ?_)) | fail
  all_goals
    rw [hz]
    clear hN1 hN2 hN3 hT
    refine CodeOk.wk (Wk.nilC 3 2 3 rfl rfl rfl rfl rfl) (Nat.le_succ _) ?_
    refine nrm rfl rfl ?_
    refine lpR (fun (s, es, f) => s.at_ ≤ b.length ∧ es.length + f ≤ 65536 ∧ entsR b n s4 [] = entsR b f s es) (fun (s, es, f) => f) (fun (s, es, f) => [(5, I f)]) (fun (s, es, f) => [(0, rcell b s), (2, .cells [.st (.int .i64 (c : Int)), .st (.str p), .st (.bool z), .lsl 4 3 0 (es.map rowE).length]), (4, .arr 3 (es.map rowE))]) ((s4, [], n)) [0, 2, 3] [0, 2] [3] rfl rfl rfl (.of [3] (by (repeat' first | exact trivial | refine And.intro ?_ ?_ | rfl); first | done | fail) (by (repeat' first | exact trivial | refine And.intro ?_ ?_ | rfl); first | done | fail) rfl) ?_ ?_
    · exact ⟨hle4.1, by simp; omega, rfl⟩
    rintro ⟨⟨q, bad⟩, es, f⟩ ⟨g1, g2, g3⟩
    refine nrm rfl rfl ?_
    rw [g3]
    clear g3
    cases f with
    | zero =>
      rw [entsR]
      repeat' first | refine stp lay_ok rfl ?_ | refine fin ?_ | refine n_thn ?_ | refine e_thn ?_ | refine e_hit ?_ | refine e_rr ?_ | refine .seq ?_ | refine reg ?_ | refine .ret ?_ | refine .exit ?_ | refine cndF rfl ?_ | fail
      refine f_end (n0 := 2) (t'' := [(2, .ptr 1 0)]) (h'' := [(0, rcell b ⟨q, bad⟩), (1, .cells [.st (.int .i64 (c : Int)), .st (.str p), .st (.bool z), .st (.sl 3 (es.map rowE))])]) (Wk.then (Wk.frz 4 [2] rfl rfl rfl (by (repeat' first | exact trivial | refine And.intro ?_ ?_ | rfl); first | done | fail) (by (repeat' first | exact trivial | refine And.intro ?_ ?_ | rfl); first | done | fail) rfl rfl) (WkR.of [1] (by (repeat' first | exact trivial | refine And.intro ?_ ?_ | rfl); first | done | fail) (by (repeat' first | exact trivial | refine And.intro ?_ ?_ | rfl); first | done | fail) rfl)) rfl rfl ⟨?_, rfl⟩
      rfl
    | succ f =>
      cases bad with
      | true =>
        rw [entsR, if_pos rfl]
        repeat' first | refine stp lay_ok rfl ?_ | refine fin ?_ | refine n_thn ?_ | refine e_thn ?_ | refine e_hit ?_ | refine e_rr ?_ | refine .seq ?_ | refine reg ?_ | refine .ret ?_ | refine .exit ?_ | refine cndF rfl ?_ | refine gd rfl rfl rfl (fun hg => ?_) (fun hg => ?_) | fail
        · refine f_end (n0 := 2) (t'' := [(2, .ptr 1 0)]) (h'' := [(0, rcell b ⟨q, true⟩), (1, .cells [.st (.int .i64 (c : Int)), .st (.str p), .st (.bool z), .st (.sl 3 (es.map rowE))])]) (Wk.then (Wk.frz 4 [2] rfl rfl rfl (by (repeat' first | exact trivial | refine And.intro ?_ ?_ | rfl); first | done | fail) (by (repeat' first | exact trivial | refine And.intro ?_ ?_ | rfl); first | done | fail) rfl rfl) (WkR.of [1] (by (repeat' first | exact trivial | refine And.intro ?_ ?_ | rfl); first | done | fail) (by (repeat' first | exact trivial | refine And.intro ?_ ?_ | rfl); first | done | fail) rfl)) rfl rfl ⟨?_, rfl⟩
          rfl
        · exfalso; omega
      | false =>
        rw [entsR, if_neg (by simp)]
        have hE := rentry_ok b ⟨q, false⟩ hb g1
        have hle := entryR_le (s := ⟨q, false⟩) g1
        generalize entryR b ⟨q, false⟩ = r1 at *
        obtain ⟨x, s1⟩ := r1
        simp only at *
        have hm : (List.map rowE es).length = es.length := List.length_map _
        have hr : List.map rowE es ++ [rowE x] = List.map rowE (es ++ [x]) := by rw [List.map_append]; rfl
        repeat' first | refine stp lay_ok rfl ?_ | refine fin ?_ | refine n_thn ?_ | refine e_thn ?_ | refine e_hit ?_ | refine e_rr ?_ | refine .seq ?_ | refine reg ?_ | refine .block ?_ | refine .skip ?_ | refine .ret ?_ | refine .exit ?_ | refine cndT rfl ?_ | refine cndF rfl ?_ | refine gd rfl rfl rfl (fun hg => ?_) (fun hg => ?_) | fail
        · refine dreg [(0, [], [42, 43, 44]), (1, [0], [42, 43, 44]), (2, [], [40, 41]), (3, [2], [40, 41]), (4, [2, 3], [40, 41]), (5, [0, 1, 2, 3, 4], []), (6, [0, 1, 2, 3, 4, 5], []), (7, [0, 1, 2, 3, 4, 5, 6], [])] mixed (by kernel_rfl) ?_
          repeat' first | refine wr (by omega) ?_ | refine stp lay_ok rfl ?_ | refine fin ?_ | refine n_thn ?_ | refine n_blk ?_ | refine reg ?_ | refine dws lay_ok rfl rfl rfl rfl rfl rfl rfl ?_ | refine dwu lay_ok rfl rfl rfl rfl rfl rfl rfl rfl rfl ?_ | refine dw_end ?_ | refine dwg rfl rfl rfl rfl rfl (by (first | refine st_callF 0 (hE) b111 rfl rfl rfl rfl rfl rfl (by (repeat' first | exact trivial | refine And.intro ?_ ?_ | rfl); first | done | fail) rfl ?_ | refine st_append lay_ok rfl rfl rfl rfl rfl rfl rfl rfl (.lsl rfl rfl) (.sl (rows := [rowE x])) rfl (rowE_one (b := [x])) (by simp only [List.length_cons, List.length_nil]; omega) (by simp only [List.length_cons, List.length_nil]; omega) ?_); exact fin rfl) rfl rfl rfl rfl rfl ?_ | fail
          rw [hr]
          refine n_rr ((s1, es ++ [x], f)) ?_ (.of [5] (by (repeat' first | exact trivial | refine And.intro ?_ ?_ | rfl | exact congrArg (fun z : Int => some (AV.st (.int .i64 z))) (show ((f + 1 : Nat) : Int) - 1 = (f : Int) by omega)); first | done | fail) (by (repeat' first | exact trivial | refine And.intro ?_ ?_ | rfl | exact congrArg (fun z : Int => some (AV.st (.int .i64 z))) (show ((f + 1 : Nat) : Int) - 1 = (f : Int) by omega)); first | done | fail) rfl) ?_
          · exact Nat.lt_succ_self _
          · exact ⟨hle.1, by show (es ++ [x]).length + f ≤ 65536; rw [List.length_append, List.length_singleton]; omega, rfl⟩
        · exfalso; omega
end Go.Proofs.YtohmbpcjapjkbaaGreatDoorFn
namespace Go.Proofs.YtohmbpcjapjkbaaGreatDoorFn
open Go.Proofs.YtohmbpcjapjkbaaGreatDoorAl Go.Proofs.Tryz
attribute [local irreducible] IntKind.wrap CodeOk OpsL OpG ACalls thn inBlk rndR cutR WkR Wk fnR DW ExtOk partsOf
theorem b32 : HasBody prog 32 := ⟨f32, func32, Option.some_ne_none _, by decide⟩
theorem entsR_le (b : List UInt8) : ∀ (n : Nat) (s : RS) (acc : List EV), s.at_ ≤ b.length → (∀ e ∈ acc, e.path.size ≤ 4096 ∧ e.keys.length ≤ 65536) →
    (entsR b n s acc).2.at_ ≤ b.length ∧ (entsR b n s acc).1.length ≤ acc.length + n ∧ ∀ e ∈ (entsR b n s acc).1, e.path.size ≤ 4096 ∧ e.keys.length ≤ 65536
  | 0, s, acc, h, ha => ⟨h, Nat.le_refl _, ha⟩
  | n + 1, s, acc, h, ha => by
    rw [entsR]
    split
    · exact ⟨h, by simp, ha⟩
    · have he := entryR_le h
      have := entsR_le b n (entryR b s).2 (acc ++ [(entryR b s).1]) he.1 (fun e hm => by
        rcases List.mem_append.1 hm with hm | hm
        · exact ha e hm
        · rw [List.mem_singleton] at hm; subst hm; exact he.2)
      refine ⟨this.1, ?_, this.2.2⟩
      have h2 := this.2.1
      rw [List.length_append, List.length_singleton] at h2; omega
/-- What a reader brings. -/
def NV.red (s : NV) : Prop := s.name.size ≤ 4096 ∧ s.entries.length ≤ 65536 ∧ ∀ e ∈ s.entries, e.path.size ≤ 4096 ∧ e.keys.length ≤ 65536
theorem NV.red.fit {s : NV} (h : s.red) : s.fit := by
  obtain ⟨h1, h2, h3⟩ := h
  exact ⟨by omega, by omega, fun e he => by have := h3 e he; exact ⟨by omega, by omega⟩⟩
theorem snapR_le {b : List UInt8} {s : RS} (h : s.at_ ≤ b.length) : (snapR b s).2.at_ ≤ b.length ∧ (snapR b s).1.red := by
  have h1 := numR_le h
  have h2 := textR_le h1.1
  have h3 := numR_le h2.1
  simp only [snapR]
  generalize numR b s = r1 at *
  generalize textR b r1.2 = r2 at *
  generalize numR b r2.2 = r3 at *
  have h4 := numR_le (b := b) (s := ⟨r3.2.at_, r3.2.bad || decide ((r3.1 : Int) > 1)⟩) h3.1
  generalize numR b ⟨r3.2.at_, r3.2.bad || decide ((r3.1 : Int) > 1)⟩ = r4 at *
  have h5 := entsR_le b r4.1 r4.2 [] h4.1 (fun e he => by cases he)
  refine ⟨h5.1, h2.2, ?_, h5.2.2⟩
  have h6 := h5.2.1
  simp only [List.length_nil] at h6
  exact Nat.le_trans h6 (by omega)
def snapsR (b : List UInt8) : Nat → RS → List NV → List NV × RS
  | 0, s, acc => (acc, s)
  | n + 1, s, acc => if s.bad then (acc, s) else snapsR b n (snapR b s).2 (acc ++ [(snapR b s).1])
/-- The snapshots of bytes. -/
def getR (b : List UInt8) : Option (List NV) :=
  let r0 := numR b ⟨0, false⟩
  let r := snapsR b r0.1 r0.2 []
  if r.2.bad || decide (r.2.at_ < b.length) then none else if fromB r.1 then some r.1 else none
theorem get_no (b : List UInt8) (hb : b.length ≤ 4000000000) (hgr : getR b = none) : ACalls prog 32 0 [Bs b] [] fun r h => r = .tuple [.st .nilptr, errE 2] ∧ h = [] := by
  have hN := rnum_ok b ⟨0, false⟩ hb (Nat.zero_le _)
  have hle := numR_le (b := b) (s := ⟨0, false⟩) (Nat.zero_le _)
  simp only [getR] at hgr
  generalize numR b ⟨0, false⟩ = r0 at *
  obtain ⟨n, s0⟩ := r0
  simp only at *
  have hlb : (List.map rowB b).length = b.length := List.length_map _
  refine fnC lay_ok func32 rfl rfl rfl rfl rfl ?_
  repeat' first | refine stp lay_ok rfl ?_ | refine fin ?_ | refine n_thn ?_ | refine .seq ?_ | refine reg ?_ | refine .block ?_ | (refine o_none rfl ?_; refine st_callF 0 (hN) b65 rfl rfl rfl rfl rfl rfl (by (repeat' first | exact trivial | refine And.intro ?_ ?_ | rfl); first | done | fail) rfl ?_) | fail
  refine CodeOk.wk (Wk.nilT 4 5 rfl rfl) (Nat.le_succ _) ?_
  refine nrm rfl rfl ?_
  refine lpR (fun (s, l, f) => s.at_ ≤ b.length ∧ l.length + f ≤ 65536 ∧ snapsR b n s0 [] = snapsR b f s l ∧ (∀ e ∈ l, e.red)) (fun (s, l, f) => f) (fun (s, l, f) => [(6, I f), (5, .lsl 2 4 0 (l.map rowN).length)]) (fun (s, l, f) => [(0, rcell b s), (2, .arr 4 (l.map rowN))]) ((s0, [], n)) [0, 4] [0] [1] rfl rfl rfl (.of [1] (by (repeat' first | exact trivial | refine And.intro ?_ ?_ | rfl); first | done | fail) (by (repeat' first | exact trivial | refine And.intro ?_ ?_ | rfl); first | done | fail) rfl) ?_ ?_
  · exact ⟨hle.1, by simp; omega, rfl, fun e he => by cases he⟩
  rintro ⟨⟨q, bad⟩, l, f⟩ ⟨g1, g2, g3, g4⟩
  refine nrm rfl rfl ?_
  rw [g3] at hgr ⊢
  clear g3
  have hm : (List.map rowN l).length = l.length := List.length_map _
  cases f with
  | zero =>
    rw [snapsR] at hgr
    simp only at hgr
    cases bad with
    | true =>
      repeat' first | refine stp lay_ok rfl ?_ | refine fin ?_ | refine n_thn ?_ | refine e_thn ?_ | refine e_hit ?_ | refine r_thn ?_ | refine e_rr ?_ | refine .seq ?_ | refine reg ?_ | refine .ret ?_ | refine .exit ?_ | refine cndT rfl ?_ | refine cndF rfl ?_ | fail
      refine f_r [] rfl trivial rfl ⟨?_, rfl⟩; rfl
    | false =>
      by_cases hq : q < b.length
      · repeat' first | refine ln ?_ | refine stp lay_ok rfl ?_ | refine fin ?_ | refine n_thn ?_ | refine e_thn ?_ | refine e_hit ?_ | refine r_thn ?_ | refine e_rr ?_ | refine .seq ?_ | refine reg ?_ | refine .skip ?_ | refine .ret ?_ | refine .exit ?_ | refine cndF rfl ?_ | refine c_dec rfl (fun hc => ?_) (fun hc => ?_) | fail
        · refine f_r [] rfl trivial rfl ⟨?_, rfl⟩; rfl
        · exfalso; simp only at *; omega
      · simp only [Bool.false_or, decide_eq_true_eq, if_neg hq] at hgr
        have hfb : fromB l = false := by
          cases h : fromB l with
          | false => rfl
          | true => rw [if_pos h] at hgr; cases hgr
        have hfr := from_no l (by simp only [Nat.add_zero] at g2; omega) (fun s hs => (g4 s hs).fit) hfb
        repeat' first | refine o_frzA (f := 47) rfl rfl rfl rfl (by (repeat' first | exact trivial | refine And.intro ?_ ?_ | rfl); first | done | fail) (by (repeat' first | exact trivial | refine And.intro ?_ ?_ | rfl); first | done | fail) rfl rfl ?_ | refine ln ?_ | refine stp lay_ok rfl ?_ | refine fin ?_ | refine n_thn ?_ | refine e_thn ?_ | refine e_hit ?_ | refine r_thn ?_ | refine e_rr ?_ | refine .seq ?_ | refine reg ?_ | refine .skip ?_ | refine .ret ?_ | refine .exit ?_ | refine cndT rfl ?_ | refine cndF rfl ?_ | refine c_dec rfl (fun hc => ?_) (fun hc => ?_) | (refine o_none rfl ?_; refine st_pure (hfr) b47 rfl rfl rfl rfl ?_) | fail
        all_goals first
          | (exfalso; simp only at *; omega)
          | (refine f_r [] rfl trivial rfl ⟨?_, rfl⟩; rfl)
  | succ f =>
    cases bad with
    | true =>
      repeat' first | refine stp lay_ok rfl ?_ | refine fin ?_ | refine n_thn ?_ | refine e_thn ?_ | refine e_hit ?_ | refine r_thn ?_ | refine e_rr ?_ | refine .seq ?_ | refine reg ?_ | refine .ret ?_ | refine .exit ?_ | refine cndT rfl ?_ | refine cndF rfl ?_ | refine gd rfl rfl rfl (fun hg => ?_) (fun hg => ?_) | fail
      · refine f_r [] rfl trivial rfl ⟨?_, rfl⟩; rfl
      · exfalso; omega
    | false =>
      simp only [snapsR, if_neg (show ¬ (false = true) by simp)] at hgr
      rw [snapsR, if_neg (by simp)]
      have hE := rsnap_ok b ⟨q, false⟩ hb g1
      have hle := snapR_le (s := ⟨q, false⟩) g1
      generalize snapR b ⟨q, false⟩ = r1 at *
      obtain ⟨x, s1⟩ := r1
      simp only at *
      have hr : List.map rowN l ++ [rowN x] = List.map rowN (l ++ [x]) := by rw [List.map_append]; rfl
      repeat' first | refine wr (by omega) ?_ | refine ln ?_ | refine stp lay_ok rfl ?_ | refine fin ?_ | refine n_thn ?_ | refine n_blk ?_ | refine e_thn ?_ | refine e_hit ?_ | refine r_thn ?_ | refine e_rr ?_ | refine .seq ?_ | refine reg ?_ | refine .block ?_ | refine .skip ?_ | refine .ret ?_ | refine .exit ?_ | refine cndT rfl ?_ | refine cndF rfl ?_ | refine c_dec rfl (fun hc => ?_) (fun hc => ?_) | (refine o_none rfl ?_; (first | refine st_callF 0 (hE) b66 rfl rfl rfl rfl rfl rfl (by (repeat' first | exact trivial | refine And.intro ?_ ?_ | rfl); first | done | fail) rfl ?_ | refine st_append lay_ok rfl rfl rfl rfl rfl rfl rfl rfl (.lsl rfl rfl) (.sl (rows := [rowN x])) rfl (rowN_one (b := [x])) (by simp only [List.length_cons, List.length_nil]; omega) (by simp only [List.length_cons, List.length_nil]; omega) ?_)) | refine gd rfl rfl rfl (fun hg => ?_) (fun hg => ?_) | fail
      · rw [hr]
        refine n_rr ((s1, l ++ [x], f)) ?_ (.of [3] (by (repeat' first | exact trivial | refine And.intro ?_ ?_ | rfl | exact congrArg (fun z : Int => some (AV.st (.int .i64 z))) (show ((f + 1 : Nat) : Int) - 1 = (f : Int) by omega)); first | done | fail) (by (repeat' first | exact trivial | refine And.intro ?_ ?_ | rfl | exact congrArg (fun z : Int => some (AV.st (.int .i64 z))) (show ((f + 1 : Nat) : Int) - 1 = (f : Int) by omega)); first | done | fail) rfl) ?_
        · exact Nat.lt_succ_self _
        · refine ⟨hle.1, by show (l ++ [x]).length + f ≤ 65536; rw [List.length_append, List.length_singleton]; omega, rfl, fun e hm => ?_⟩
          rcases List.mem_append.1 hm with hm | hm
          · exact g4 e hm
          · rw [List.mem_singleton] at hm; subst hm; exact hle.2
      all_goals (exfalso; omega)
end Go.Proofs.YtohmbpcjapjkbaaGreatDoorFn
namespace Go.Proofs.YtohmbpcjapjkbaaGreatDoorFn
open Go.Proofs.YtohmbpcjapjkbaaGreatDoorAl Go.Proofs.Tryz
attribute [local irreducible] IntKind.wrap CodeOk OpsL OpG ACalls thn inBlk rndR cutR WkR Wk fnR DW ExtOk partsOf
theorem get_ok (b : List UInt8) (l0 : List NV) (hb : b.length ≤ 4000000000) (hgr : getR b = some l0) : ACalls prog 32 0 [Bs b] [] fun r h => r = .tuple [.ptr 0 0, nilE] ∧ h = [(0, .cells [.st (.sl 4 (l0.map rowN))])] := by
  have hN := rnum_ok b ⟨0, false⟩ hb (Nat.zero_le _)
  have hle := numR_le (b := b) (s := ⟨0, false⟩) (Nat.zero_le _)
  simp only [getR] at hgr
  generalize numR b ⟨0, false⟩ = r0 at *
  obtain ⟨n, s0⟩ := r0
  simp only at *
  have hlb : (List.map rowB b).length = b.length := List.length_map _
  refine fnC lay_ok func32 rfl rfl rfl rfl rfl ?_
  repeat' first | refine stp lay_ok rfl ?_ | refine fin ?_ | refine n_thn ?_ | refine .seq ?_ | refine reg ?_ | refine .block ?_ | (refine o_none rfl ?_; refine st_callF 0 (hN) b65 rfl rfl rfl rfl rfl rfl (by (repeat' first | exact trivial | refine And.intro ?_ ?_ | rfl); first | done | fail) rfl ?_) | fail
  refine CodeOk.wk (Wk.nilT 4 5 rfl rfl) (Nat.le_succ _) ?_
  refine nrm rfl rfl ?_
  refine lpR (fun (s, l, f) => s.at_ ≤ b.length ∧ l.length + f ≤ 65536 ∧ snapsR b n s0 [] = snapsR b f s l ∧ (∀ e ∈ l, e.red)) (fun (s, l, f) => f) (fun (s, l, f) => [(6, I f), (5, .lsl 2 4 0 (l.map rowN).length)]) (fun (s, l, f) => [(0, rcell b s), (2, .arr 4 (l.map rowN))]) ((s0, [], n)) [0, 4] [0] [1] rfl rfl rfl (.of [1] (by (repeat' first | exact trivial | refine And.intro ?_ ?_ | rfl); first | done | fail) (by (repeat' first | exact trivial | refine And.intro ?_ ?_ | rfl); first | done | fail) rfl) ?_ ?_
  · exact ⟨hle.1, by simp; omega, rfl, fun e he => by cases he⟩
  rintro ⟨⟨q, bad⟩, l, f⟩ ⟨g1, g2, g3, g4⟩
  refine nrm rfl rfl ?_
  rw [g3] at hgr ⊢
  clear g3
  have hm : (List.map rowN l).length = l.length := List.length_map _
  cases f with
  | zero =>
    rw [snapsR] at hgr
    simp only at hgr
    cases bad with
    | true => simp at hgr
    | false =>
      by_cases hq : q < b.length
      · simp [hq] at hgr
      · simp only [Bool.false_or, decide_eq_true_eq, if_neg hq] at hgr
        have hfb : fromB l = true := by
          cases h : fromB l with
          | true => rfl
          | false => rw [h] at hgr; simp at hgr
        rw [hfb, if_pos rfl] at hgr
        cases hgr
        have hfr := from_ok l0 (by simp only [Nat.add_zero] at g2; omega) (fun s hs => (g4 s hs).fit) hfb
        repeat' first | refine o_frzA (f := 47) rfl rfl rfl rfl (by (repeat' first | exact trivial | refine And.intro ?_ ?_ | rfl); first | done | fail) (by (repeat' first | exact trivial | refine And.intro ?_ ?_ | rfl); first | done | fail) rfl rfl ?_ | refine ln ?_ | refine stp lay_ok rfl ?_ | refine fin ?_ | refine n_thn ?_ | refine e_thn ?_ | refine e_hit ?_ | refine r_thn ?_ | refine e_rr ?_ | refine .seq ?_ | refine reg ?_ | refine .skip ?_ | refine .ret ?_ | refine .exit ?_ | refine cndF rfl ?_ | refine c_dec rfl (fun hc => ?_) (fun hc => ?_) | (refine o_none rfl ?_; refine st_callF 1 (hfr) b47 rfl rfl rfl rfl rfl rfl (by (repeat' first | exact trivial | refine And.intro ?_ ?_ | rfl); first | done | fail) rfl ?_) | fail
        all_goals first
          | (exfalso; simp only at *; omega)
          | (refine f_end (n0 := 1) (t'' := [(2, .ptr 0 0), (3, nilE)]) (h'' := [(0, .cells [.st (.sl 4 (l0.map rowN))])]) (WkR.of [3] (by (repeat' first | exact trivial | refine And.intro ?_ ?_ | rfl); first | done | fail) (by (repeat' first | exact trivial | refine And.intro ?_ ?_ | rfl); first | done | fail) rfl) rfl rfl ⟨?_, rfl⟩; rfl)
  | succ f =>
    cases bad with
    | true =>
      rw [snapsR, if_pos rfl] at hgr
      simp at hgr
    | false =>
      simp only [snapsR, if_neg (show ¬ (false = true) by simp)] at hgr
      rw [snapsR, if_neg (by simp)]
      have hE := rsnap_ok b ⟨q, false⟩ hb g1
      have hle := snapR_le (s := ⟨q, false⟩) g1
      generalize snapR b ⟨q, false⟩ = r1 at *
      obtain ⟨x, s1⟩ := r1
      simp only at *
      have hr : List.map rowN l ++ [rowN x] = List.map rowN (l ++ [x]) := by rw [List.map_append]; rfl
      repeat' first | refine wr (by omega) ?_ | refine ln ?_ | refine stp lay_ok rfl ?_ | refine fin ?_ | refine n_thn ?_ | refine n_blk ?_ | refine e_thn ?_ | refine e_hit ?_ | refine r_thn ?_ | refine e_rr ?_ | refine .seq ?_ | refine reg ?_ | refine .block ?_ | refine .skip ?_ | refine .ret ?_ | refine .exit ?_ | refine cndT rfl ?_ | refine cndF rfl ?_ | refine c_dec rfl (fun hc => ?_) (fun hc => ?_) | (refine o_none rfl ?_; (first | refine st_callF 0 (hE) b66 rfl rfl rfl rfl rfl rfl (by (repeat' first | exact trivial | refine And.intro ?_ ?_ | rfl); first | done | fail) rfl ?_ | refine st_append lay_ok rfl rfl rfl rfl rfl rfl rfl rfl (.lsl rfl rfl) (.sl (rows := [rowN x])) rfl (rowN_one (b := [x])) (by simp only [List.length_cons, List.length_nil]; omega) (by simp only [List.length_cons, List.length_nil]; omega) ?_)) | refine gd rfl rfl rfl (fun hg => ?_) (fun hg => ?_) | fail
      · rw [hr]
        refine n_rr ((s1, l ++ [x], f)) ?_ (.of [3] (by (repeat' first | exact trivial | refine And.intro ?_ ?_ | rfl | exact congrArg (fun z : Int => some (AV.st (.int .i64 z))) (show ((f + 1 : Nat) : Int) - 1 = (f : Int) by omega)); first | done | fail) (by (repeat' first | exact trivial | refine And.intro ?_ ?_ | rfl | exact congrArg (fun z : Int => some (AV.st (.int .i64 z))) (show ((f + 1 : Nat) : Int) - 1 = (f : Int) by omega)); first | done | fail) rfl) ?_
        · exact Nat.lt_succ_self _
        · refine ⟨hle.1, by show (l ++ [x]).length + f ≤ 65536; rw [List.length_append, List.length_singleton]; omega, rfl, fun e hm => ?_⟩
          rcases List.mem_append.1 hm with hm | hm
          · exact g4 e hm
          · rw [List.mem_singleton] at hm; subst hm; exact hle.2
      all_goals (exfalso; omega)
end Go.Proofs.YtohmbpcjapjkbaaGreatDoorFn
namespace Go.Proofs.YtohmbpcjapjkbaaGreatDoorFn
open Go.Proofs.YtohmbpcjapjkbaaGreatDoorAl Go.Proofs.Tryz
attribute [local irreducible] IntKind.wrap CodeOk OpsL OpG ACalls thn inBlk rndR cutR WkR Wk fnR DW ExtOk partsOf
theorem b143 : HasBody prog 143 := ⟨f143, func143, Option.some_ne_none _, by decide⟩
theorem b104 : HasBody prog 104 := ⟨f104, func104, Option.some_ne_none _, by decide⟩
theorem b102 : HasBody prog 102 := ⟨f102, func102, Option.some_ne_none _, by decide⟩
instance : Inhabited EV := ⟨⟨⟨#[]⟩, 0, []⟩⟩
abbrev ltC (cm : EV → EV → Int) (x y : EV) : Bool := decide (cm x y < 0)
abbrev fnG (g : Nat) : AV := .st (.fn (.func g) [] [])
/-! ### entries sorted by path -/
def cmS (a b : ByteArray) : Int := if strLt a b = true then -1 else if (!(strLt a b || decide (a = b))) = true then 1 else 0
def cmE (x y : EV) : Int := cmS x.path y.path
theorem nan_ok (a : ByteArray) : ACalls prog 143 0 [.st (.str a)] [] fun r h => r = B false ∧ h = [] := by
  refine fnC lay_ok func143 rfl rfl rfl rfl rfl ?_
  repeat' first | refine stp lay_ok rfl ?_ | refine fin ?_ | refine n_thn ?_ | refine .seq ?_ | refine reg ?_ | refine .ret ?_ | fail
  refine f_r [] rfl trivial rfl ⟨?_, rfl⟩
  simp only [ne_eq, not_true_eq_false, decide_false]
  rfl
theorem compare_ok (a b : ByteArray) : ACalls prog 104 0 [.st (.str a), .st (.str b)] [] fun r h => r = I (cmS a b) ∧ h = [] := by
  have h1 := nan_ok a
  have h2 := nan_ok b
  refine fnC lay_ok func104 rfl rfl rfl rfl rfl ?_
  repeat' first | refine stp lay_ok rfl ?_ | refine fin ?_ | refine n_thn ?_ | refine r_thn ?_ | refine .seq ?_ | refine reg ?_ | refine .skip ?_ | refine .ret ?_ | refine cndF rfl ?_ | refine cnd rfl (fun hc => ?_) (fun hc => ?_) | (refine o_none rfl ?_; (first | refine st_pure (h1) b143 rfl rfl rfl rfl ?_ | refine st_pure (h2) b143 rfl rfl rfl rfl ?_)) | fail
  · refine f_r [] rfl trivial rfl ⟨?_, rfl⟩
    rw [cmS, if_pos hc]; rfl
  · refine f_r [] rfl trivial rfl ⟨?_, rfl⟩
    rename_i hc1
    rw [cmS, hc1, if_neg (by simp)]
    rw [hc1] at hc
    rw [if_pos hc]; rfl
  · refine f_r [] rfl trivial rfl ⟨?_, rfl⟩
    rename_i hc1
    rw [cmS, hc1, if_neg (by simp)]
    rw [hc1] at hc
    rw [if_neg (by rw [hc]; simp)]; rfl
theorem cmE_lt (x y : EV) : ltC cmE x y = Sort.ltStr x.path.data.toList y.path.data.toList := by
  show decide (cmS x.path y.path < 0) = decide (x.path.data.toList < y.path.data.toList)
  rw [← Go.Proofs.bytesLess_eq]
  show _ = strLt x.path y.path
  unfold cmS
  cases h : strLt x.path y.path with
  | true => simp
  | false =>
    simp only [Bool.false_eq_true, if_false]
    split <;> simp
theorem cmE_swo : Sort.SWO (ltC cmE) where
  irrefl x := by rw [cmE_lt]; exact Sort.swo_ltStr.irrefl _
  trans x y z := by rw [cmE_lt, cmE_lt, cmE_lt]; exact Sort.swo_ltStr.trans _ _ _
  ntrans x y z := by rw [cmE_lt, cmE_lt, cmE_lt]; exact Sort.swo_ltStr.ntrans _ _ _
def srtE (l : List EV) : List EV := (Sort.pdq (ltC cmE) l.toArray 0 l.length (Sort.bitsLen l.length) true true).toList
theorem srtE_facts (l : List EV) : (srtE l).Perm l ∧ (srtE l).Pairwise fun x y => ltC cmE y x = false := by
  have h := Sort.pdq_sorts (ltC cmE) cmE_swo l.toArray 0 l.length (Sort.bitsLen l.length) true true (Nat.zero_le _) (by simp) (.inl rfl)
  unfold srtE
  generalize Sort.pdq (ltC cmE) l.toArray 0 l.length (Sort.bitsLen l.length) true true = d at *
  obtain ⟨⟨h1, _, h2⟩, h3⟩ := h
  have hs : d.size = l.length := by simpa using h1
  have ht : d.toList.take l.length = d.toList := List.take_of_length_le (by simp [hs])
  refine ⟨by have := h2; rw [hs.symm] at this; simpa [hs, ht] using this, ?_⟩
  rw [List.pairwise_iff_getElem]
  intro i j hi hj hij
  have := h3 i j (Nat.zero_le _) hij (by rw [← hs]; simpa using hj)
  rw [getElem!_pos d i (by simpa using hi), getElem!_pos d j (by simpa using hj)] at this
  simpa using this
theorem uwrap (n : Nat) (h : n < 2 ^ 64) : IntKind.u64.wrap (n : Int) = n := by
  simp [IntKind.wrap, IntKind.signed, IntKind.bits]; omega
end Go.Proofs.YtohmbpcjapjkbaaGreatDoorFn
namespace Go.Proofs.YtohmbpcjapjkbaaGreatDoorFn
open Go.Proofs.YtohmbpcjapjkbaaGreatDoorAl Go.Proofs.Tryz Go.RowKit Go.Lib Go.Sort
/-! ### entries sorted: by the library's contract -/
set_option maxHeartbeats 1000000 in
theorem nan_raw (a : ByteArray) (W : World) : Calls prog 143 #[.string a] W fun e w' => e = .returned (.bool false) ∧ w' = W := by
  go_enter func143, ntmps143
  go_wp2_with fail
  go_ret
  exact ⟨by simp, rfl⟩
set_option maxHeartbeats 1000000 in
theorem compare_raw (a b : ByteArray) (W : World) : Calls prog 104 #[.string a, .string b] W fun e w' => e = .returned (.int .i64 (cmS a b)) ∧ w' = W := by
  have hcm : cmS a b = if strLt a b = true then -1 else if (!(strLt a b || decide (a = b))) = true then 1 else 0 := rfl
  unfold strLt at hcm
  generalize cmS a b = r at *
  go_enter func104, ntmps104
  go_wp2_with (go_at_call 143; refine (nan_raw _ _).mono ?_; rintro e w' ⟨rfl, rfl⟩)
  · go_ret
    rename_i h1
    rw [ByteArray.toList_eq, ByteArray.toList_eq] at h1
    rw [if_pos h1] at hcm
    subst hcm
    exact ⟨by simp, rfl⟩
  · go_ret
    rename_i h1 _ _ h2
    rw [ByteArray.toList_eq, ByteArray.toList_eq] at h1 h2
    rw [h1, if_neg (by simp), if_pos (by simpa [← bytes_eq, ByteArray.toList_eq] using h2)] at hcm
    subst hcm
    exact ⟨by simp, rfl⟩
  · go_ret
    rename_i h1 h2
    rw [ByteArray.toList_eq, ByteArray.toList_eq] at h1 h2
    rw [h1, if_neg (by simp), if_neg (by simpa [← bytes_eq, ByteArray.toList_eq] using h2)] at hcm
    subst hcm
    exact ⟨by simp, rfl⟩
set_option maxHeartbeats 1000000 in
theorem add2_raw (x y : EV) (vx vy : Value) (W : World) : Calls prog 103 #[.agg #[.string x.path, .int .i64 x.size, vx], .agg #[.string y.path, .int .i64 y.size, vy]] W fun e w' => e = .returned (.int .i64 (cmE x y)) ∧ ∃ q os', w' = grow (W.drewN q) os' := by
  have hcon := fun W' => compare_raw x.path y.path W'
  change ∀ W', Calls prog 104 _ _ _ at hcon
  show Calls prog _ _ W fun e w' => e = .returned (.int .i64 (cmS x.path y.path)) ∧ _
  generalize cmS x.path y.path = r at hcon ⊢
  go_enter func103, ntmps103
  go_wp2_with (go_at_call 104; refine (hcon _).mono ?_; rintro e w' ⟨rfl, rfl⟩)
  go_ret
  exact ⟨by simp, 0, _, by rw [alloc_eq_grow, alloc_eq_grow, grow_grow]; rfl⟩
end Go.Proofs.YtohmbpcjapjkbaaGreatDoorFn
