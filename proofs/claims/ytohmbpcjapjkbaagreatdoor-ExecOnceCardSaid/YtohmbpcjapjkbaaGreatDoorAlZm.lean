/- The A-logic: bytes made a text, rows told apart. -/
import Derived.Test.YtohmbpcjapjkbaaGreatDoorAlZl
set_option linter.all false
namespace Go.Proofs.YtohmbpcjapjkbaaGreatDoorAl
section
variable {P : Program} {ops : Array Oper} {j : Nat} {l : List Oper} {q : S → Prop} {N n : Nat} {t : Tm} {h : Heap} {d : Nat} {ty : TypeId} {pos : String} {af : Array Edge} {g : Option (Nat × Bool)} {L : Lay}
theorem st_strOfE {t1 t2 e bytes : Nat} {x : Operand} {b : List UInt8} {rows : List (List SV)} {i1 i2 ie : TI} (hrows : rows = b.map rowB) (hL : LayOk P L) (hx : evT t x = some (.st (.sl 1 rows))) (ht : look L t1 = some i1) (hk : i1.k = .slice e 1 bytes) (hte : look L e = some ie) (hke : ie.k = .int .u8)
    (hu : look L t2 = some i2) (hk2 : i2.k = .string) (k : OpsL P ops (j + 1) l ⟨N, n, (d, .st (.str (strOf b))) :: t, h⟩ q) : OpG P ops j ⟨some d, .convert t1 t2 x, ty, pos, af, g⟩ l ⟨N, n, t, h⟩ q :=
  st_strOf hL (hrows ▸ hx) ht hk hte hke hu hk2 k
end
end Go.Proofs.YtohmbpcjapjkbaaGreatDoorAl
