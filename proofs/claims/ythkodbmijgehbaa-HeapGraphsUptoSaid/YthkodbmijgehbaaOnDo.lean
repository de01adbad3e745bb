/- do: any call of a script keeps the pair of heaps. -/
import Derived.Test.YthkodbmijgehbaaOnDoNew
import Derived.Test.YthkodbmijgehbaaOnDoSet
import Derived.Test.YthkodbmijgehbaaOnDoSetRaw
import Derived.Test.YthkodbmijgehbaaOnDoGet
import Derived.Test.YthkodbmijgehbaaOnDoRaw
import Derived.Test.YthkodbmijgehbaaOnDoGc
import Derived.Test.YthkodbmijgehbaaOnDoIs
namespace Go.Proofs.Ythkodbmijgehbaa
open Go.RowKit

/-- A call of a script, as it came in. -/
structure OpD where
  kd : Int
  a : Int
  b : Int
  c : Int
  xw : Int
  obj : Bool
  ao : Option Addr
  len : Nat
  cap : Nat
  rs : List Int
def OpD.cells (x : OpD) : Array Value := opCells x.kd x.a x.b x.c x.xw x.obj x.ao x.len x.cap
structure OpD.Ok (x : OpD) (R : HP) : Prop where
  w0 : 0 ≤ x.xw
  w1 : x.xw < 18446744073709551616
  len : x.rs.length = x.len
  bd : x.len + 1 ≤ 17592186044416
  rs : RsIn R x.ao x.rs

section
variable {w : World} {O : OV} {V : HV} {V2 : RV} {S : HS} {R : HP}
theorem OnW.doit (h : OnW w O V V2 S R) (x : OpD) (hx : x.Ok R) (ht : S.times < 4611686018427387900) :
    Calls Try.prog 37 #[.pointer (some ⟨O.g, 0, none⟩), .agg x.cells] w (DoPost O S R w) := by
  have hp := place_bd x.kd 7 (by decide)
  have hc : place x.kd 7 = 0 ∨ place x.kd 7 = 1 ∨ place x.kd 7 = 2 ∨ place x.kd 7 = 3 ∨ place x.kd 7 = 4 ∨ place x.kd 7 = 5 ∨ place x.kd 7 = 6 := by omega
  unfold OpD.cells
  rcases hc with e | e | e | e | e | e | e
  · exact h.do_new _ _ _ _ _ _ _ _ _ hx.w0 hx.w1 e
  · exact h.do_set _ _ _ _ _ _ _ _ _ hx.w0 hx.w1 e
  · exact h.do_setraw _ _ _ _ _ _ _ _ _ hx.w0 hx.w1 e
  · exact h.do_get _ _ _ _ _ _ _ _ _ hx.w0 hx.w1 e
  · exact h.do_getraw _ _ _ _ _ _ _ _ _ hx.w0 hx.w1 e
  · exact h.do_gc _ _ _ _ _ _ _ _ _ hx.w0 hx.w1 e x.rs (Lib.hid ⟨hx.len, hx.bd, hx.rs⟩) ht
  · exact h.do_is _ _ _ _ _ _ _ _ _ hx.w0 hx.w1 e
end
end Go.Proofs.Ythkodbmijgehbaa
