/- Quiet answers; words as values. (For seats without a heap: there HeapPure, HeapRead and HeapSet hold these.) -/
import Derived.Test.YtkjfplldfjmbaaaProg
import Derived.Test.YtkjfplldfjmbaaaSep5
namespace Go.Proofs.Ytkjfplldfjmbaaa
open Go.RowKit
abbrev u64 (x : Int) : Value := .int .u64 x
abbrev i64 (x : Int) : Value := .int .i64 x
def Says (v : Value) (w : World) (e : Ending) (w' : World) : Prop := e = .returned v ∧ ∃ n, w' = w.drewN n
theorem says_ret {v v' : Value} {w : World} {n : Nat} (h : v = v') : Says v' w (.returned v) (w.drewN n) := ⟨by rw [h], n, rfl⟩
theorem says_ret0 {v v' : Value} {w : World} (h : v = v') : Says v' w (.returned v) w := ⟨by rw [h], 0, rfl⟩
theorem Calls.said {P : Program} {f : FuncId} {args : Array Value} {w : World} {v : Value} {n : Nat} (h : Calls P f args (w.drewN n) (Says v (w.drewN n))) :
    Calls P f args (w.drewN n) fun e w'' => e = .returned v ∧ ∃ m, w'' = w.drewN m := Calls.quiet_of h
theorem drewN_below0 (w : World) (n : Nat) : Below 0 w (w.drewN n) := ⟨rfl, rfl, rfl, Nat.le_refl _, fun _ _ => rfl⟩
/-- The walk halts here: the goal is behind a name. -/
def Halt' (p : Prop) : Prop := p
theorem halt {p : Prop} (h : Halt' p) : p := h
theorem goon {p : Prop} (h : p) : Halt' p := h
end Go.Proofs.Ytkjfplldfjmbaaa
