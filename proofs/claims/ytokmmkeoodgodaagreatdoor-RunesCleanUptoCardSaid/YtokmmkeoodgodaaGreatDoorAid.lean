/-
  SMALL LEMMAS on calls that only read, worlds that were drawn from, and what lies below a block.
-/
import Derived.Below
import Derived.Deep.QuietTactic
import Derived.Deep.Draws
import Derived.Lib.Hide
namespace Go.Proofs.YtokmmkeoodgodaaGreatDoor.aid
open Go.RowKit
theorem below_drewN {B : Nat} {a w : World} (h : Below B a w) (n : Nat) : Below B a (w.drewN n) := ⟨h.os, h.tape, h.output, h.size, h.block⟩
/-- a call that leaves the world as it was, inside a region that draws, behind draws -/
theorem quiet2 {P : Program} {f : FuncId} {args : Array Value} {w : World} {a n : Nat} {v : Value}
    (h : Calls P f args (w.drewN (a + n)) fun e w' => e = .returned v ∧ w' = w.drewN (a + n)) :
    Calls P f args (w.drewN (a + n)) fun e w'' => e = .returned v ∧ ∃ m, w'' = w.drewN (a + m) :=
  h.mono fun _ _ ⟨he, hm⟩ => ⟨he, n, hm⟩
end Go.Proofs.YtokmmkeoodgodaaGreatDoor.aid
