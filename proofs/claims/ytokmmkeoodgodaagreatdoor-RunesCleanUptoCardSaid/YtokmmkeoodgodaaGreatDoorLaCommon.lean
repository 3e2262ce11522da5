/-
  WHAT THE LAWS OF THIS SEAT SHARE: the two listed tables of unicode/utf8, read out of a row's list, and a world that holds them.
-/
import Derived.Test.YtokmmkeoodgodaaGreatDoorCards
import Derived.Test.YtokmmkeoodgodaaGreatDoorTie
import Derived.Test.YtokmmkeoodgodaaGreatDoorRuDefs
import Derived.WalkKit
import Derived.ProofKit
import Derived.OpenShut
import Derived.Deep.DeepHandedRow
import Derived.Deep.DeepWitnessRowRef
import Derived.Lib.LaidTab
import Derived.Lib.LaidIn
import Derived.Lib.LaidU8T
import Derived.SizedLaws
namespace Go.Proofs.YtokmmkeoodgodaaGreatDoor
open Go.ChangeShapes Go.WideShapes Go.ChangeAt Go.RowKit Go.Shelf

theorem own : ownKnob Tryz.prog.godebug = none := by kernel_rfl

def renU8 : Go.Shelf.Ren := ⟨fun n => n, fun | 5 => 5 | 119 => 98 | 138 => 100 | 139 => 101 | n => n, fun | 3 => 0 | 4 => 1 | n => n⟩

/-- the list of each row of this seat -/
def listed : List (String × DataW Unit) := [("unicode/utf8.acceptRanges", Rows.laid_unicode_utf8_acceptRanges), ("unicode/utf8.first", Rows.laid_unicode_utf8_first)]
theorem listed_is : listed = [("unicode/utf8.acceptRanges", Lib.acceptData), ("unicode/utf8.first", Lib.firstData)] := by kernel_rfl

/-- WHAT A ROW's LIST GIVES. -/
theorem tabs {W : World} (h : laidMet Tryz.prog listed W) : TT W := by
  rw [listed_is] at h
  exact utf8Tabs_of_readsT (ρ := renU8) ⟨Tryz.underlying5, Tryz.underlying98, Tryz.underlying100, Tryz.underlying101⟩ ⟨by kernel_rfl, by kernel_rfl, by kernel_rfl, by kernel_rfl, by kernel_rfl, by kernel_rfl, by kernel_rfl⟩ (Lib.laidMet.reads h (.tail _ (.head _))) (Lib.laidMet.reads h (.head _))

/-- A WORLD FOR THE WITNESSES: the settled one, the two variables holding what their initialisers lay. -/
noncomputable def laidWorld (os : Os) : World :=
  let w0 := World.holding Tryz.prog os ⟨#[], #[], []⟩
  let put (h : Array Obj) (g : Nat) (cs : Array Value) : Array Obj := h.modify g fun
    | .cells _ t frozen => .cells cs t frozen
    | o => o
  let h1 := put w0.heap 0 (Lib.firstTab.map fun z => Value.int .u8 z).toArray
  let h2 := put h1 1 ((List.range 16).flatMap fun i => [Value.int .u8 (Lib.accLo i), Value.int .u8 (Lib.accHi i)]).toArray
  { w0 with heap := h2 }
theorem laid_met (os : Os) (args : Array Value) : laidMet Tryz.prog listed ((laidWorld os).forCall (fun _ _ => 0) ⟨#[], args, []⟩).memory := by
  rw [listed_is]
  exact (LaidIn.of_run (l := [("unicode/utf8.acceptRanges", Lib.acceptData), ("unicode/utf8.first", Lib.firstData)]) [1, 0] 8 (by kernel_rfl) (by kernel_rfl) (by kernel_rfl) (by kernel_rfl)).met
end Go.Proofs.YtokmmkeoodgodaaGreatDoor
