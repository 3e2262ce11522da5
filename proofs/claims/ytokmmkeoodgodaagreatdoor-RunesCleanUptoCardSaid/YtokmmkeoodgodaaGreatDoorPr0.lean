/- Lean functions for Go functions of the program, and proofs that the Go code comes to their answers. By a program (wip/pp/pp.py, round the kit's print). -/
import Derived.Test.YtokmmkeoodgodaaGreatDoorProg
import Derived.Below
import Derived.Deep.Draws
import Derived.Deep.AppendLies
import Derived.Maps.AppendAt
import Derived.OwnWalk
import Derived.Laws.BytesArg
import Derived.Laws.MakeOwn
import Derived.Laws.OwnMore
import Derived.Deep.OwnRows
import Derived.Tactics
import Derived.Lib.ConvBytes
import Derived.Laws.Slices
import Derived.WalkKit
import Derived.KernelRfl
import Derived.RowKit3
import Derived.Deep.LoopGhost
import Derived.Deep.QuietTactic
import Derived.BigQuiet
import Derived.WideLaws
import Derived.Deep.DeepCutAuto
import Derived.Deep.CutBlock
import Derived.Deep.RegionHeld3
import Derived.Laws.Rows
import Derived.Lib.AppendStr
import Derived.ArgAppend
import Derived.Laws.IdiomCopy
import Derived.OrdersHeld
import Derived.Laws.BitsLemmas
import Derived.RowKit
import Derived.Test.YtokmmkeoodgodaaGreatDoorRuGiven
import Derived.Test.YtokmmkeoodgodaaGreatDoorRuShown
import Derived.Test.YtokmmkeoodgodaaGreatDoorWWords
import Derived.Test.YtokmmkeoodgodaaGreatDoorWLast
import Derived.Test.YtokmmkeoodgodaaGreatDoorWTab
import Derived.Test.YtokmmkeoodgodaaGreatDoorWFour
import Derived.Test.YtokmmkeoodgodaaGreatDoorWQPut
import Derived.Test.YtokmmkeoodgodaaGreatDoorWApart
import Derived.Test.YtokmmkeoodgodaaGreatDoorWArr
import Derived.Test.YtokmmkeoodgodaaGreatDoorWZeros
import Derived.Test.YtokmmkeoodgodaaGreatDoorWFoot
import Derived.Test.YtokmmkeoodgodaaGreatDoorWKept
import Derived.Test.YtokmmkeoodgodaaGreatDoorWShare
import Derived.Test.YtokmmkeoodgodaaGreatDoorWN
import Derived.Test.YtokmmkeoodgodaaGreatDoorWFootNe
import Derived.Test.YtokmmkeoodgodaaGreatDoorWAt
import Derived.Test.YtokmmkeoodgodaaGreatDoorWEqStruct
import Derived.Test.YtokmmkeoodgodaaGreatDoorWRepsOne
import Derived.Test.YtokmmkeoodgodaaGreatDoorWInv
import Derived.Test.YtokmmkeoodgodaaGreatDoorWInvWords
import Derived.Test.YtokmmkeoodgodaaGreatDoorWGuard
import Derived.Test.YtokmmkeoodgodaaGreatDoorWNEv
import Derived.Test.YtokmmkeoodgodaaGreatDoorWMore
namespace Go.Proofs.YtokmmkeoodgodaaGreatDoor.Pr
open Go.RowKit Go.Proofs.YtokmmkeoodgodaaGreatDoorW.PrintWords Go.Proofs.YtokmmkeoodgodaaGreatDoorW.PrintLast Go.Proofs.YtokmmkeoodgodaaGreatDoorW.PrintMore
attribute [local go_sem] max2_int min2_int max_two min_two max_three min_three max_four min_four   -- for this text's walks alone
set_option linter.unusedVariables false
set_option linter.unusedSimpArgs false



def errW : Option Int → Value
  | none => .nilIface
  | some c => .iface 0 (.int .i64 c)
theorem errW_none : errW none = .nilIface := rfl
theorem errW_some (c : Int) : errW (some c) = .iface 0 (.int .i64 c) := rfl

theorem info5 : (Tryz.prog.info? 5).map (fun i => (i.zero, i.size, i.bytes)) = some (some (.int .u8 0), 1, 1) := by kernel_rfl
-- the values' own types

end Go.Proofs.YtokmmkeoodgodaaGreatDoor.Pr
