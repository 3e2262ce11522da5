/- Lean functions for Go functions of the program, and proofs that the Go code comes to their answers. By a program (wip/pp/pp.py, round the kit's print). -/
import Derived.Test.YtokmmkeoodgodaaDoorProg
import Derived.Below
import Derived.Deep.Draws
import Derived.Deep.AppendLies
import Derived.Maps.AppendAt
import Derived.OwnWalk
import Derived.Laws.BytesArg
import Derived.Laws.MakeOwn
import Derived.Laws.OwnMore
import Derived.Deep.OwnRows
import Derived.Tactics
import Derived.Lib.ConvBytes
import Derived.Laws.Slices
import Derived.WalkKit
import Derived.KernelRfl
import Derived.RowKit3
import Derived.Deep.LoopGhost
import Derived.Deep.QuietTactic
import Derived.BigQuiet
import Derived.WideLaws
import Derived.Deep.DeepCutAuto
import Derived.Deep.CutBlock
import Derived.Deep.RegionHeld3
import Derived.Laws.Rows
import Derived.Lib.AppendStr
import Derived.ArgAppend
import Derived.Laws.IdiomCopy
import Derived.OrdersHeld
import Derived.Laws.BitsLemmas
import Derived.RowKit
import Derived.Test.YtokmmkeoodgodaaDoorRuGiven
import Derived.Test.YtokmmkeoodgodaaDoorRuShown
import Derived.Test.YtokmmkeoodgodaaDoorWWords
import Derived.Test.YtokmmkeoodgodaaDoorWLast
import Derived.Test.YtokmmkeoodgodaaDoorWTab
import Derived.Test.YtokmmkeoodgodaaDoorWFour
import Derived.Test.YtokmmkeoodgodaaDoorWQPut
import Derived.Test.YtokmmkeoodgodaaDoorWApart
import Derived.Test.YtokmmkeoodgodaaDoorWArr
import Derived.Test.YtokmmkeoodgodaaDoorWZeros
import Derived.Test.YtokmmkeoodgodaaDoorWFoot
import Derived.Test.YtokmmkeoodgodaaDoorWKept
import Derived.Test.YtokmmkeoodgodaaDoorWShare
import Derived.Test.YtokmmkeoodgodaaDoorWN
import Derived.Test.YtokmmkeoodgodaaDoorWFootNe
import Derived.Test.YtokmmkeoodgodaaDoorWAt
import Derived.Test.YtokmmkeoodgodaaDoorWEqStruct
import Derived.Test.YtokmmkeoodgodaaDoorWRepsOne
import Derived.Test.YtokmmkeoodgodaaDoorWInv
import Derived.Test.YtokmmkeoodgodaaDoorWInvWords
import Derived.Test.YtokmmkeoodgodaaDoorWGuard
import Derived.Test.YtokmmkeoodgodaaDoorWNEv
import Derived.Test.YtokmmkeoodgodaaDoorWMore
namespace Go.Proofs.YtokmmkeoodgodaaDoor.Pr
open Go.RowKit Go.Proofs.YtokmmkeoodgodaaDoorW.PrintWords Go.Proofs.YtokmmkeoodgodaaDoorW.PrintLast Go.Proofs.YtokmmkeoodgodaaDoorW.PrintMore
attribute [local go_sem] max2_int min2_int max_two min_two max_three min_three max_four min_four   -- for this text's walks alone
set_option linter.unusedVariables false
set_option linter.unusedSimpArgs false



def errW : Option Int → Value
  | none => .nilIface
  | some c => .iface 0 (.int .i64 c)
theorem errW_none : errW none = .nilIface := rfl
theorem errW_some (c : Int) : errW (some c) = .iface 0 (.int .i64 c) := rfl

theorem info5 : (Tryd.prog.info? 5).map (fun i => (i.zero, i.size, i.bytes)) = some (some (.int .u8 0), 1, 1) := by kernel_rfl
theorem info9 : (Tryd.prog.info? 9).map (fun i => (i.zero, i.size, i.bytes)) = some (some (.string ⟨#[]⟩), 1, 16) := by kernel_rfl
-- the values' own types

end Go.Proofs.YtokmmkeoodgodaaDoor.Pr
