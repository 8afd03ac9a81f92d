-- Written by wip/x/xprint.py (an own program, over the kit's print).
import Derived.Test.YtdhedlkfpdakpaaProg
import Derived.Below
import Derived.Deep.Draws
import Derived.Deep.AppendLies
import Derived.Maps.AppendAt
import Derived.OwnWalk
import Derived.Laws.BytesArg
import Derived.Laws.MakeOwn
import Derived.Laws.OwnMore
import Derived.Deep.OwnRows
import Derived.Tactics
import Derived.Lib.ConvBytes
import Derived.Laws.Slices
import Derived.WalkKit
import Derived.KernelRfl
import Derived.RowKit3
import Derived.Deep.LoopGhost
import Derived.Deep.QuietTactic
import Derived.BigQuiet
import Derived.WideLaws
import Derived.Deep.DeepCutAuto
import Derived.Deep.CutBlock
import Derived.Deep.RegionHeld3
import Derived.Laws.Rows
import Derived.Lib.AppendStr
import Derived.ArgAppend
import Derived.Laws.IdiomCopy
import Derived.OrdersHeld
import Derived.Laws.BitsLemmas
import Derived.RowKit
import Derived.Test.YtdhedlkfpdakpaaWWords
import Derived.Test.YtdhedlkfpdakpaaWLast
import Derived.Test.YtdhedlkfpdakpaaWTab
import Derived.Test.YtdhedlkfpdakpaaWFour
import Derived.Test.YtdhedlkfpdakpaaWQPut
import Derived.Test.YtdhedlkfpdakpaaWApart
import Derived.Test.YtdhedlkfpdakpaaWArr
import Derived.Test.YtdhedlkfpdakpaaWZeros
import Derived.Test.YtdhedlkfpdakpaaWFoot
import Derived.Test.YtdhedlkfpdakpaaWKept
import Derived.Test.YtdhedlkfpdakpaaWShare
import Derived.Test.YtdhedlkfpdakpaaWN
import Derived.Test.YtdhedlkfpdakpaaWFootNe
import Derived.Test.YtdhedlkfpdakpaaWAt
import Derived.Test.YtdhedlkfpdakpaaWEqStruct
import Derived.Test.YtdhedlkfpdakpaaWRepsOne
import Derived.Test.YtdhedlkfpdakpaaWInv
import Derived.Test.YtdhedlkfpdakpaaWInvWords
import Derived.Test.YtdhedlkfpdakpaaWGuard
import Derived.Test.YtdhedlkfpdakpaaWNEv
import Derived.Test.YtdhedlkfpdakpaaWMore
import Derived.Test.YtdhedlkfpdakpaaXW
namespace Go.Proofs.Ytdhedlkfpdakpaa.QEventReads
open Go.RowKit Go.Proofs.YtdhedlkfpdakpaaW.PrintWords Go.Proofs.YtdhedlkfpdakpaaW.PrintLast Go.Proofs.YtdhedlkfpdakpaaW.PrintMore
attribute [local go_sem] max2_int min2_int max_two min_two max_three min_three max_four min_four   -- for this text's walks alone
set_option linter.unusedVariables false
set_option linter.unusedSimpArgs false



def errW : Option Int → Value
  | none => .nilIface
  | some c => .iface 0 (.int .i64 c)
theorem errW_none : errW none = .nilIface := rfl
theorem errW_some (c : Int) : errW (some c) = .iface 0 (.int .i64 c) := rfl

theorem info5 : (Try.prog.info? 5).map (fun i => (i.zero, i.size, i.bytes)) = some (some (.int .u8 0), 1, 1) := by kernel_rfl
-- the values' own types

end Go.Proofs.Ytdhedlkfpdakpaa.QEventReads
