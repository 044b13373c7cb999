/- Functions of the given program as plain Lean functions, and that the Go code answers what they tell (a law's row: the given statement, out of its plain form). Conditions: none beyond each theorem's own premises. Written by this repo's program wip/myprint.py. -/
import Derived.Test.YtcflcmoblngfbaaProg
import Derived.Below
import Derived.Deep.Draws
import Derived.Deep.AppendLies
import Derived.Maps.AppendAt
import Derived.OwnWalk
import Derived.Laws.BytesArg
import Derived.Laws.MakeOwn
import Derived.Laws.OwnMore
import Derived.Deep.OwnRows
import Derived.Tactics
import Derived.Lib.ConvBytes
import Derived.Laws.Slices
import Derived.WalkKit
import Derived.KernelRfl
import Derived.RowKit3
import Derived.Deep.LoopGhost
import Derived.Deep.QuietTactic
import Derived.BigQuiet
import Derived.WideLaws
import Derived.Deep.DeepCutAuto
import Derived.Deep.CutBlock
import Derived.Deep.RegionHeld3
import Derived.Laws.Rows
import Derived.Lib.AppendStr
import Derived.ArgAppend
import Derived.Laws.IdiomCopy
import Derived.OrdersHeld
import Derived.Laws.BitsLemmas
import Derived.RowKit
import Derived.Test.YtcflcmoblngfbaaWWords
import Derived.Test.YtcflcmoblngfbaaWLast
import Derived.Test.YtcflcmoblngfbaaWTab
import Derived.Test.YtcflcmoblngfbaaWFour
import Derived.Test.YtcflcmoblngfbaaWQPut
import Derived.Test.YtcflcmoblngfbaaWApart
import Derived.Test.YtcflcmoblngfbaaWArr
import Derived.Test.YtcflcmoblngfbaaWZeros
import Derived.Test.YtcflcmoblngfbaaWFoot
import Derived.Test.YtcflcmoblngfbaaWKept
import Derived.Test.YtcflcmoblngfbaaWShare
import Derived.Test.YtcflcmoblngfbaaWN
import Derived.Test.YtcflcmoblngfbaaWFootNe
import Derived.Test.YtcflcmoblngfbaaWAt
import Derived.Test.YtcflcmoblngfbaaWEqStruct
import Derived.Test.YtcflcmoblngfbaaWRepsOne
import Derived.Test.YtcflcmoblngfbaaWInv
import Derived.Test.YtcflcmoblngfbaaWInvWords
import Derived.Test.YtcflcmoblngfbaaWGuard
import Derived.Test.YtcflcmoblngfbaaWNEv
import Derived.Test.YtcflcmoblngfbaaWMore
namespace Go.Proofs.Ytcflcmoblngfbaa.PB
open Go.RowKit Go.Proofs.YtcflcmoblngfbaaW.PrintWords Go.Proofs.YtcflcmoblngfbaaW.PrintLast Go.Proofs.YtcflcmoblngfbaaW.PrintMore
attribute [local go_sem] max2_int min2_int max_two min_two max_three min_three max_four min_four   -- for this text's walks alone
set_option linter.unusedVariables false
set_option linter.unusedSimpArgs false



def errW : Option Int → Value
  | none => .nilIface
  | some c => .iface 0 (.int .i64 c)
theorem errW_none : errW none = .nilIface := rfl
theorem errW_some (c : Int) : errW (some c) = .iface 0 (.int .i64 c) := rfl

-- the values' own types

end Go.Proofs.Ytcflcmoblngfbaa.PB
