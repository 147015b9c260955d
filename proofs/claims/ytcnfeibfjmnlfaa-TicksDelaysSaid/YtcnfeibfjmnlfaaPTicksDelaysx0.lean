/- What calls of the named Go functions come to, and the row of the law, written by this session's own program out of the translation. Conditions: those that each theorem names, and for the row none beyond the given statement's own. -/
import Derived.Test.YtcnfeibfjmnlfaaProg
import Derived.Below
import Derived.Deep.Draws
import Derived.Deep.AppendLies
import Derived.Maps.AppendAt
import Derived.OwnWalk
import Derived.Laws.BytesArg
import Derived.Laws.MakeOwn
import Derived.Laws.OwnMore
import Derived.Deep.OwnRows
import Derived.Tactics
import Derived.Lib.ConvBytes
import Derived.Laws.Slices
import Derived.WalkKit
import Derived.KernelRfl
import Derived.RowKit3
import Derived.Deep.LoopGhost
import Derived.Deep.QuietTactic
import Derived.BigQuiet
import Derived.WideLaws
import Derived.Deep.DeepCutAuto
import Derived.Deep.CutBlock
import Derived.Deep.RegionHeld3
import Derived.Laws.Rows
import Derived.Lib.AppendStr
import Derived.ArgAppend
import Derived.Laws.IdiomCopy
import Derived.OrdersHeld
import Derived.Laws.BitsLemmas
import Derived.RowKit
import Derived.Laws.Externs
import Derived.Test.YtcnfeibfjmnlfaaWWords
import Derived.Test.YtcnfeibfjmnlfaaWLast
import Derived.Test.YtcnfeibfjmnlfaaWTab
import Derived.Test.YtcnfeibfjmnlfaaWFour
import Derived.Test.YtcnfeibfjmnlfaaWQPut
import Derived.Test.YtcnfeibfjmnlfaaWApart
import Derived.Test.YtcnfeibfjmnlfaaWArr
import Derived.Test.YtcnfeibfjmnlfaaWZeros
import Derived.Test.YtcnfeibfjmnlfaaWFoot
import Derived.Test.YtcnfeibfjmnlfaaWKept
import Derived.Test.YtcnfeibfjmnlfaaWShare
import Derived.Test.YtcnfeibfjmnlfaaWN
import Derived.Test.YtcnfeibfjmnlfaaWFootNe
import Derived.Test.YtcnfeibfjmnlfaaWAt
import Derived.Test.YtcnfeibfjmnlfaaWEqStruct
import Derived.Test.YtcnfeibfjmnlfaaWRepsOne
import Derived.Test.YtcnfeibfjmnlfaaWInv
import Derived.Test.YtcnfeibfjmnlfaaWInvWords
import Derived.Test.YtcnfeibfjmnlfaaWGuard
import Derived.Test.YtcnfeibfjmnlfaaWNEv
import Derived.Test.YtcnfeibfjmnlfaaWMore
namespace Go.Proofs.Ytcnfeibfjmnlfaa.PTicksDelays
open Go.RowKit Go.Proofs.YtcnfeibfjmnlfaaW.PrintWords Go.Proofs.YtcnfeibfjmnlfaaW.PrintLast Go.Proofs.YtcnfeibfjmnlfaaW.PrintMore
attribute [local go_sem] max2_int min2_int max_two min_two max_three min_three max_four min_four   -- for this text's walks alone
set_option linter.unusedVariables false
set_option linter.unusedSimpArgs false



def errW : Option Int → Value
  | none => .nilIface
  | some c => .iface 0 (.int .i64 c)
theorem errW_none : errW none = .nilIface := rfl
theorem errW_some (c : Int) : errW (some c) = .iface 0 (.int .i64 c) := rfl

-- the values' own types

end Go.Proofs.Ytcnfeibfjmnlfaa.PTicksDelays
