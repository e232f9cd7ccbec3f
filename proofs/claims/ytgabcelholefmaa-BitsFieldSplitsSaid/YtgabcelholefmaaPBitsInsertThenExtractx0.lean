-- PRINTED BY print.sh 35421559b90ae4d0a3588c463048766b98c2df88dd9212a6774a882060cdf62d: not written by this session
import Derived.Test.YtgabcelholefmaaProg
import Derived.Below
import Derived.Deep.Draws
import Derived.Deep.AppendLies
import Derived.Maps.AppendAt
import Derived.OwnWalk
import Derived.Laws.BytesArg
import Derived.Laws.MakeOwn
import Derived.Laws.OwnMore
import Derived.Deep.OwnRows
import Derived.Tactics
import Derived.Lib.ConvBytes
import Derived.Laws.Slices
import Derived.WalkKit
import Derived.KernelRfl
import Derived.RowKit3
import Derived.Deep.LoopGhost
import Derived.Deep.QuietTactic
import Derived.BigQuiet
import Derived.WideLaws
import Derived.Deep.DeepCutAuto
import Derived.Deep.CutBlock
import Derived.Deep.RegionHeld3
import Derived.Laws.Rows
import Derived.Lib.AppendStr
import Derived.ArgAppend
import Derived.Laws.IdiomCopy
import Derived.OrdersHeld
import Derived.Laws.BitsLemmas
import Derived.RowKit
import Derived.Test.YtgabcelholefmaaWWords
import Derived.Test.YtgabcelholefmaaWLast
import Derived.Test.YtgabcelholefmaaWTab
import Derived.Test.YtgabcelholefmaaWFour
import Derived.Test.YtgabcelholefmaaWQPut
import Derived.Test.YtgabcelholefmaaWApart
import Derived.Test.YtgabcelholefmaaWArr
import Derived.Test.YtgabcelholefmaaWZeros
import Derived.Test.YtgabcelholefmaaWFoot
import Derived.Test.YtgabcelholefmaaWKept
import Derived.Test.YtgabcelholefmaaWShare
import Derived.Test.YtgabcelholefmaaWN
import Derived.Test.YtgabcelholefmaaWFootNe
import Derived.Test.YtgabcelholefmaaWAt
import Derived.Test.YtgabcelholefmaaWEqStruct
import Derived.Test.YtgabcelholefmaaWRepsOne
import Derived.Test.YtgabcelholefmaaWInv
import Derived.Test.YtgabcelholefmaaWInvWords
import Derived.Test.YtgabcelholefmaaWGuard
import Derived.Test.YtgabcelholefmaaWNEv
import Derived.Test.YtgabcelholefmaaWMore
namespace Go.Proofs.Ytgabcelholefmaa.PBitsInsertThenExtract
open Go.RowKit Go.Proofs.YtgabcelholefmaaW.PrintWords Go.Proofs.YtgabcelholefmaaW.PrintLast Go.Proofs.YtgabcelholefmaaW.PrintMore
attribute [local go_sem] max2_int min2_int max_two min_two max_three min_three max_four min_four   -- for this text's walks alone
set_option linter.unusedVariables false
set_option linter.unusedSimpArgs false



def errW : Option Int → Value
  | none => .nilIface
  | some c => .iface 0 (.int .i64 c)
theorem errW_none : errW none = .nilIface := rfl
theorem errW_some (c : Int) : errW (some c) = .iface 0 (.int .i64 c) := rfl

-- the values' own types

end Go.Proofs.Ytgabcelholefmaa.PBitsInsertThenExtract
