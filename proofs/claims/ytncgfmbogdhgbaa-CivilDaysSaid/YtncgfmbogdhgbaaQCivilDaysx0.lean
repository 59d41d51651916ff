-- Written by a program of this session (wip/tools/print2.py) for one law: Lean checks it.
import Derived.Test.YtncgfmbogdhgbaaProg
import Derived.Below
import Derived.Deep.Draws
import Derived.Deep.AppendLies
import Derived.Maps.AppendAt
import Derived.OwnWalk
import Derived.Laws.BytesArg
import Derived.Laws.MakeOwn
import Derived.Laws.OwnMore
import Derived.Deep.OwnRows
import Derived.Tactics
import Derived.Lib.ConvBytes
import Derived.Laws.Slices
import Derived.WalkKit
import Derived.KernelRfl
import Derived.RowKit3
import Derived.Deep.LoopGhost
import Derived.Deep.QuietTactic
import Derived.BigQuiet
import Derived.WideLaws
import Derived.Deep.DeepCutAuto
import Derived.Deep.CutBlock
import Derived.Deep.RegionHeld3
import Derived.Laws.Rows
import Derived.Lib.AppendStr
import Derived.ArgAppend
import Derived.Laws.IdiomCopy
import Derived.OrdersHeld
import Derived.Laws.BitsLemmas
import Derived.RowKit
import Derived.Test.YtncgfmbogdhgbaaWWords
import Derived.Test.YtncgfmbogdhgbaaWLast
import Derived.Test.YtncgfmbogdhgbaaWTab
import Derived.Test.YtncgfmbogdhgbaaWFour
import Derived.Test.YtncgfmbogdhgbaaWQPut
import Derived.Test.YtncgfmbogdhgbaaWApart
import Derived.Test.YtncgfmbogdhgbaaWArr
import Derived.Test.YtncgfmbogdhgbaaWZeros
import Derived.Test.YtncgfmbogdhgbaaWFoot
import Derived.Test.YtncgfmbogdhgbaaWKept
import Derived.Test.YtncgfmbogdhgbaaWShare
import Derived.Test.YtncgfmbogdhgbaaWN
import Derived.Test.YtncgfmbogdhgbaaWFootNe
import Derived.Test.YtncgfmbogdhgbaaWAt
import Derived.Test.YtncgfmbogdhgbaaWEqStruct
import Derived.Test.YtncgfmbogdhgbaaWRepsOne
import Derived.Test.YtncgfmbogdhgbaaWInv
import Derived.Test.YtncgfmbogdhgbaaWInvWords
import Derived.Test.YtncgfmbogdhgbaaWGuard
import Derived.Test.YtncgfmbogdhgbaaWNEv
import Derived.Test.YtncgfmbogdhgbaaWMore
namespace Go.Proofs.Ytncgfmbogdhgbaa.QCivilDays
open Go.RowKit Go.Proofs.YtncgfmbogdhgbaaW.PrintWords Go.Proofs.YtncgfmbogdhgbaaW.PrintLast Go.Proofs.YtncgfmbogdhgbaaW.PrintMore
attribute [local go_sem] max2_int min2_int max_two min_two max_three min_three max_four min_four   -- for this text's walks alone
set_option linter.unusedVariables false
set_option linter.unusedSimpArgs false



def errW : Option Int → Value
  | none => .nilIface
  | some c => .iface 0 (.int .i64 c)
theorem errW_none : errW none = .nilIface := rfl
theorem errW_some (c : Int) : errW (some c) = .iface 0 (.int .i64 c) := rfl

theorem info3 : (Try.prog.info? 3).map (fun i => (i.zero, i.size, i.bytes)) = some (some (.int .i64 0), 1, 8) := by kernel_rfl
-- the values' own types

end Go.Proofs.Ytncgfmbogdhgbaa.QCivilDays
