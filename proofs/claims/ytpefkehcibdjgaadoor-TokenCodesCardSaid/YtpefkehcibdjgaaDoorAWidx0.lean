-- Written by a program of this session (wip/tools/print2.py) for one law: Lean checks it.
import Derived.Test.YtpefkehcibdjgaaDoorProg
import Derived.Below
import Derived.Deep.Draws
import Derived.Deep.AppendLies
import Derived.Maps.AppendAt
import Derived.OwnWalk
import Derived.Laws.BytesArg
import Derived.Laws.MakeOwn
import Derived.Laws.OwnMore
import Derived.Deep.OwnRows
import Derived.Tactics
import Derived.Lib.ConvBytes
import Derived.Laws.Slices
import Derived.WalkKit
import Derived.KernelRfl
import Derived.RowKit3
import Derived.Deep.LoopGhost
import Derived.Deep.QuietTactic
import Derived.BigQuiet
import Derived.WideLaws
import Derived.Deep.DeepCutAuto
import Derived.Deep.CutBlock
import Derived.Deep.RegionHeld3
import Derived.Laws.Rows
import Derived.Lib.AppendStr
import Derived.ArgAppend
import Derived.Laws.IdiomCopy
import Derived.OrdersHeld
import Derived.Laws.BitsLemmas
import Derived.RowKit
import Derived.Test.YtpefkehcibdjgaaDoorH0
import Derived.Test.YtpefkehcibdjgaaDoorWWords
import Derived.Test.YtpefkehcibdjgaaDoorWLast
import Derived.Test.YtpefkehcibdjgaaDoorWTab
import Derived.Test.YtpefkehcibdjgaaDoorWQPut
import Derived.Test.YtpefkehcibdjgaaDoorWApart
import Derived.Test.YtpefkehcibdjgaaDoorWArr
import Derived.Test.YtpefkehcibdjgaaDoorWZeros
import Derived.Test.YtpefkehcibdjgaaDoorWFoot
import Derived.Test.YtpefkehcibdjgaaDoorWKept
import Derived.Test.YtpefkehcibdjgaaDoorWShare
import Derived.Test.YtpefkehcibdjgaaDoorWN
import Derived.Test.YtpefkehcibdjgaaDoorWRepsOne
import Derived.Test.YtpefkehcibdjgaaDoorWGuard
import Derived.Test.YtpefkehcibdjgaaDoorWNEv
import Derived.Test.YtpefkehcibdjgaaDoorWMore
namespace Go.Proofs.YtpefkehcibdjgaaDoor.AWid
open Go.RowKit Go.Proofs.YtpefkehcibdjgaaDoor.H Go.Proofs.YtpefkehcibdjgaaDoorW.PrintWords Go.Proofs.YtpefkehcibdjgaaDoorW.PrintLast Go.Proofs.YtpefkehcibdjgaaDoorW.PrintMore
attribute [local go_sem] max2_int min2_int max_two min_two max_three min_three max_four min_four   -- for this text's walks alone
set_option linter.unusedVariables false
set_option linter.unusedSimpArgs false



def errW : Option Int → Value
  | none => .nilIface
  | some c => .iface 0 (.int .i64 c)
theorem errW_none : errW none = .nilIface := rfl
theorem errW_some (c : Int) : errW (some c) = .iface 0 (.int .i64 c) := rfl

theorem info3 : (Tryd.prog.info? 3).map (fun i => (i.zero, i.size, i.bytes)) = some (some (.int .i64 0), 1, 8) := by kernel_rfl
-- the values' own types

end Go.Proofs.YtpefkehcibdjgaaDoor.AWid
