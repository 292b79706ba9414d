-- laid by wip/tools/qprint.py, a program of this session, out of the translation: nothing here is trusted: Lean checks it
import Derived.Test.YtihikenmknphkaaProg
import Derived.Below
import Derived.Deep.Draws
import Derived.Deep.AppendLies
import Derived.Maps.AppendAt
import Derived.OwnWalk
import Derived.Laws.BytesArg
import Derived.Laws.MakeOwn
import Derived.Laws.OwnMore
import Derived.Deep.OwnRows
import Derived.Tactics
import Derived.Lib.ConvBytes
import Derived.Laws.Slices
import Derived.WalkKit
import Derived.KernelRfl
import Derived.RowKit3
import Derived.Deep.LoopGhost
import Derived.Deep.QuietTactic
import Derived.BigQuiet
import Derived.WideLaws
import Derived.Deep.DeepCutAuto
import Derived.Deep.CutBlock
import Derived.Deep.RegionHeld3
import Derived.Laws.Rows
import Derived.Lib.AppendStr
import Derived.ArgAppend
import Derived.Laws.IdiomCopy
import Derived.OrdersHeld
import Derived.Laws.BitsLemmas
import Derived.RowKit
import Derived.Test.YtihikenmknphkaaWWords
import Derived.Test.YtihikenmknphkaaWLast
import Derived.Test.YtihikenmknphkaaWTab
import Derived.Test.YtihikenmknphkaaWFour
import Derived.Test.YtihikenmknphkaaWQPut
import Derived.Test.YtihikenmknphkaaWApart
import Derived.Test.YtihikenmknphkaaWArr
import Derived.Test.YtihikenmknphkaaWZeros
import Derived.Test.YtihikenmknphkaaWFoot
import Derived.Test.YtihikenmknphkaaWKept
import Derived.Test.YtihikenmknphkaaWShare
import Derived.Test.YtihikenmknphkaaWN
import Derived.Test.YtihikenmknphkaaWFootNe
import Derived.Test.YtihikenmknphkaaWAt
import Derived.Test.YtihikenmknphkaaWEqStruct
import Derived.Test.YtihikenmknphkaaWRepsOne
import Derived.Test.YtihikenmknphkaaWInv
import Derived.Test.YtihikenmknphkaaWInvWords
import Derived.Test.YtihikenmknphkaaWGuard
import Derived.Test.YtihikenmknphkaaWNEv
import Derived.Test.YtihikenmknphkaaWMore
namespace Go.Proofs.Ytihikenmknphkaa.Q
open Go.RowKit Go.Proofs.YtihikenmknphkaaW.PrintWords Go.Proofs.YtihikenmknphkaaW.PrintLast Go.Proofs.YtihikenmknphkaaW.PrintMore
attribute [local go_sem] max2_int min2_int max_two min_two max_three min_three max_four min_four   -- for this text's walks alone
set_option linter.unusedVariables false
set_option linter.unusedSimpArgs false



def errW : Option Int → Value
  | none => .nilIface
  | some c => .iface 0 (.int .i64 c)
theorem errW_none : errW none = .nilIface := rfl
theorem errW_some (c : Int) : errW (some c) = .iface 0 (.int .i64 c) := rfl

theorem info4 : (Try.prog.info? 4).map (fun i => (i.zero, i.size, i.bytes)) = some (some (.bool false), 1, 1) := by kernel_rfl
theorem info5 : (Try.prog.info? 5).map (fun i => (i.zero, i.size, i.bytes)) = some (some (.int .u8 0), 1, 1) := by kernel_rfl
-- the values' own types

end Go.Proofs.Ytihikenmknphkaa.Q
