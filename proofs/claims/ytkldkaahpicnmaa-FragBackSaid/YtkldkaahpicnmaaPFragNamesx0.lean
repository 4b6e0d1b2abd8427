-- Written by a program of this session, by way of the kit's print; not trusted: Lean checks it.
import Derived.Test.YtkldkaahpicnmaaProg
import Derived.Below
import Derived.Deep.Draws
import Derived.Deep.AppendLies
import Derived.Maps.AppendAt
import Derived.OwnWalk
import Derived.Laws.BytesArg
import Derived.Laws.MakeOwn
import Derived.Laws.OwnMore
import Derived.Deep.OwnRows
import Derived.Tactics
import Derived.Lib.ConvBytes
import Derived.Laws.Slices
import Derived.WalkKit
import Derived.KernelRfl
import Derived.RowKit3
import Derived.Deep.LoopGhost
import Derived.Deep.QuietTactic
import Derived.BigQuiet
import Derived.WideLaws
import Derived.Deep.DeepCutAuto
import Derived.Deep.CutBlock
import Derived.Deep.RegionHeld3
import Derived.Laws.Rows
import Derived.Lib.AppendStr
import Derived.ArgAppend
import Derived.Laws.IdiomCopy
import Derived.OrdersHeld
import Derived.Laws.BitsLemmas
import Derived.RowKit
import Derived.Test.YtkldkaahpicnmaaWWords
import Derived.Test.YtkldkaahpicnmaaWLast
import Derived.Test.YtkldkaahpicnmaaWTab
import Derived.Test.YtkldkaahpicnmaaWFour
import Derived.Test.YtkldkaahpicnmaaWQPut
import Derived.Test.YtkldkaahpicnmaaWApart
import Derived.Test.YtkldkaahpicnmaaWArr
import Derived.Test.YtkldkaahpicnmaaWZeros
import Derived.Test.YtkldkaahpicnmaaWFoot
import Derived.Test.YtkldkaahpicnmaaWKept
import Derived.Test.YtkldkaahpicnmaaWShare
import Derived.Test.YtkldkaahpicnmaaWN
import Derived.Test.YtkldkaahpicnmaaWFootNe
import Derived.Test.YtkldkaahpicnmaaWAt
import Derived.Test.YtkldkaahpicnmaaWEqStruct
import Derived.Test.YtkldkaahpicnmaaWRepsOne
import Derived.Test.YtkldkaahpicnmaaWInv
import Derived.Test.YtkldkaahpicnmaaWInvWords
import Derived.Test.YtkldkaahpicnmaaWGuard
import Derived.Test.YtkldkaahpicnmaaWNEv
import Derived.Test.YtkldkaahpicnmaaWMore
namespace Go.Proofs.Ytkldkaahpicnmaa.PFragNames
open Go.RowKit Go.Proofs.YtkldkaahpicnmaaW.PrintWords Go.Proofs.YtkldkaahpicnmaaW.PrintLast Go.Proofs.YtkldkaahpicnmaaW.PrintMore
attribute [local go_sem] max2_int min2_int max_two min_two max_three min_three max_four min_four   -- for this text's walks alone
set_option linter.unusedVariables false
set_option linter.unusedSimpArgs false



def errW : Option Int → Value
  | none => .nilIface
  | some c => .iface 0 (.int .i64 c)
theorem errW_none : errW none = .nilIface := rfl
theorem errW_some (c : Int) : errW (some c) = .iface 0 (.int .i64 c) := rfl

theorem info3 : (Try.prog.info? 3).map (fun i => (i.zero, i.size, i.bytes)) = some (some (.int .i64 0), 1, 8) := by kernel_rfl
-- the values' own types

end Go.Proofs.Ytkldkaahpicnmaa.PFragNames
