-- Written by a program of this session, by way of the kit's print; not trusted: Lean checks it.
import Derived.Test.YtkldkaahpicnmaaGreatProg
import Derived.Below
import Derived.Deep.Draws
import Derived.Deep.AppendLies
import Derived.Maps.AppendAt
import Derived.OwnWalk
import Derived.Laws.BytesArg
import Derived.Laws.MakeOwn
import Derived.Laws.OwnMore
import Derived.Deep.OwnRows
import Derived.Tactics
import Derived.Lib.ConvBytes
import Derived.Laws.Slices
import Derived.WalkKit
import Derived.KernelRfl
import Derived.RowKit3
import Derived.Deep.LoopGhost
import Derived.Deep.QuietTactic
import Derived.BigQuiet
import Derived.WideLaws
import Derived.Deep.DeepCutAuto
import Derived.Deep.CutBlock
import Derived.Deep.RegionHeld3
import Derived.Laws.Rows
import Derived.Lib.AppendStr
import Derived.ArgAppend
import Derived.Laws.IdiomCopy
import Derived.OrdersHeld
import Derived.Laws.BitsLemmas
import Derived.RowKit
import Derived.Test.YtkldkaahpicnmaaGreatWWords
import Derived.Test.YtkldkaahpicnmaaGreatWLast
import Derived.Test.YtkldkaahpicnmaaGreatWTab
import Derived.Test.YtkldkaahpicnmaaGreatWFour
import Derived.Test.YtkldkaahpicnmaaGreatWQPut
import Derived.Test.YtkldkaahpicnmaaGreatWApart
import Derived.Test.YtkldkaahpicnmaaGreatWArr
import Derived.Test.YtkldkaahpicnmaaGreatWZeros
import Derived.Test.YtkldkaahpicnmaaGreatWFoot
import Derived.Test.YtkldkaahpicnmaaGreatWKept
import Derived.Test.YtkldkaahpicnmaaGreatWShare
import Derived.Test.YtkldkaahpicnmaaGreatWN
import Derived.Test.YtkldkaahpicnmaaGreatWFootNe
import Derived.Test.YtkldkaahpicnmaaGreatWAt
import Derived.Test.YtkldkaahpicnmaaGreatWEqStruct
import Derived.Test.YtkldkaahpicnmaaGreatWRepsOne
import Derived.Test.YtkldkaahpicnmaaGreatWInv
import Derived.Test.YtkldkaahpicnmaaGreatWInvWords
import Derived.Test.YtkldkaahpicnmaaGreatWGuard
import Derived.Test.YtkldkaahpicnmaaGreatWNEv
import Derived.Test.YtkldkaahpicnmaaGreatWMore
namespace Go.Proofs.YtkldkaahpicnmaaGreat.PFragNames
open Go.RowKit Go.Proofs.YtkldkaahpicnmaaGreatW.PrintWords Go.Proofs.YtkldkaahpicnmaaGreatW.PrintLast Go.Proofs.YtkldkaahpicnmaaGreatW.PrintMore
attribute [local go_sem] max2_int min2_int max_two min_two max_three min_three max_four min_four   -- for this text's walks alone
set_option linter.unusedVariables false
set_option linter.unusedSimpArgs false



def errW : Option Int → Value
  | none => .nilIface
  | some c => .iface 0 (.int .i64 c)
theorem errW_none : errW none = .nilIface := rfl
theorem errW_some (c : Int) : errW (some c) = .iface 0 (.int .i64 c) := rfl

theorem info3 : (Tryz.prog.info? 3).map (fun i => (i.zero, i.size, i.bytes)) = some (some (.int .i64 0), 1, 8) := by kernel_rfl
-- the values' own types

end Go.Proofs.YtkldkaahpicnmaaGreat.PFragNames
