/- Walks of functions that read and compute, with what each comes to as a plain Lean function: written by a program of mine. -/
import Derived.Test.YtnniljcmjcjleaaProg
import Derived.Below
import Derived.Deep.Draws
import Derived.Deep.AppendLies
import Derived.Maps.AppendAt
import Derived.OwnWalk
import Derived.Laws.BytesArg
import Derived.Laws.MakeOwn
import Derived.Laws.OwnMore
import Derived.Deep.OwnRows
import Derived.Tactics
import Derived.Lib.ConvBytes
import Derived.Laws.Slices
import Derived.WalkKit
import Derived.KernelRfl
import Derived.RowKit3
import Derived.Deep.LoopGhost
import Derived.Deep.QuietTactic
import Derived.BigQuiet
import Derived.WideLaws
import Derived.Deep.DeepCutAuto
import Derived.Deep.CutBlock
import Derived.Deep.RegionHeld3
import Derived.Laws.Rows
import Derived.Lib.AppendStr
import Derived.ArgAppend
import Derived.Laws.IdiomCopy
import Derived.OrdersHeld
import Derived.Laws.BitsLemmas
import Derived.RowKit
import Derived.WalkLawsBesides
import Derived.Test.YtnniljcmjcjleaaWWords
import Derived.Test.YtnniljcmjcjleaaWLast
import Derived.Test.YtnniljcmjcjleaaWTab
import Derived.Test.YtnniljcmjcjleaaWFour
import Derived.Test.YtnniljcmjcjleaaWQPut
import Derived.Test.YtnniljcmjcjleaaWApart
import Derived.Test.YtnniljcmjcjleaaWArr
import Derived.Test.YtnniljcmjcjleaaWZeros
import Derived.Test.YtnniljcmjcjleaaWFoot
import Derived.Test.YtnniljcmjcjleaaWKept
import Derived.Test.YtnniljcmjcjleaaWShare
import Derived.Test.YtnniljcmjcjleaaWN
import Derived.Test.YtnniljcmjcjleaaWFootNe
import Derived.Test.YtnniljcmjcjleaaWAt
import Derived.Test.YtnniljcmjcjleaaWEqStruct
import Derived.Test.YtnniljcmjcjleaaWRepsOne
import Derived.Test.YtnniljcmjcjleaaWInv
import Derived.Test.YtnniljcmjcjleaaWInvWords
import Derived.Test.YtnniljcmjcjleaaWGuard
import Derived.Test.YtnniljcmjcjleaaWNEv
import Derived.Test.YtnniljcmjcjleaaWMore
import Derived.Test.YtnniljcmjcjleaaFl
namespace Go.Proofs.Ytnniljcmjcjleaa.QA
open Go.RowKit Go.Proofs.YtnniljcmjcjleaaW.PrintWords Go.Proofs.YtnniljcmjcjleaaW.PrintLast Go.Proofs.YtnniljcmjcjleaaW.PrintMore
attribute [local go_sem] max2_int min2_int max_two min_two max_three min_three max_four min_four fl_store fl_bits fl_frombits fl_usigned   -- for this text's walks alone
set_option linter.unusedVariables false
set_option linter.unusedSimpArgs false



def errW : Option Int → Value
  | none => .nilIface
  | some c => .iface 0 (.int .i64 c)
theorem errW_none : errW none = .nilIface := rfl
theorem errW_some (c : Int) : errW (some c) = .iface 0 (.int .i64 c) := rfl

theorem info3 : (Try.prog.info? 3).map (fun i => (i.zero, i.size, i.bytes)) = some (some (.int .i64 0), 1, 8) := by kernel_rfl
-- the values' own types

end Go.Proofs.Ytnniljcmjcjleaa.QA
