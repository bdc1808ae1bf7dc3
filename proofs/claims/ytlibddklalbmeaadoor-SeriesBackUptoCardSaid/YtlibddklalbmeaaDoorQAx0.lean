/- Walks of functions that read and compute, with what each comes to as a plain Lean function: written by a program of mine. -/
import Derived.Test.YtlibddklalbmeaaDoorProg
import Derived.Below
import Derived.Deep.Draws
import Derived.Deep.AppendLies
import Derived.Maps.AppendAt
import Derived.OwnWalk
import Derived.Laws.BytesArg
import Derived.Laws.MakeOwn
import Derived.Laws.OwnMore
import Derived.Deep.OwnRows
import Derived.Tactics
import Derived.Lib.ConvBytes
import Derived.Laws.Slices
import Derived.WalkKit
import Derived.KernelRfl
import Derived.RowKit3
import Derived.Deep.LoopGhost
import Derived.Deep.QuietTactic
import Derived.BigQuiet
import Derived.WideLaws
import Derived.Deep.DeepCutAuto
import Derived.Deep.CutBlock
import Derived.Deep.RegionHeld3
import Derived.Laws.Rows
import Derived.Lib.AppendStr
import Derived.ArgAppend
import Derived.Laws.IdiomCopy
import Derived.OrdersHeld
import Derived.Laws.BitsLemmas
import Derived.RowKit
import Derived.WalkLawsBesides
import Derived.Test.YtlibddklalbmeaaDoorWWords
import Derived.Test.YtlibddklalbmeaaDoorWLast
import Derived.Test.YtlibddklalbmeaaDoorWTab
import Derived.Test.YtlibddklalbmeaaDoorWFour
import Derived.Test.YtlibddklalbmeaaDoorWQPut
import Derived.Test.YtlibddklalbmeaaDoorWApart
import Derived.Test.YtlibddklalbmeaaDoorWArr
import Derived.Test.YtlibddklalbmeaaDoorWZeros
import Derived.Test.YtlibddklalbmeaaDoorWFoot
import Derived.Test.YtlibddklalbmeaaDoorWKept
import Derived.Test.YtlibddklalbmeaaDoorWShare
import Derived.Test.YtlibddklalbmeaaDoorWN
import Derived.Test.YtlibddklalbmeaaDoorWFootNe
import Derived.Test.YtlibddklalbmeaaDoorWAt
import Derived.Test.YtlibddklalbmeaaDoorWEqStruct
import Derived.Test.YtlibddklalbmeaaDoorWRepsOne
import Derived.Test.YtlibddklalbmeaaDoorWInv
import Derived.Test.YtlibddklalbmeaaDoorWInvWords
import Derived.Test.YtlibddklalbmeaaDoorWGuard
import Derived.Test.YtlibddklalbmeaaDoorWNEv
import Derived.Test.YtlibddklalbmeaaDoorWMore
import Derived.Test.YtlibddklalbmeaaDoorFl
namespace Go.Proofs.YtlibddklalbmeaaDoor.QA
open Go.RowKit Go.Proofs.YtlibddklalbmeaaDoorW.PrintWords Go.Proofs.YtlibddklalbmeaaDoorW.PrintLast Go.Proofs.YtlibddklalbmeaaDoorW.PrintMore
attribute [local go_sem] max2_int min2_int max_two min_two max_three min_three max_four min_four fl_store fl_bits fl_frombits   -- for this text's walks alone
set_option linter.unusedVariables false
set_option linter.unusedSimpArgs false



def errW : Option Int → Value
  | none => .nilIface
  | some c => .iface 0 (.int .i64 c)
theorem errW_none : errW none = .nilIface := rfl
theorem errW_some (c : Int) : errW (some c) = .iface 0 (.int .i64 c) := rfl

theorem info5 : (Tryd.prog.info? 5).map (fun i => (i.zero, i.size, i.bytes)) = some (some (.int .u8 0), 1, 1) := by kernel_rfl
theorem info33 : (Tryd.prog.info? 33).map (fun i => (i.zero, i.size, i.bytes)) = some (some (.float .f64 0), 1, 8) := by kernel_rfl
-- the values' own types

end Go.Proofs.YtlibddklalbmeaaDoor.QA
