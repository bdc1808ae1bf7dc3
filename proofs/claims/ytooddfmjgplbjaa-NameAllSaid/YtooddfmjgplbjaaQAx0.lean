/- Walks of functions that read and compute, with what each comes to as a plain Lean function: written by a program of mine. -/
import Derived.Test.YtooddfmjgplbjaaProg
import Derived.Below
import Derived.Deep.Draws
import Derived.Deep.AppendLies
import Derived.Maps.AppendAt
import Derived.OwnWalk
import Derived.Laws.BytesArg
import Derived.Laws.MakeOwn
import Derived.Laws.OwnMore
import Derived.Deep.OwnRows
import Derived.Tactics
import Derived.Lib.ConvBytes
import Derived.Laws.Slices
import Derived.WalkKit
import Derived.KernelRfl
import Derived.RowKit3
import Derived.Deep.LoopGhost
import Derived.Deep.QuietTactic
import Derived.BigQuiet
import Derived.WideLaws
import Derived.Deep.DeepCutAuto
import Derived.Deep.CutBlock
import Derived.Deep.RegionHeld3
import Derived.Laws.Rows
import Derived.Lib.AppendStr
import Derived.ArgAppend
import Derived.Laws.IdiomCopy
import Derived.OrdersHeld
import Derived.Laws.BitsLemmas
import Derived.RowKit
import Derived.WalkLawsBesides
import Derived.Test.YtooddfmjgplbjaaWWords
import Derived.Test.YtooddfmjgplbjaaWLast
import Derived.Test.YtooddfmjgplbjaaWTab
import Derived.Test.YtooddfmjgplbjaaWFour
import Derived.Test.YtooddfmjgplbjaaWQPut
import Derived.Test.YtooddfmjgplbjaaWApart
import Derived.Test.YtooddfmjgplbjaaWArr
import Derived.Test.YtooddfmjgplbjaaWZeros
import Derived.Test.YtooddfmjgplbjaaWFoot
import Derived.Test.YtooddfmjgplbjaaWKept
import Derived.Test.YtooddfmjgplbjaaWShare
import Derived.Test.YtooddfmjgplbjaaWN
import Derived.Test.YtooddfmjgplbjaaWFootNe
import Derived.Test.YtooddfmjgplbjaaWAt
import Derived.Test.YtooddfmjgplbjaaWEqStruct
import Derived.Test.YtooddfmjgplbjaaWRepsOne
import Derived.Test.YtooddfmjgplbjaaWInv
import Derived.Test.YtooddfmjgplbjaaWInvWords
import Derived.Test.YtooddfmjgplbjaaWGuard
import Derived.Test.YtooddfmjgplbjaaWNEv
import Derived.Test.YtooddfmjgplbjaaWMore
import Derived.Test.YtooddfmjgplbjaaFl
namespace Go.Proofs.Ytooddfmjgplbjaa.QA
open Go.RowKit Go.Proofs.YtooddfmjgplbjaaW.PrintWords Go.Proofs.YtooddfmjgplbjaaW.PrintLast Go.Proofs.YtooddfmjgplbjaaW.PrintMore
attribute [local go_sem] max2_int min2_int max_two min_two max_three min_three max_four min_four fl_store fl_bits fl_frombits   -- for this text's walks alone
set_option linter.unusedVariables false
set_option linter.unusedSimpArgs false



def errW : Option Int → Value
  | none => .nilIface
  | some c => .iface 0 (.int .i64 c)
theorem errW_none : errW none = .nilIface := rfl
theorem errW_some (c : Int) : errW (some c) = .iface 0 (.int .i64 c) := rfl

-- the values' own types

end Go.Proofs.Ytooddfmjgplbjaa.QA
