/- Walks of functions that read and compute, with what each comes to as a plain Lean function: written by a program of mine. -/
import Derived.Test.YtnniljcmjcjleaaQAx0
import Derived.Test.YtnniljcmjcjleaaQAx1
import Derived.Test.YtnniljcmjcjleaaQAx2
namespace Go.Proofs.Ytnniljcmjcjleaa.QA
open Go.RowKit Go.Proofs.YtnniljcmjcjleaaW.PrintWords Go.Proofs.YtnniljcmjcjleaaW.PrintLast Go.Proofs.YtnniljcmjcjleaaW.PrintMore
attribute [local go_sem] max2_int min2_int max_two min_two max_three min_three max_four min_four fl_store fl_bits fl_frombits fl_usigned   -- for this text's walks alone
set_option linter.unusedVariables false
set_option linter.unusedSimpArgs false

end Go.Proofs.Ytnniljcmjcjleaa.QA
