/- Walks of functions that read and compute, with what each comes to as a plain Lean function: written by a program of mine. -/
import Derived.Test.YtlibddklalbmeaaDoorQAx0
import Derived.Test.YtlibddklalbmeaaDoorQAx1
import Derived.Test.YtlibddklalbmeaaDoorQAx2
import Derived.Test.YtlibddklalbmeaaDoorQAx3
namespace Go.Proofs.YtlibddklalbmeaaDoor.QA
open Go.RowKit Go.Proofs.YtlibddklalbmeaaDoorW.PrintWords Go.Proofs.YtlibddklalbmeaaDoorW.PrintLast Go.Proofs.YtlibddklalbmeaaDoorW.PrintMore
attribute [local go_sem] max2_int min2_int max_two min_two max_three min_three max_four min_four fl_store fl_bits fl_frombits   -- for this text's walks alone
set_option linter.unusedVariables false
set_option linter.unusedSimpArgs false

end Go.Proofs.YtlibddklalbmeaaDoor.QA
