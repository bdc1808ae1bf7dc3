/- Walks of functions that read and compute, with what each comes to as a plain Lean function: written by a program of mine. -/
import Derived.Test.YtooddfmjgplbjaaQAx0
import Derived.Test.YtooddfmjgplbjaaQAx1
import Derived.Test.YtooddfmjgplbjaaQAx2
namespace Go.Proofs.Ytooddfmjgplbjaa.QA
open Go.RowKit Go.Proofs.YtooddfmjgplbjaaW.PrintWords Go.Proofs.YtooddfmjgplbjaaW.PrintLast Go.Proofs.YtooddfmjgplbjaaW.PrintMore
attribute [local go_sem] max2_int min2_int max_two min_two max_three min_three max_four min_four fl_store fl_bits fl_frombits   -- for this text's walks alone
set_option linter.unusedVariables false
set_option linter.unusedSimpArgs false

end Go.Proofs.Ytooddfmjgplbjaa.QA
