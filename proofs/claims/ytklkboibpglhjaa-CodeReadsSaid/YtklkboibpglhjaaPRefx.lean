-- by a program of this work, out of the translation: functions, and what a call of each comes to
import Derived.Test.YtklkboibpglhjaaPRefx0
import Derived.Test.YtklkboibpglhjaaPRefx1
import Derived.Test.YtklkboibpglhjaaPRefx2
import Derived.Test.YtklkboibpglhjaaPRefx3
import Derived.Test.YtklkboibpglhjaaPRefx4
import Derived.Test.YtklkboibpglhjaaPRefx5
import Derived.Test.YtklkboibpglhjaaPRefx6
import Derived.Test.YtklkboibpglhjaaPRefx7
import Derived.Test.YtklkboibpglhjaaPRefx8
import Derived.Test.YtklkboibpglhjaaPRefx9
import Derived.Test.YtklkboibpglhjaaPRefx10
namespace Go.Proofs.Ytklkboibpglhjaa.PRef
open Go.RowKit Go.Proofs.YtklkboibpglhjaaW.PrintWords Go.Proofs.YtklkboibpglhjaaW.PrintLast Go.Proofs.YtklkboibpglhjaaW.PrintMore
attribute [local go_sem] max2_int min2_int max_two min_two max_three min_three max_four min_four   -- for this text's walks alone
set_option linter.unusedVariables false
set_option linter.unusedSimpArgs false

end Go.Proofs.Ytklkboibpglhjaa.PRef
