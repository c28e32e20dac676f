/- P.eventApart_holds, part 40 of 41: the contracts of the Go functions that the law calls, its own walk, and its plain law, for every input that the statement speaks of. -/
import Derived.Test.YtagdkmcgepidoaaMAp2
import Derived.Test.YtagdkmcgepidoaaMAp14
import Derived.Test.YtagdkmcgepidoaaMAp30
import Derived.Test.YtagdkmcgepidoaaMAp3
import Derived.Test.YtagdkmcgepidoaaMAp4
import Derived.Test.YtagdkmcgepidoaaMAp5
import Derived.Test.YtagdkmcgepidoaaMAp8
import Derived.Test.YtagdkmcgepidoaaMAp33
import Derived.Test.YtagdkmcgepidoaaMAp28
import Derived.Test.YtagdkmcgepidoaaMAp37
import Derived.Test.YtagdkmcgepidoaaMAp1
set_option linter.unusedVariables false
set_option linter.unusedSimpArgs false
/- F57 -/
namespace Go.Proofs.Ytagdkmcgepidoaa.P
open Go.RowKit Go.Proofs.YtagdkmcgepidoaaW.PrintWords Go.Proofs.YtagdkmcgepidoaaW.PrintLast Go.Proofs.YtagdkmcgepidoaaW.PrintMore
attribute [local go_sem] max2_int min2_int max_two min_two max_three min_three max_four min_four   -- for this text's walks alone
set_option linter.unusedVariables false
set_option linter.unusedSimpArgs false
end Go.Proofs.Ytagdkmcgepidoaa.P
