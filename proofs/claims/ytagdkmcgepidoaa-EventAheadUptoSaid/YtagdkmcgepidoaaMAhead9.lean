/- P.eventAhead_holds, part 10 of 20: the contracts of the Go functions that the law calls, its own walk, and its plain law, for every input that the statement speaks of. -/
import Derived.Test.YtagdkmcgepidoaaMAhead5
import Derived.Test.YtagdkmcgepidoaaMAhead7
import Derived.Test.YtagdkmcgepidoaaMAhead4
import Derived.Test.YtagdkmcgepidoaaMAhead2
set_option linter.unusedVariables false
set_option linter.unusedSimpArgs false
/- E10 -/
namespace Go.Proofs.Ytagdkmcgepidoaa.P
open Go.RowKit Go.Proofs.YtagdkmcgepidoaaW.PrintWords Go.Proofs.YtagdkmcgepidoaaW.PrintLast Go.Proofs.YtagdkmcgepidoaaW.PrintMore
attribute [local go_sem high] eqA33
end Go.Proofs.Ytagdkmcgepidoaa.P
