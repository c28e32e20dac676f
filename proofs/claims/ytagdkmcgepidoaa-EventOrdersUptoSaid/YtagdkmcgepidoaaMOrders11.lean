/- P.eventOrders_holds, part 12 of 22: the contracts of the Go functions that the law calls, its own walk, and its plain law, for every input that the statement speaks of. -/
import Derived.Test.YtagdkmcgepidoaaMOrders7
import Derived.Test.YtagdkmcgepidoaaMOrders9
import Derived.Test.YtagdkmcgepidoaaMOrders6
import Derived.Test.YtagdkmcgepidoaaMOrders2
import Derived.Test.YtagdkmcgepidoaaMOrders4
set_option linter.unusedVariables false
set_option linter.unusedSimpArgs false
/- E10 -/
namespace Go.Proofs.Ytagdkmcgepidoaa.P
open Go.RowKit Go.Proofs.YtagdkmcgepidoaaW.PrintWords Go.Proofs.YtagdkmcgepidoaaW.PrintLast Go.Proofs.YtagdkmcgepidoaaW.PrintMore
attribute [local go_sem high] eqA33
end Go.Proofs.Ytagdkmcgepidoaa.P
