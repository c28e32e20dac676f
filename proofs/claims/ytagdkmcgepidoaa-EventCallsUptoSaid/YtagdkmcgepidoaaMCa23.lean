/- P.eventCalls_holds, part 24 of 31: the contracts of the Go functions that the law calls, its own walk, and its plain law, for every input that the statement speaks of. -/
import Derived.Test.YtagdkmcgepidoaaMCa6
import Derived.Test.YtagdkmcgepidoaaMCa11
import Derived.Test.YtagdkmcgepidoaaMCa7
import Derived.Test.YtagdkmcgepidoaaMCa9
import Derived.Test.YtagdkmcgepidoaaMCa10
import Derived.Test.YtagdkmcgepidoaaMCa4
import Derived.Test.YtagdkmcgepidoaaMCa12
import Derived.Test.YtagdkmcgepidoaaMCa21
set_option linter.unusedVariables false
set_option linter.unusedSimpArgs false
/- E11 -/
namespace Go.Proofs.Ytagdkmcgepidoaa.P
open Go.RowKit Go.Proofs.YtagdkmcgepidoaaW.PrintWords Go.Proofs.YtagdkmcgepidoaaW.PrintLast Go.Proofs.YtagdkmcgepidoaaW.PrintMore
def c67 (x : S67) (A9 : Option Addr) (c9 : Nat) : List Value := [.int .i64 x.f0, .bool x.f1, .int .i64 x.f2.f0, .int .i64 x.f2.f1, .int .i64 x.f2.f2, .int .i64 x.f2.f3, .bool x.f3.f0, .int .i64 x.f3.f1, .int .i64 x.f3.f2, .slice A9 x.f3.f3.length c9]
end Go.Proofs.Ytagdkmcgepidoaa.P
