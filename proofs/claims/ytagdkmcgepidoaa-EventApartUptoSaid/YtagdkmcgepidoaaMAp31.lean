/- P.eventApart_holds, part 32 of 41: the contracts of the Go functions that the law calls, its own walk, and its plain law, for every input that the statement speaks of. -/
import Derived.Test.YtagdkmcgepidoaaMAp8
import Derived.Test.YtagdkmcgepidoaaMAp25
import Derived.Test.YtagdkmcgepidoaaMAp27
import Derived.Test.YtagdkmcgepidoaaMAp30
import Derived.Test.YtagdkmcgepidoaaMAp2
import Derived.Test.YtagdkmcgepidoaaMAp4
import Derived.Test.YtagdkmcgepidoaaMAp14
set_option linter.unusedVariables false
set_option linter.unusedSimpArgs false
/- E11 -/
namespace Go.Proofs.Ytagdkmcgepidoaa.P
open Go.RowKit Go.Proofs.YtagdkmcgepidoaaW.PrintWords Go.Proofs.YtagdkmcgepidoaaW.PrintLast Go.Proofs.YtagdkmcgepidoaaW.PrintMore
def c67 (x : S67) (A9 : Option Addr) (c9 : Nat) : List Value := [.int .i64 x.f0, .bool x.f1, .int .i64 x.f2.f0, .int .i64 x.f2.f1, .int .i64 x.f2.f2, .int .i64 x.f2.f3, .bool x.f3.f0, .int .i64 x.f3.f1, .int .i64 x.f3.f2, .slice A9 x.f3.f3.length c9]
end Go.Proofs.Ytagdkmcgepidoaa.P
