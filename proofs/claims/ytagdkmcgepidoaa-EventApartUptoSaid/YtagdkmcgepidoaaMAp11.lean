/- P.eventApart_holds, part 12 of 41: the contracts of the Go functions that the law calls, its own walk, and its plain law, for every input that the statement speaks of. -/
import Derived.Test.YtagdkmcgepidoaaMAp9
set_option linter.unusedVariables false
set_option linter.unusedSimpArgs false
/- EK -/
namespace Go.Proofs.Ytagdkmcgepidoaa.P
open Go.RowKit Go.Proofs.YtagdkmcgepidoaaW.PrintWords Go.Proofs.YtagdkmcgepidoaaW.PrintLast Go.Proofs.YtagdkmcgepidoaaW.PrintMore
def keptL (p : Nat → Bool) (l0 : List S67) : Nat → Nat → List S67 → List S67
  | 0, _, out => out
  | d + 1, j, out => if p j = true then keptL p l0 d (j + 1) (out ++ [J67 l0 (j : Int)]) else keptL p l0 d (j + 1) out
end Go.Proofs.Ytagdkmcgepidoaa.P
