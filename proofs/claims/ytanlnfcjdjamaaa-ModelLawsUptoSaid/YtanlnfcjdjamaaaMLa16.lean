/- P.modelLaws_holds, part 17 of 35: the contracts of the Go functions that the law calls, its own walk, and its plain law, for every input that the statement speaks of. -/
import Derived.Test.YtanlnfcjdjamaaaMLa15
import Derived.Test.YtanlnfcjdjamaaaMLa2
set_option linter.unusedVariables false
set_option linter.unusedSimpArgs false
/- E10 -/
namespace Go.Proofs.Ytanlnfcjdjamaaa.P
open Go.RowKit Go.Proofs.YtanlnfcjdjamaaaW.PrintWords Go.Proofs.YtanlnfcjdjamaaaW.PrintLast Go.Proofs.YtanlnfcjdjamaaaW.PrintMore
def larchref06_Do.f (k : Nat) (l0 : List (S51)) (a1_0 : Int) (a1_1 : Int) (a1_2 : Int) (a1_3 : Int) : Option ((List (S51)) × Bool × Int × Int × (List (S51)) × Int) := (larchref06_Check.f k l0).bind fun t244 => (if t244 = 0 then ((larchref06_Kind.f a1_0).bind fun t245 => (if t245 = 0 then ((larchref06_Step.f l0 a1_0 a1_1 a1_2 a1_3).bind fun bt246 => (some (bt246.1, bt246.2.1, bt246.2.2.1, bt246.2.2.2.1, bt246.2.2.2.2, 0))) else (some (([] : List (S51)), false, 0, 0, ([] : List (S51)), 5)))) else (some (([] : List (S51)), false, 0, 0, ([] : List (S51)), 11)))
end Go.Proofs.Ytanlnfcjdjamaaa.P
