/- P.modelLaws_holds, part 16 of 35: the contracts of the Go functions that the law calls, its own walk, and its plain law, for every input that the statement speaks of. -/
import Derived.Test.YtanlnfcjdjamaaaMLa14
import Derived.Test.YtanlnfcjdjamaaaMLa2
set_option linter.unusedVariables false
set_option linter.unusedSimpArgs false
/- E8 -/
namespace Go.Proofs.Ytanlnfcjdjamaaa.P
open Go.RowKit Go.Proofs.YtanlnfcjdjamaaaW.PrintWords Go.Proofs.YtanlnfcjdjamaaaW.PrintLast Go.Proofs.YtanlnfcjdjamaaaW.PrintMore
def larchref06_Step.f (l0 : List S51) (a1_0 a1_1 a1_2 a1_3 : Int) : Option (List S51 × Bool × Int × Int × List S51) :=
  if l0.length < 1000000000 ∧ 1 ≤ a1_0 ∧ a1_0 ≤ 9 then some ((stepL l0 ⟨a1_0, a1_1, a1_2, a1_3⟩).1, (stepL l0 ⟨a1_0, a1_1, a1_2, a1_3⟩).2.f0, (stepL l0 ⟨a1_0, a1_1, a1_2, a1_3⟩).2.f1, (stepL l0 ⟨a1_0, a1_1, a1_2, a1_3⟩).2.f2, (stepL l0 ⟨a1_0, a1_1, a1_2, a1_3⟩).2.f3) else none
end Go.Proofs.Ytanlnfcjdjamaaa.P
