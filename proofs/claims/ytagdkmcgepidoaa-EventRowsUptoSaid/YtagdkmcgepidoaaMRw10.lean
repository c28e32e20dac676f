/- P.eventRows_holds, part 11 of 25: the contracts of the Go functions that the law calls, its own walk, and its plain law, for every input that the statement speaks of. -/
import Derived.Test.YtagdkmcgepidoaaMRw7
import Derived.Test.YtagdkmcgepidoaaMRw8
import Derived.Test.YtagdkmcgepidoaaMRw4
import Derived.Test.YtagdkmcgepidoaaMRw2
set_option linter.unusedVariables false
set_option linter.unusedSimpArgs false
/- E10 -/
namespace Go.Proofs.Ytagdkmcgepidoaa.P
open Go.RowKit Go.Proofs.YtagdkmcgepidoaaW.PrintWords Go.Proofs.YtagdkmcgepidoaaW.PrintLast Go.Proofs.YtagdkmcgepidoaaW.PrintMore
attribute [local go_sem high] eqA33
theorem keptL_mem (p : Nat → Bool) (l0 : List S67) : ∀ d (j : Nat) (out : List S67), j + d = l0.length → ∀ x ∈ keptL p l0 d j out, x ∈ out ∨ x ∈ l0
  | 0, _, _, _, x, hx => .inl hx
  | d + 1, j, out, hd, x, hx => by
    have hin : J67 l0 (j : Int) ∈ l0 := by
      unfold J67
      rw [Int.toNat_natCast, List.getD_eq_getElem?_getD, List.getElem?_eq_getElem (by omega)]
      exact List.getElem_mem _
    unfold keptL at hx
    split at hx
    · rcases keptL_mem p l0 d (j + 1) _ (by omega) x hx with h | h
      · rcases List.mem_append.1 h with h | h
        · exact .inl h
        · simp at h
          exact .inr (by rw [h]; exact hin)
      · exact .inr h
    · exact keptL_mem p l0 d (j + 1) out (by omega) x hx
end Go.Proofs.Ytagdkmcgepidoaa.P
