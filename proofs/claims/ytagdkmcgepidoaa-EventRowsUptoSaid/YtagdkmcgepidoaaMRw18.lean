/- P.eventRows_holds, part 19 of 25: the contracts of the Go functions that the law calls, its own walk, and its plain law, for every input that the statement speaks of. -/
import Derived.Test.YtagdkmcgepidoaaMRw12
import Derived.Test.YtagdkmcgepidoaaMRw10
import Derived.Test.YtagdkmcgepidoaaMRw13
import Derived.Test.YtagdkmcgepidoaaMRw17
import Derived.Test.YtagdkmcgepidoaaMRw2
set_option linter.unusedVariables false
set_option linter.unusedSimpArgs false
/- P3 -/
namespace Go.Proofs.Ytagdkmcgepidoaa.P
open Go.RowKit Go.Proofs.YtagdkmcgepidoaaW.PrintWords Go.Proofs.YtagdkmcgepidoaaW.PrintLast Go.Proofs.YtagdkmcgepidoaaW.PrintMore
theorem known_ok3 : larchlaw05_known.f = some true := by kernel_rfl
theorem drop67 (l : List S67) (j : Nat) (h : j < l.length) : l.drop j = J67 l (j : Int) :: l.drop (j + 1) := by
  rw [List.drop_eq_getElem_cons h]
  unfold J67
  rw [Int.toNat_natCast, List.getD_eq_getElem?_getD, List.getElem?_eq_getElem h]
  rfl
theorem keptL_len (p : Nat → Bool) (l0 : List S67) : ∀ d (j : Nat) (out : List S67), (keptL p l0 d j out).length ≤ out.length + d
  | 0, _, _ => Nat.le_refl _
  | d + 1, j, out => by
    unfold keptL
    split
    · have := keptL_len p l0 d (j + 1) (out ++ [J67 l0 (j : Int)])
      simp at this
      omega
    · have := keptL_len p l0 d (j + 1) out
      omega
end Go.Proofs.Ytagdkmcgepidoaa.P
