/- P.weighMemory_holds, part 11 of 28: the contracts of the Go functions that the law calls, its own walk, and its plain law, for every input that the statement speaks of. -/
import Derived.Test.YtmmjkebboonnkaaMMe6
import Derived.BigRegion
import Derived.Test.YtmmjkebboonnkaaMMe2
import Derived.Test.YtmmjkebboonnkaaMMe3
set_option linter.unusedVariables false
set_option linter.unusedSimpArgs false
/- E10 -/
namespace Go.Proofs.Ytmmjkebboonnkaa.P
open Go.RowKit Go.Proofs.YtmmjkebboonnkaaW.PrintWords Go.Proofs.YtmmjkebboonnkaaW.PrintLast Go.Proofs.YtmmjkebboonnkaaW.PrintMore
def deepGo (l0 : List S49) (l : List Int) : Nat → Nat → List Int → Int → Option Int
  | 0, _, _, most => some most
  | d + 1, i, ds, most =>
    if (0 ≤ rd l (i : Int) ∧ rd l (i : Int) < (l0.length : Int)) ∧ rd l (i : Int) < (ds.length : Int) then
      if (J49 l0 (rd l (i : Int))).f4 = -1 ∧ (J49 l0 (rd l (i : Int))).f5 = -1 then deepGo l0 l d (i + 1) ds (mx most (rd ds (rd l (i : Int))))
      else if (0 ≤ (J49 l0 (rd l (i : Int))).f4 ∧ (J49 l0 (rd l (i : Int))).f4 < (ds.length : Int)) ∧ 0 ≤ (J49 l0 (rd l (i : Int))).f5 ∧ (J49 l0 (rd l (i : Int))).f5 < (ds.length : Int) then
        deepGo l0 l d (i + 1) ((ds.set (J49 l0 (rd l (i : Int))).f4.toNat (wrap64 (rd ds (rd l (i : Int)) + 1))).set (J49 l0 (rd l (i : Int))).f5.toNat (wrap64 (rd ds (rd l (i : Int)) + 1))) (mx most (rd ds (rd l (i : Int))))
      else none
    else none
def larchref17_Deep.f (k : Nat) (l0 : List (S49)) : Option (Int × Int) :=
  (larchref17_keys.f k l0).bind fun t => if t.2 = 0 then (larchref17_Order.f k l0 0).bind fun l => if l0.length ≤ 1000000 ∧ l.length ≤ 1000000 then (deepGo l0 l l.length 0 (List.replicate l0.length 0) 0).map fun m => (m, 0) else none else some (0, t.2)
end Go.Proofs.Ytmmjkebboonnkaa.P
