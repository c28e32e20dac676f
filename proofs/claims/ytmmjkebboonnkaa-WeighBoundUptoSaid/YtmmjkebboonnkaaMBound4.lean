/- P.weighBound_holds, part 5 of 22: the contracts of the Go functions that the law calls, its own walk, and its plain law, for every input that the statement speaks of. -/
import Derived.Test.YtmmjkebboonnkaaMBound3
import Derived.RegionTactic
import Derived.ChangeAlike
import Derived.Outline
import Derived.Test.YtmmjkebboonnkaaMBound2
set_option linter.unusedVariables false
set_option linter.unusedSimpArgs false
/- E8 -/
namespace Go.Proofs.Ytmmjkebboonnkaa.P
open Go.RowKit Go.Proofs.YtmmjkebboonnkaaW.PrintWords Go.Proofs.YtmmjkebboonnkaaW.PrintLast Go.Proofs.YtmmjkebboonnkaaW.PrintMore
def numGo (l : List Int) : Nat → Nat → List Int → Option (List Int)
  | 0, _, num => some num
  | d + 1, i, num => if 0 ≤ rd l (i : Int) ∧ rd l (i : Int) < (num.length : Int) then numGo l d (i + 1) (num.set (rd l (i : Int)).toNat i) else none
def renum (num : List Int) (n : S49) : S49 := if n.f4 = -1 ∧ n.f5 = -1 then n else ⟨n.f0, n.f1, n.f2, n.f3, rd num n.f4, rd num n.f5⟩
def outGo (l0 : List S49) (l num : List Int) : Nat → Nat → List S49 → Option (List S49)
  | 0, _, out => some out
  | d + 1, i, out =>
    if (0 ≤ rd l (i : Int) ∧ rd l (i : Int) < (l0.length : Int) ∧ out.length < 1000000) ∧
       ((J49 l0 (rd l (i : Int))).f4 = -1 ∧ (J49 l0 (rd l (i : Int))).f5 = -1 ∨
        (0 ≤ (J49 l0 (rd l (i : Int))).f4 ∧ (J49 l0 (rd l (i : Int))).f4 < (num.length : Int)) ∧ 0 ≤ (J49 l0 (rd l (i : Int))).f5 ∧ (J49 l0 (rd l (i : Int))).f5 < (num.length : Int)) then
      outGo l0 l num d (i + 1) (out ++ [renum num (J49 l0 (rd l (i : Int)))])
    else none
def subOf (l0 : List S49) (l : List Int) : Option (List S49) :=
  if l0.length ≤ 1000000 ∧ l.length ≤ 1000000 then (numGo l l.length 0 (List.replicate l0.length 0)).bind fun num => outGo l0 l num l.length 0 [] else none
end Go.Proofs.Ytmmjkebboonnkaa.P
