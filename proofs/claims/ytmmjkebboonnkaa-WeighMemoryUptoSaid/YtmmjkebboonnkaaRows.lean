/-
  No cell of these rows narrows 'for every input' (looked for: loops, veiled, ifaces, maps, wideKeys, modest, calm, conditions, laid).
  DERIVED. THE GIVEN ROWS OF THIS SEAT. 5 by the template 'for every input the law returns true; each argument reads behind the call as it read before'; 0 by the template 'total and deterministic' (their statements: YtmmjkebboonnkaaTotals.lean).
  GIVEN WITH THE SEED: the statements are not yours to turn. If you find one false, say at which input.
  Laid BY PROGRAM, IN A SANDBOX (cutbox-rows.mjs): the forced cells as the released guide's own fill.sh prints them over the translation 9ef1f1ad915e2b17… (all of the seat's roots in one cut). By AI agents, Wed Nov 11 2026. No macro, syntax, notation, axiom, sorry.
-/
import Derived.Test.YtmmjkebboonnkaaChecked
import GoSem.Claim
import GoSem.ClaimJoined
import GoSem.ClaimMapViews
import Derived.JoinedTies
import Derived.KernelRfl
namespace Go.Proofs.Ytmmjkebboonnkaa
/- THE CELL 'sum', in the pinned program and in every row, IS THE sha256 OF THE DUMP (.gsa) THAT YtmmjkebboonnkaaProg.lean LOADS. Nothing in Lean hashes anything: it is a label: what it is worth is what the hold of that sum in a sandbox is worth. -/
noncomputable def Try.pinned : Pinned := { name := "ytmmjkebboonnkaa", sum := "9ef1f1ad915e2b17bbfd7aafc6205fc6ef8fdfbee6269b086c34f34ac52ad200", checked := Try.checked }
namespace Rows
def none {H : Type} : Left H := { results := [], args := [] }

/-- 'larchlaw17.WeighFaults': WHATEVER THE INPUT: true; the input reads as it did. -/
def weighFaultsSpec : ChangeSpec := { name := "weighFaults", fn := fun _ => fun
  | [d] => { results := [.lit (.bool true)], args := [d] }
  | _ => none }
def weighFaultsRow : OpenClaim := { program := "ytmmjkebboonnkaa", sum := "9ef1f1ad915e2b17bbfd7aafc6205fc6ef8fdfbee6269b086c34f34ac52ad200", func := "larch/larchlaw17.WeighFaults", spec := "weighFaults", unfollowed := true, recurses := true, apart := false }
def WeighFaultsSaid : Prop := weighFaultsRow.holds Try.pinned (OpenSpec.ofChange weighFaultsSpec)

/-- ITS FALSE NEIGHBOUR: 'it returns false'. Refute it at one input. -/
def weighFaultsWrong : ChangeSpec := { name := "weighFaults", fn := fun _ => fun
  | [d] => { results := [.lit (.bool false)], args := [d] }
  | _ => none }
def WeighFaultsWrongFalsely : Prop := weighFaultsRow.holds Try.pinned (OpenSpec.ofChange weighFaultsWrong)

/-- 'larchlaw17.WeighHeavy': WHATEVER THE INPUT: true; the input reads as it did. -/
def weighHeavySpec : ChangeSpec := { name := "weighHeavy", fn := fun _ => fun
  | [d] => { results := [.lit (.bool true)], args := [d] }
  | _ => none }
def weighHeavyRow : OpenClaim := { program := "ytmmjkebboonnkaa", sum := "9ef1f1ad915e2b17bbfd7aafc6205fc6ef8fdfbee6269b086c34f34ac52ad200", func := "larch/larchlaw17.WeighHeavy", spec := "weighHeavy", unfollowed := true, recurses := true, apart := false }
def WeighHeavySaid : Prop := weighHeavyRow.holds Try.pinned (OpenSpec.ofChange weighHeavySpec)

/-- ITS FALSE NEIGHBOUR: 'it returns false'. Refute it at one input. -/
def weighHeavyWrong : ChangeSpec := { name := "weighHeavy", fn := fun _ => fun
  | [d] => { results := [.lit (.bool false)], args := [d] }
  | _ => none }
def WeighHeavyWrongFalsely : Prop := weighHeavyRow.holds Try.pinned (OpenSpec.ofChange weighHeavyWrong)

/-- 'larchlaw17.WeighMemory': WHATEVER THE INPUT: true; the input reads as it did. -/
def weighMemorySpec : ChangeSpec := { name := "weighMemory", fn := fun _ => fun
  | [d] => { results := [.lit (.bool true)], args := [d] }
  | _ => none }
def weighMemoryRow : OpenClaim := { program := "ytmmjkebboonnkaa", sum := "9ef1f1ad915e2b17bbfd7aafc6205fc6ef8fdfbee6269b086c34f34ac52ad200", func := "larch/larchlaw17.WeighMemory", spec := "weighMemory", unfollowed := true, recurses := true, apart := false }
def WeighMemorySaid : Prop := weighMemoryRow.holds Try.pinned (OpenSpec.ofChange weighMemorySpec)

/-- ITS FALSE NEIGHBOUR: 'it returns false'. Refute it at one input. -/
def weighMemoryWrong : ChangeSpec := { name := "weighMemory", fn := fun _ => fun
  | [d] => { results := [.lit (.bool false)], args := [d] }
  | _ => none }
def WeighMemoryWrongFalsely : Prop := weighMemoryRow.holds Try.pinned (OpenSpec.ofChange weighMemoryWrong)

/-- 'larchlaw17.WeighBound': WHATEVER THE INPUT: true; the input reads as it did. -/
def weighBoundSpec : ChangeSpec := { name := "weighBound", fn := fun _ => fun
  | [d] => { results := [.lit (.bool true)], args := [d] }
  | _ => none }
def weighBoundRow : OpenClaim := { program := "ytmmjkebboonnkaa", sum := "9ef1f1ad915e2b17bbfd7aafc6205fc6ef8fdfbee6269b086c34f34ac52ad200", func := "larch/larchlaw17.WeighBound", spec := "weighBound", unfollowed := true, recurses := true, apart := false }
def WeighBoundSaid : Prop := weighBoundRow.holds Try.pinned (OpenSpec.ofChange weighBoundSpec)

/-- ITS FALSE NEIGHBOUR: 'it returns false'. Refute it at one input. -/
def weighBoundWrong : ChangeSpec := { name := "weighBound", fn := fun _ => fun
  | [d] => { results := [.lit (.bool false)], args := [d] }
  | _ => none }
def WeighBoundWrongFalsely : Prop := weighBoundRow.holds Try.pinned (OpenSpec.ofChange weighBoundWrong)

/-- 'larchlaw17.WeighSums': WHATEVER THE INPUT: true; the input reads as it did. -/
def weighSumsSpec : ChangeSpec := { name := "weighSums", fn := fun _ => fun
  | [d] => { results := [.lit (.bool true)], args := [d] }
  | _ => none }
def weighSumsRow : OpenClaim := { program := "ytmmjkebboonnkaa", sum := "9ef1f1ad915e2b17bbfd7aafc6205fc6ef8fdfbee6269b086c34f34ac52ad200", func := "larch/larchlaw17.WeighSums", spec := "weighSums", unfollowed := true, recurses := true, apart := false }
def WeighSumsSaid : Prop := weighSumsRow.holds Try.pinned (OpenSpec.ofChange weighSumsSpec)

/-- ITS FALSE NEIGHBOUR: 'it returns false'. Refute it at one input. -/
def weighSumsWrong : ChangeSpec := { name := "weighSums", fn := fun _ => fun
  | [d] => { results := [.lit (.bool false)], args := [d] }
  | _ => none }
def WeighSumsWrongFalsely : Prop := weighSumsRow.holds Try.pinned (OpenSpec.ofChange weighSumsWrong)

/- THE SECOND FORM. 'bulk': how many values and letters a reading holds, each counted each time it is reached (what is shared counts as often as it is met; a slice's spare places count too). A statement '..UptoSaid' is the law's where the arguments, and the package variables that the reading takes, are together of bulk at most 1048576: NARROWER than '..Said'. Prove '..Said' where nothing that the law and all that it calls make is longer than what came in: it says more and counts as full. Else prove '..UptoSaid'. A law counts once. -/
mutual
def uptoBulk {H : Type} : DataW H → Nat
  | .lit (.string bytes) => bytes.length + 1
  | .lit _ => 1
  | .nil => 1
  | .ptr d => uptoBulk d + 1
  | .slice elems spare => uptoBulkAll elems + uptoBulkAll spare + 1
  | .agg parts => uptoBulkAll parts + 1
  | .iface _ d => uptoBulk d + 1
  | .map entries => uptoBulkEntries entries + 1
  | .held _ => 1
def uptoBulkAll {H : Type} : List (DataW H) → Nat
  | [] => 0
  | d :: r => uptoBulk d + uptoBulkAll r
def uptoBulkEntries {H : Type} : List (Lit × DataW H) → Nat
  | [] => 0
  | x :: r => uptoBulkEntry x + uptoBulkEntries r
def uptoBulkEntry {H : Type} : Lit × DataW H → Nat
  | (.string bytes, d) => bytes.length + uptoBulk d + 1
  | (_, d) => uptoBulk d + 1
 end
def uptoSmall : (H : Type) → List (DataW H) → Bool := fun _ ds => decide (uptoBulkAll ds ≤ 1048576)
def OpenSpec.upto (s : _root_.Go.ChangeSpec) : _root_.Go.OpenSpec := { _root_.Go.OpenSpec.ofChange s with cond := some uptoSmall }

/-- 'larchlaw17.WeighFaults', WHERE WHAT IT READS IS OF BULK AT MOST 1048576: true; the input reads as it did. -/
def weighFaultsUptoRow : OpenClaim := { program := "ytmmjkebboonnkaa", sum := "9ef1f1ad915e2b17bbfd7aafc6205fc6ef8fdfbee6269b086c34f34ac52ad200", func := "larch/larchlaw17.WeighFaults", spec := "weighFaults", unfollowed := true, recurses := true, apart := false, narrowed := true }
def WeighFaultsUptoSaid : Prop := weighFaultsUptoRow.holds Try.pinned (OpenSpec.upto weighFaultsSpec)

/-- 'larchlaw17.WeighHeavy', WHERE WHAT IT READS IS OF BULK AT MOST 1048576: true; the input reads as it did. -/
def weighHeavyUptoRow : OpenClaim := { program := "ytmmjkebboonnkaa", sum := "9ef1f1ad915e2b17bbfd7aafc6205fc6ef8fdfbee6269b086c34f34ac52ad200", func := "larch/larchlaw17.WeighHeavy", spec := "weighHeavy", unfollowed := true, recurses := true, apart := false, narrowed := true }
def WeighHeavyUptoSaid : Prop := weighHeavyUptoRow.holds Try.pinned (OpenSpec.upto weighHeavySpec)

/-- 'larchlaw17.WeighMemory', WHERE WHAT IT READS IS OF BULK AT MOST 1048576: true; the input reads as it did. -/
def weighMemoryUptoRow : OpenClaim := { program := "ytmmjkebboonnkaa", sum := "9ef1f1ad915e2b17bbfd7aafc6205fc6ef8fdfbee6269b086c34f34ac52ad200", func := "larch/larchlaw17.WeighMemory", spec := "weighMemory", unfollowed := true, recurses := true, apart := false, narrowed := true }
def WeighMemoryUptoSaid : Prop := weighMemoryUptoRow.holds Try.pinned (OpenSpec.upto weighMemorySpec)

/-- 'larchlaw17.WeighBound', WHERE WHAT IT READS IS OF BULK AT MOST 1048576: true; the input reads as it did. -/
def weighBoundUptoRow : OpenClaim := { program := "ytmmjkebboonnkaa", sum := "9ef1f1ad915e2b17bbfd7aafc6205fc6ef8fdfbee6269b086c34f34ac52ad200", func := "larch/larchlaw17.WeighBound", spec := "weighBound", unfollowed := true, recurses := true, apart := false, narrowed := true }
def WeighBoundUptoSaid : Prop := weighBoundUptoRow.holds Try.pinned (OpenSpec.upto weighBoundSpec)

/-- 'larchlaw17.WeighSums', WHERE WHAT IT READS IS OF BULK AT MOST 1048576: true; the input reads as it did. -/
def weighSumsUptoRow : OpenClaim := { program := "ytmmjkebboonnkaa", sum := "9ef1f1ad915e2b17bbfd7aafc6205fc6ef8fdfbee6269b086c34f34ac52ad200", func := "larch/larchlaw17.WeighSums", spec := "weighSums", unfollowed := true, recurses := true, apart := false, narrowed := true }
def WeighSumsUptoSaid : Prop := weighSumsUptoRow.holds Try.pinned (OpenSpec.upto weighSumsSpec)

end Rows
end Go.Proofs.Ytmmjkebboonnkaa
