/-
  No cell of these rows narrows 'for every input' (looked for: loops, veiled, ifaces, maps, wideKeys, modest, calm, conditions, laid).
  DERIVED. THE GIVEN ROWS OF THIS SEAT. 4 by the template 'for every input the law returns true; each argument reads behind the call as it read before'; 0 by the template 'total and deterministic' (their statements: YtanlnfcjdjamaaaTotals.lean).
  GIVEN WITH THE SEED: the statements are not yours to turn. If you find one false, say at which input.
  Laid BY PROGRAM, IN A SANDBOX (cutbox-rows.mjs): the forced cells as the released guide's own fill.sh prints them over the translation 8c440195467abced… (all of the seat's roots in one cut). By AI agents, Wed Nov 11 2026. No macro, syntax, notation, axiom, sorry.
-/
import Derived.Test.YtanlnfcjdjamaaaChecked
import GoSem.Claim
import GoSem.ClaimJoined
import GoSem.ClaimMapViews
import Derived.JoinedTies
import Derived.KernelRfl
namespace Go.Proofs.Ytanlnfcjdjamaaa
/- THE CELL 'sum', in the pinned program and in every row, IS THE sha256 OF THE DUMP (.gsa) THAT YtanlnfcjdjamaaaProg.lean LOADS. Nothing in Lean hashes anything: it is a label: what it is worth is what the hold of that sum in a sandbox is worth. -/
noncomputable def Try.pinned : Pinned := { name := "ytanlnfcjdjamaaa", sum := "8c440195467abcedf59e3f670ceff1889082e4ca9f0bce54bb97ee5d93cc3003", checked := Try.checked }
namespace Rows
def none {H : Type} : Left H := { results := [], args := [] }

/-- 'larchlaw06.ModelDoes': WHATEVER THE INPUT: true; the input reads as it did. -/
def modelDoesSpec : ChangeSpec := { name := "modelDoes", fn := fun _ => fun
  | [d] => { results := [.lit (.bool true)], args := [d] }
  | _ => none }
def modelDoesRow : OpenClaim := { program := "ytanlnfcjdjamaaa", sum := "8c440195467abcedf59e3f670ceff1889082e4ca9f0bce54bb97ee5d93cc3003", func := "larch/larchlaw06.ModelDoes", spec := "modelDoes", inPlace := ["slices.overlaps[larch/api.Pair]"], unfollowed := true, recurses := true, apart := false }
def ModelDoesSaid : Prop := modelDoesRow.holds Try.pinned (OpenSpec.ofChange modelDoesSpec)

/-- ITS FALSE NEIGHBOUR: 'it returns false'. Refute it at one input. -/
def modelDoesWrong : ChangeSpec := { name := "modelDoes", fn := fun _ => fun
  | [d] => { results := [.lit (.bool false)], args := [d] }
  | _ => none }
def ModelDoesWrongFalsely : Prop := modelDoesRow.holds Try.pinned (OpenSpec.ofChange modelDoesWrong)

/-- 'larchlaw06.ModelLaws': WHATEVER THE INPUT: true; the input reads as it did. -/
def modelLawsSpec : ChangeSpec := { name := "modelLaws", fn := fun _ => fun
  | [d] => { results := [.lit (.bool true)], args := [d] }
  | _ => none }
def modelLawsRow : OpenClaim := { program := "ytanlnfcjdjamaaa", sum := "8c440195467abcedf59e3f670ceff1889082e4ca9f0bce54bb97ee5d93cc3003", func := "larch/larchlaw06.ModelLaws", spec := "modelLaws", inPlace := ["slices.overlaps[larch/api.Pair]"], unfollowed := true, recurses := true, apart := false }
def ModelLawsSaid : Prop := modelLawsRow.holds Try.pinned (OpenSpec.ofChange modelLawsSpec)

/-- ITS FALSE NEIGHBOUR: 'it returns false'. Refute it at one input. -/
def modelLawsWrong : ChangeSpec := { name := "modelLaws", fn := fun _ => fun
  | [d] => { results := [.lit (.bool false)], args := [d] }
  | _ => none }
def ModelLawsWrongFalsely : Prop := modelLawsRow.holds Try.pinned (OpenSpec.ofChange modelLawsWrong)

/-- 'larchlaw06.ModelMemory': WHATEVER THE INPUT: true; the input reads as it did. -/
def modelMemorySpec : ChangeSpec := { name := "modelMemory", fn := fun _ => fun
  | [d] => { results := [.lit (.bool true)], args := [d] }
  | _ => none }
def modelMemoryRow : OpenClaim := { program := "ytanlnfcjdjamaaa", sum := "8c440195467abcedf59e3f670ceff1889082e4ca9f0bce54bb97ee5d93cc3003", func := "larch/larchlaw06.ModelMemory", spec := "modelMemory", inPlace := ["slices.overlaps[larch/api.Pair]"], unfollowed := true, recurses := true, apart := false }
def ModelMemorySaid : Prop := modelMemoryRow.holds Try.pinned (OpenSpec.ofChange modelMemorySpec)

/-- ITS FALSE NEIGHBOUR: 'it returns false'. Refute it at one input. -/
def modelMemoryWrong : ChangeSpec := { name := "modelMemory", fn := fun _ => fun
  | [d] => { results := [.lit (.bool false)], args := [d] }
  | _ => none }
def ModelMemoryWrongFalsely : Prop := modelMemoryRow.holds Try.pinned (OpenSpec.ofChange modelMemoryWrong)

/-- 'larchlaw06.ModelLists': WHATEVER THE INPUT: true; the input reads as it did. -/
def modelListsSpec : ChangeSpec := { name := "modelLists", fn := fun _ => fun
  | [d] => { results := [.lit (.bool true)], args := [d] }
  | _ => none }
def modelListsRow : OpenClaim := { program := "ytanlnfcjdjamaaa", sum := "8c440195467abcedf59e3f670ceff1889082e4ca9f0bce54bb97ee5d93cc3003", func := "larch/larchlaw06.ModelLists", spec := "modelLists", inPlace := ["slices.overlaps[larch/api.Pair]"], unfollowed := true, recurses := true, apart := false }
def ModelListsSaid : Prop := modelListsRow.holds Try.pinned (OpenSpec.ofChange modelListsSpec)

/-- ITS FALSE NEIGHBOUR: 'it returns false'. Refute it at one input. -/
def modelListsWrong : ChangeSpec := { name := "modelLists", fn := fun _ => fun
  | [d] => { results := [.lit (.bool false)], args := [d] }
  | _ => none }
def ModelListsWrongFalsely : Prop := modelListsRow.holds Try.pinned (OpenSpec.ofChange modelListsWrong)

/- THE SECOND FORM. 'bulk': how many values and letters a reading holds, each counted each time it is reached (what is shared counts as often as it is met; a slice's spare places count too). A statement '..UptoSaid' is the law's where the arguments, and the package variables that the reading takes, are together of bulk at most 1048576: NARROWER than '..Said'. Prove '..Said' where nothing that the law and all that it calls make is longer than what came in: it says more and counts as full. Else prove '..UptoSaid'. A law counts once. -/
mutual
def uptoBulk {H : Type} : DataW H → Nat
  | .lit (.string bytes) => bytes.length + 1
  | .lit _ => 1
  | .nil => 1
  | .ptr d => uptoBulk d + 1
  | .slice elems spare => uptoBulkAll elems + uptoBulkAll spare + 1
  | .agg parts => uptoBulkAll parts + 1
  | .iface _ d => uptoBulk d + 1
  | .map entries => uptoBulkEntries entries + 1
  | .held _ => 1
def uptoBulkAll {H : Type} : List (DataW H) → Nat
  | [] => 0
  | d :: r => uptoBulk d + uptoBulkAll r
def uptoBulkEntries {H : Type} : List (Lit × DataW H) → Nat
  | [] => 0
  | x :: r => uptoBulkEntry x + uptoBulkEntries r
def uptoBulkEntry {H : Type} : Lit × DataW H → Nat
  | (.string bytes, d) => bytes.length + uptoBulk d + 1
  | (_, d) => uptoBulk d + 1
 end
def uptoSmall : (H : Type) → List (DataW H) → Bool := fun _ ds => decide (uptoBulkAll ds ≤ 1048576)
def OpenSpec.upto (s : _root_.Go.ChangeSpec) : _root_.Go.OpenSpec := { _root_.Go.OpenSpec.ofChange s with cond := some uptoSmall }

/-- 'larchlaw06.ModelDoes', WHERE WHAT IT READS IS OF BULK AT MOST 1048576: true; the input reads as it did. -/
def modelDoesUptoRow : OpenClaim := { program := "ytanlnfcjdjamaaa", sum := "8c440195467abcedf59e3f670ceff1889082e4ca9f0bce54bb97ee5d93cc3003", func := "larch/larchlaw06.ModelDoes", spec := "modelDoes", inPlace := ["slices.overlaps[larch/api.Pair]"], unfollowed := true, recurses := true, apart := false, narrowed := true }
def ModelDoesUptoSaid : Prop := modelDoesUptoRow.holds Try.pinned (OpenSpec.upto modelDoesSpec)

/-- 'larchlaw06.ModelLaws', WHERE WHAT IT READS IS OF BULK AT MOST 1048576: true; the input reads as it did. -/
def modelLawsUptoRow : OpenClaim := { program := "ytanlnfcjdjamaaa", sum := "8c440195467abcedf59e3f670ceff1889082e4ca9f0bce54bb97ee5d93cc3003", func := "larch/larchlaw06.ModelLaws", spec := "modelLaws", inPlace := ["slices.overlaps[larch/api.Pair]"], unfollowed := true, recurses := true, apart := false, narrowed := true }
def ModelLawsUptoSaid : Prop := modelLawsUptoRow.holds Try.pinned (OpenSpec.upto modelLawsSpec)

/-- 'larchlaw06.ModelMemory', WHERE WHAT IT READS IS OF BULK AT MOST 1048576: true; the input reads as it did. -/
def modelMemoryUptoRow : OpenClaim := { program := "ytanlnfcjdjamaaa", sum := "8c440195467abcedf59e3f670ceff1889082e4ca9f0bce54bb97ee5d93cc3003", func := "larch/larchlaw06.ModelMemory", spec := "modelMemory", inPlace := ["slices.overlaps[larch/api.Pair]"], unfollowed := true, recurses := true, apart := false, narrowed := true }
def ModelMemoryUptoSaid : Prop := modelMemoryUptoRow.holds Try.pinned (OpenSpec.upto modelMemorySpec)

/-- 'larchlaw06.ModelLists', WHERE WHAT IT READS IS OF BULK AT MOST 1048576: true; the input reads as it did. -/
def modelListsUptoRow : OpenClaim := { program := "ytanlnfcjdjamaaa", sum := "8c440195467abcedf59e3f670ceff1889082e4ca9f0bce54bb97ee5d93cc3003", func := "larch/larchlaw06.ModelLists", spec := "modelLists", inPlace := ["slices.overlaps[larch/api.Pair]"], unfollowed := true, recurses := true, apart := false, narrowed := true }
def ModelListsUptoSaid : Prop := modelListsUptoRow.holds Try.pinned (OpenSpec.upto modelListsSpec)

end Rows
end Go.Proofs.Ytanlnfcjdjamaaa
