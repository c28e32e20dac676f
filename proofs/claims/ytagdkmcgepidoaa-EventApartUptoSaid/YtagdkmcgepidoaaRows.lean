/-
  No cell of these rows narrows 'for every input' (looked for: loops, veiled, ifaces, maps, wideKeys, modest, calm, conditions, laid).
  DERIVED. THE GIVEN ROWS OF THIS SEAT. 9 by the template 'for every input the law returns true; each argument reads behind the call as it read before'; 0 by the template 'total and deterministic' (their statements: YtagdkmcgepidoaaTotals.lean).
  GIVEN WITH THE SEED: the statements are not yours to turn. If you find one false, say at which input.
  Laid BY PROGRAM, IN A SANDBOX (cutbox-rows.mjs): the forced cells as the released guide's own fill.sh prints them over the translation 497d541f1a1a7741… (all of the seat's roots in one cut). By AI agents, Wed Nov 11 2026. No macro, syntax, notation, axiom, sorry.
-/
import Derived.Test.YtagdkmcgepidoaaChecked
import GoSem.Claim
import GoSem.ClaimJoined
import GoSem.ClaimMapViews
import Derived.JoinedTies
import Derived.KernelRfl
namespace Go.Proofs.Ytagdkmcgepidoaa
/- THE CELL 'sum', in the pinned program and in every row, IS THE sha256 OF THE DUMP (.gsa) THAT YtagdkmcgepidoaaProg.lean LOADS. Nothing in Lean hashes anything: it is a label: what it is worth is what the hold of that sum in a sandbox is worth. -/
noncomputable def Try.pinned : Pinned := { name := "ytagdkmcgepidoaa", sum := "497d541f1a1a77411a95bfdc37d05e117cdf21df1c60b750c28907ad2aded0a1", checked := Try.checked }
namespace Rows
def none {H : Type} : Left H := { results := [], args := [] }

/-- 'larchlaw05.EventAhead': WHATEVER THE INPUT: true; the input reads as it did. -/
def eventAheadSpec : ChangeSpec := { name := "eventAhead", fn := fun _ => fun
  | [d] => { results := [.lit (.bool true)], args := [d] }
  | _ => none }
def eventAheadRow : OpenClaim := { program := "ytagdkmcgepidoaa", sum := "497d541f1a1a77411a95bfdc37d05e117cdf21df1c60b750c28907ad2aded0a1", func := "larch/larchlaw05.EventAhead", spec := "eventAhead", unfollowed := true, recurses := true, apart := false }
def EventAheadSaid : Prop := eventAheadRow.holds Try.pinned (OpenSpec.ofChange eventAheadSpec)

/-- ITS FALSE NEIGHBOUR: 'it returns false'. Refute it at one input. -/
def eventAheadWrong : ChangeSpec := { name := "eventAhead", fn := fun _ => fun
  | [d] => { results := [.lit (.bool false)], args := [d] }
  | _ => none }
def EventAheadWrongFalsely : Prop := eventAheadRow.holds Try.pinned (OpenSpec.ofChange eventAheadWrong)

/-- 'larchlaw05.EventOrders': WHATEVER THE INPUT: true; the input reads as it did. -/
def eventOrdersSpec : ChangeSpec := { name := "eventOrders", fn := fun _ => fun
  | [d1, d2] => { results := [.lit (.bool true)], args := [d1, d2] }
  | _ => none }
def eventOrdersRow : OpenClaim := { program := "ytagdkmcgepidoaa", sum := "497d541f1a1a77411a95bfdc37d05e117cdf21df1c60b750c28907ad2aded0a1", func := "larch/larchlaw05.EventOrders", spec := "eventOrders", unfollowed := true, recurses := true, apart := false }
def EventOrdersSaid : Prop := eventOrdersRow.holds Try.pinned (OpenSpec.ofChange eventOrdersSpec)

/-- ITS FALSE NEIGHBOUR: 'it returns false'. Refute it at one input. -/
def eventOrdersWrong : ChangeSpec := { name := "eventOrders", fn := fun _ => fun
  | [d1, d2] => { results := [.lit (.bool false)], args := [d1, d2] }
  | _ => none }
def EventOrdersWrongFalsely : Prop := eventOrdersRow.holds Try.pinned (OpenSpec.ofChange eventOrdersWrong)

/-- 'larchlaw05.EventPlaces': WHATEVER THE INPUT: true; the input reads as it did. -/
def eventPlacesSpec : ChangeSpec := { name := "eventPlaces", fn := fun _ => fun
  | [d1, d2, d3] => { results := [.lit (.bool true)], args := [d1, d2, d3] }
  | _ => none }
def eventPlacesRow : OpenClaim := { program := "ytagdkmcgepidoaa", sum := "497d541f1a1a77411a95bfdc37d05e117cdf21df1c60b750c28907ad2aded0a1", func := "larch/larchlaw05.EventPlaces", spec := "eventPlaces", unfollowed := true, recurses := true, apart := false }
def EventPlacesSaid : Prop := eventPlacesRow.holds Try.pinned (OpenSpec.ofChange eventPlacesSpec)

/-- ITS FALSE NEIGHBOUR: 'it returns false'. Refute it at one input. -/
def eventPlacesWrong : ChangeSpec := { name := "eventPlaces", fn := fun _ => fun
  | [d1, d2, d3] => { results := [.lit (.bool false)], args := [d1, d2, d3] }
  | _ => none }
def EventPlacesWrongFalsely : Prop := eventPlacesRow.holds Try.pinned (OpenSpec.ofChange eventPlacesWrong)

/-- 'larchlaw05.EventParts': WHATEVER THE INPUT: true; the input reads as it did. -/
def eventPartsSpec : ChangeSpec := { name := "eventParts", fn := fun _ => fun
  | [d1, d2, d3] => { results := [.lit (.bool true)], args := [d1, d2, d3] }
  | _ => none }
def eventPartsRow : OpenClaim := { program := "ytagdkmcgepidoaa", sum := "497d541f1a1a77411a95bfdc37d05e117cdf21df1c60b750c28907ad2aded0a1", func := "larch/larchlaw05.EventParts", spec := "eventParts", unfollowed := true, recurses := true, apart := false }
def EventPartsSaid : Prop := eventPartsRow.holds Try.pinned (OpenSpec.ofChange eventPartsSpec)

/-- ITS FALSE NEIGHBOUR: 'it returns false'. Refute it at one input. -/
def eventPartsWrong : ChangeSpec := { name := "eventParts", fn := fun _ => fun
  | [d1, d2, d3] => { results := [.lit (.bool false)], args := [d1, d2, d3] }
  | _ => none }
def EventPartsWrongFalsely : Prop := eventPartsRow.holds Try.pinned (OpenSpec.ofChange eventPartsWrong)

/-- 'larchlaw05.EventSame': WHATEVER THE INPUT: true; the input reads as it did. -/
def eventSameSpec : ChangeSpec := { name := "eventSame", fn := fun _ => fun
  | [d1, d2] => { results := [.lit (.bool true)], args := [d1, d2] }
  | _ => none }
def eventSameRow : OpenClaim := { program := "ytagdkmcgepidoaa", sum := "497d541f1a1a77411a95bfdc37d05e117cdf21df1c60b750c28907ad2aded0a1", func := "larch/larchlaw05.EventSame", spec := "eventSame", unfollowed := true, recurses := true, apart := false }
def EventSameSaid : Prop := eventSameRow.holds Try.pinned (OpenSpec.ofChange eventSameSpec)

/-- ITS FALSE NEIGHBOUR: 'it returns false'. Refute it at one input. -/
def eventSameWrong : ChangeSpec := { name := "eventSame", fn := fun _ => fun
  | [d1, d2] => { results := [.lit (.bool false)], args := [d1, d2] }
  | _ => none }
def EventSameWrongFalsely : Prop := eventSameRow.holds Try.pinned (OpenSpec.ofChange eventSameWrong)

/-- 'larchlaw05.EventCalls': WHATEVER THE INPUT: true; the input reads as it did. -/
def eventCallsSpec : ChangeSpec := { name := "eventCalls", fn := fun _ => fun
  | [d1, d2] => { results := [.lit (.bool true)], args := [d1, d2] }
  | _ => none }
def eventCallsRow : OpenClaim := { program := "ytagdkmcgepidoaa", sum := "497d541f1a1a77411a95bfdc37d05e117cdf21df1c60b750c28907ad2aded0a1", func := "larch/larchlaw05.EventCalls", spec := "eventCalls", unfollowed := true, recurses := true, apart := false }
def EventCallsSaid : Prop := eventCallsRow.holds Try.pinned (OpenSpec.ofChange eventCallsSpec)

/-- ITS FALSE NEIGHBOUR: 'it returns false'. Refute it at one input. -/
def eventCallsWrong : ChangeSpec := { name := "eventCalls", fn := fun _ => fun
  | [d1, d2] => { results := [.lit (.bool false)], args := [d1, d2] }
  | _ => none }
def EventCallsWrongFalsely : Prop := eventCallsRow.holds Try.pinned (OpenSpec.ofChange eventCallsWrong)

/-- 'larchlaw05.EventRows': WHATEVER THE INPUT: true; the input reads as it did. -/
def eventRowsSpec : ChangeSpec := { name := "eventRows", fn := fun _ => fun
  | [d] => { results := [.lit (.bool true)], args := [d] }
  | _ => none }
def eventRowsRow : OpenClaim := { program := "ytagdkmcgepidoaa", sum := "497d541f1a1a77411a95bfdc37d05e117cdf21df1c60b750c28907ad2aded0a1", func := "larch/larchlaw05.EventRows", spec := "eventRows", unfollowed := true, recurses := true, apart := false }
def EventRowsSaid : Prop := eventRowsRow.holds Try.pinned (OpenSpec.ofChange eventRowsSpec)

/-- ITS FALSE NEIGHBOUR: 'it returns false'. Refute it at one input. -/
def eventRowsWrong : ChangeSpec := { name := "eventRows", fn := fun _ => fun
  | [d] => { results := [.lit (.bool false)], args := [d] }
  | _ => none }
def EventRowsWrongFalsely : Prop := eventRowsRow.holds Try.pinned (OpenSpec.ofChange eventRowsWrong)

/-- 'larchlaw05.EventTurns': WHATEVER THE INPUT: true; the input reads as it did. -/
def eventTurnsSpec : ChangeSpec := { name := "eventTurns", fn := fun _ => fun
  | [d1, d2] => { results := [.lit (.bool true)], args := [d1, d2] }
  | _ => none }
def eventTurnsRow : OpenClaim := { program := "ytagdkmcgepidoaa", sum := "497d541f1a1a77411a95bfdc37d05e117cdf21df1c60b750c28907ad2aded0a1", func := "larch/larchlaw05.EventTurns", spec := "eventTurns", unfollowed := true, recurses := true, apart := false }
def EventTurnsSaid : Prop := eventTurnsRow.holds Try.pinned (OpenSpec.ofChange eventTurnsSpec)

/-- ITS FALSE NEIGHBOUR: 'it returns false'. Refute it at one input. -/
def eventTurnsWrong : ChangeSpec := { name := "eventTurns", fn := fun _ => fun
  | [d1, d2] => { results := [.lit (.bool false)], args := [d1, d2] }
  | _ => none }
def EventTurnsWrongFalsely : Prop := eventTurnsRow.holds Try.pinned (OpenSpec.ofChange eventTurnsWrong)

/-- 'larchlaw05.EventApart': WHATEVER THE INPUT: true; the input reads as it did. -/
def eventApartSpec : ChangeSpec := { name := "eventApart", fn := fun _ => fun
  | [d] => { results := [.lit (.bool true)], args := [d] }
  | _ => none }
def eventApartRow : OpenClaim := { program := "ytagdkmcgepidoaa", sum := "497d541f1a1a77411a95bfdc37d05e117cdf21df1c60b750c28907ad2aded0a1", func := "larch/larchlaw05.EventApart", spec := "eventApart", unfollowed := true, recurses := true, apart := false }
def EventApartSaid : Prop := eventApartRow.holds Try.pinned (OpenSpec.ofChange eventApartSpec)

/-- ITS FALSE NEIGHBOUR: 'it returns false'. Refute it at one input. -/
def eventApartWrong : ChangeSpec := { name := "eventApart", fn := fun _ => fun
  | [d] => { results := [.lit (.bool false)], args := [d] }
  | _ => none }
def EventApartWrongFalsely : Prop := eventApartRow.holds Try.pinned (OpenSpec.ofChange eventApartWrong)

/- THE SECOND FORM. 'bulk': how many values and letters a reading holds, each counted each time it is reached (what is shared counts as often as it is met; a slice's spare places count too). A statement '..UptoSaid' is the law's where the arguments, and the package variables that the reading takes, are together of bulk at most 1048576: NARROWER than '..Said'. Prove '..Said' where nothing that the law and all that it calls make is longer than what came in: it says more and counts as full. Else prove '..UptoSaid'. A law counts once. -/
mutual
def uptoBulk {H : Type} : DataW H → Nat
  | .lit (.string bytes) => bytes.length + 1
  | .lit _ => 1
  | .nil => 1
  | .ptr d => uptoBulk d + 1
  | .slice elems spare => uptoBulkAll elems + uptoBulkAll spare + 1
  | .agg parts => uptoBulkAll parts + 1
  | .iface _ d => uptoBulk d + 1
  | .map entries => uptoBulkEntries entries + 1
  | .held _ => 1
def uptoBulkAll {H : Type} : List (DataW H) → Nat
  | [] => 0
  | d :: r => uptoBulk d + uptoBulkAll r
def uptoBulkEntries {H : Type} : List (Lit × DataW H) → Nat
  | [] => 0
  | x :: r => uptoBulkEntry x + uptoBulkEntries r
def uptoBulkEntry {H : Type} : Lit × DataW H → Nat
  | (.string bytes, d) => bytes.length + uptoBulk d + 1
  | (_, d) => uptoBulk d + 1
 end
def uptoSmall : (H : Type) → List (DataW H) → Bool := fun _ ds => decide (uptoBulkAll ds ≤ 1048576)
def OpenSpec.upto (s : _root_.Go.ChangeSpec) : _root_.Go.OpenSpec := { _root_.Go.OpenSpec.ofChange s with cond := some uptoSmall }

/-- 'larchlaw05.EventAhead', WHERE WHAT IT READS IS OF BULK AT MOST 1048576: true; the input reads as it did. -/
def eventAheadUptoRow : OpenClaim := { program := "ytagdkmcgepidoaa", sum := "497d541f1a1a77411a95bfdc37d05e117cdf21df1c60b750c28907ad2aded0a1", func := "larch/larchlaw05.EventAhead", spec := "eventAhead", unfollowed := true, recurses := true, apart := false, narrowed := true }
def EventAheadUptoSaid : Prop := eventAheadUptoRow.holds Try.pinned (OpenSpec.upto eventAheadSpec)

/-- 'larchlaw05.EventOrders', WHERE WHAT IT READS IS OF BULK AT MOST 1048576: true; the input reads as it did. -/
def eventOrdersUptoRow : OpenClaim := { program := "ytagdkmcgepidoaa", sum := "497d541f1a1a77411a95bfdc37d05e117cdf21df1c60b750c28907ad2aded0a1", func := "larch/larchlaw05.EventOrders", spec := "eventOrders", unfollowed := true, recurses := true, apart := false, narrowed := true }
def EventOrdersUptoSaid : Prop := eventOrdersUptoRow.holds Try.pinned (OpenSpec.upto eventOrdersSpec)

/-- 'larchlaw05.EventPlaces', WHERE WHAT IT READS IS OF BULK AT MOST 1048576: true; the input reads as it did. -/
def eventPlacesUptoRow : OpenClaim := { program := "ytagdkmcgepidoaa", sum := "497d541f1a1a77411a95bfdc37d05e117cdf21df1c60b750c28907ad2aded0a1", func := "larch/larchlaw05.EventPlaces", spec := "eventPlaces", unfollowed := true, recurses := true, apart := false, narrowed := true }
def EventPlacesUptoSaid : Prop := eventPlacesUptoRow.holds Try.pinned (OpenSpec.upto eventPlacesSpec)

/-- 'larchlaw05.EventParts', WHERE WHAT IT READS IS OF BULK AT MOST 1048576: true; the input reads as it did. -/
def eventPartsUptoRow : OpenClaim := { program := "ytagdkmcgepidoaa", sum := "497d541f1a1a77411a95bfdc37d05e117cdf21df1c60b750c28907ad2aded0a1", func := "larch/larchlaw05.EventParts", spec := "eventParts", unfollowed := true, recurses := true, apart := false, narrowed := true }
def EventPartsUptoSaid : Prop := eventPartsUptoRow.holds Try.pinned (OpenSpec.upto eventPartsSpec)

/-- 'larchlaw05.EventSame', WHERE WHAT IT READS IS OF BULK AT MOST 1048576: true; the input reads as it did. -/
def eventSameUptoRow : OpenClaim := { program := "ytagdkmcgepidoaa", sum := "497d541f1a1a77411a95bfdc37d05e117cdf21df1c60b750c28907ad2aded0a1", func := "larch/larchlaw05.EventSame", spec := "eventSame", unfollowed := true, recurses := true, apart := false, narrowed := true }
def EventSameUptoSaid : Prop := eventSameUptoRow.holds Try.pinned (OpenSpec.upto eventSameSpec)

/-- 'larchlaw05.EventCalls', WHERE WHAT IT READS IS OF BULK AT MOST 1048576: true; the input reads as it did. -/
def eventCallsUptoRow : OpenClaim := { program := "ytagdkmcgepidoaa", sum := "497d541f1a1a77411a95bfdc37d05e117cdf21df1c60b750c28907ad2aded0a1", func := "larch/larchlaw05.EventCalls", spec := "eventCalls", unfollowed := true, recurses := true, apart := false, narrowed := true }
def EventCallsUptoSaid : Prop := eventCallsUptoRow.holds Try.pinned (OpenSpec.upto eventCallsSpec)

/-- 'larchlaw05.EventRows', WHERE WHAT IT READS IS OF BULK AT MOST 1048576: true; the input reads as it did. -/
def eventRowsUptoRow : OpenClaim := { program := "ytagdkmcgepidoaa", sum := "497d541f1a1a77411a95bfdc37d05e117cdf21df1c60b750c28907ad2aded0a1", func := "larch/larchlaw05.EventRows", spec := "eventRows", unfollowed := true, recurses := true, apart := false, narrowed := true }
def EventRowsUptoSaid : Prop := eventRowsUptoRow.holds Try.pinned (OpenSpec.upto eventRowsSpec)

/-- 'larchlaw05.EventTurns', WHERE WHAT IT READS IS OF BULK AT MOST 1048576: true; the input reads as it did. -/
def eventTurnsUptoRow : OpenClaim := { program := "ytagdkmcgepidoaa", sum := "497d541f1a1a77411a95bfdc37d05e117cdf21df1c60b750c28907ad2aded0a1", func := "larch/larchlaw05.EventTurns", spec := "eventTurns", unfollowed := true, recurses := true, apart := false, narrowed := true }
def EventTurnsUptoSaid : Prop := eventTurnsUptoRow.holds Try.pinned (OpenSpec.upto eventTurnsSpec)

/-- 'larchlaw05.EventApart', WHERE WHAT IT READS IS OF BULK AT MOST 1048576: true; the input reads as it did. -/
def eventApartUptoRow : OpenClaim := { program := "ytagdkmcgepidoaa", sum := "497d541f1a1a77411a95bfdc37d05e117cdf21df1c60b750c28907ad2aded0a1", func := "larch/larchlaw05.EventApart", spec := "eventApart", unfollowed := true, recurses := true, apart := false, narrowed := true }
def EventApartUptoSaid : Prop := eventApartUptoRow.holds Try.pinned (OpenSpec.upto eventApartSpec)

end Rows
end Go.Proofs.Ytagdkmcgepidoaa
