/- P.eventApart_holds, part 3 of 41: the contracts of the Go functions that the law calls, its own walk, and its plain law, for every input that the statement speaks of. -/
import Derived.Test.YtagdkmcgepidoaaProg
import Derived.Below
import Derived.Deep.Draws
import Derived.Deep.AppendLies
import Derived.Maps.AppendAt
import Derived.OwnWalk
import Derived.Laws.BytesArg
import Derived.Laws.MakeOwn
import Derived.Laws.OwnMore
import Derived.Deep.OwnRows
import Derived.Tactics
import Derived.Lib.ConvBytes
import Derived.Laws.Slices
import Derived.WalkKit
import Derived.KernelRfl
import Derived.RowKit3
import Derived.Deep.LoopGhost
import Derived.Deep.QuietTactic
import Derived.BigQuiet
import Derived.WideLaws
import Derived.Deep.DeepCutAuto
import Derived.Deep.CutBlock
import Derived.Deep.RegionHeld3
import Derived.Laws.Rows
import Derived.Lib.AppendStr
import Derived.ArgAppend
import Derived.Laws.IdiomCopy
import Derived.OrdersHeld
import Derived.Laws.BitsLemmas
import Derived.RowKit
import Derived.Test.YtagdkmcgepidoaaMAp0
import Derived.Test.YtagdkmcgepidoaaMAp1
set_option linter.unusedVariables false
set_option linter.unusedSimpArgs false
/- F0 -/
namespace Go.Proofs.Ytagdkmcgepidoaa.P
open Go.RowKit Go.Proofs.YtagdkmcgepidoaaW.PrintWords Go.Proofs.YtagdkmcgepidoaaW.PrintLast Go.Proofs.YtagdkmcgepidoaaW.PrintMore
attribute [local go_sem] max2_int min2_int max_two min_two max_three min_three max_four min_four   -- for this text's walks alone
set_option linter.unusedVariables false
set_option linter.unusedSimpArgs false
def errW : Option Int → Value
 | none => .nilIface
 | some c => .iface 0 (.int .i64 c)
theorem errW_none : errW none = .nilIface := rfl
theorem errW_some (c : Int) : errW (some c) = .iface 0 (.int .i64 c) := rfl
theorem info3 : (Try.prog.info? 3).map (fun i => (i.zero, i.size, i.bytes)) = some (some (.int .i64 0), 1, 8) := by kernel_rfl
theorem info4 : (Try.prog.info? 4).map (fun i => (i.zero, i.size, i.bytes)) = some (some (.bool false), 1, 1) := by kernel_rfl
theorem info33 : (Try.prog.info? 33).map (fun i => (i.zero, i.size, i.bytes)) = some (some (.agg #[(.int .i64 0), (.int .i64 0), (.int .i64 0), (.int .i64 0)]), 4, 32) := by kernel_rfl
theorem info38 : (Try.prog.info? 38).map (fun i => (i.zero, i.size, i.bytes)) = some (some (.agg #[(.int .i64 0), (.int .i64 0), (.int .i64 0), (.int .i64 0), (.int .i64 0), (.bool false), (.int .i64 0), (.int .i64 0), (.slice none 0 0), (.int .i64 0), (.int .i64 0)]), 11, 104) := by kernel_rfl
theorem info67 : (Try.prog.info? 67).map (fun i => (i.zero, i.size, i.bytes)) = some (some (.agg #[(.int .i64 0), (.bool false), (.int .i64 0), (.int .i64 0), (.int .i64 0), (.int .i64 0), (.bool false), (.int .i64 0), (.int .i64 0), (.slice none 0 0)]), 10, 96) := by kernel_rfl
theorem info70 : (Try.prog.info? 70).map (fun i => (i.zero, i.size, i.bytes)) = some (some (.agg #[(.int .i64 0), (.int .i64 0)]), 2, 16) := by kernel_rfl
theorem info76 : (Try.prog.info? 76).map (fun i => (i.zero, i.size, i.bytes)) = some (some (.agg #[(.int .i64 0), (.int .i64 0), (.int .i64 0), (.int .i64 0), (.int .i64 0), (.bool false), (.int .i64 0), (.int .i64 0), (.slice none 0 0), (.int .i64 0), (.int .i64 0)]), 11, 104) := by kernel_rfl
structure S70 where
 f0 : Int
 f1 : Int
def z70 : S70 := ⟨(0 : Int), (0 : Int)⟩
def k70 : Kd S70 := Kd.iso (Kd.pair (Kd.int .i64) (Kd.int .i64)) (fun x : S70 => (x.f0, x.f1))
theorem k70_heap : Kd.Heap k70 := Kd.heap_iso _ (Kd.heap_pair (Kd.heap_int .i64) (Kd.heap_int .i64))
theorem k70_open {w : World} {x : S70} {cs : List Value} (h : k70.K w x cs) : cs = [.int .i64 x.f0, .int .i64 x.f1] := by
 obtain ⟨_, _, rfl, rfl, rfl⟩ := h
 exact rfl
theorem k70_mk (w : World) (x : S70)  : k70.K w x [.int .i64 x.f0, .int .i64 x.f1] := ⟨[.int .i64 x.f0], [.int .i64 x.f1], rfl, rfl, rfl⟩
def J70 (xs : List S70) (i : Int) : S70 := xs.getD i.toNat z70
theorem at_T70 {w : World} {A : Option Addr} {n : Nat} {xs : List S70} (h : Kd.C k70 w A n xs) (i : Int) (h0 : 0 ≤ i) (h1 : i < n) : ∃ ad , A = some ad ∧ w.cell? (ad.add (i.toNat * 2)) = some (.int .i64 (J70 xs i).f0) ∧ w.cell? ⟨(ad.add (i.toNat * 2)).block, (ad.add (i.toNat * 2)).off + 1, none⟩ = some (.int .i64 (J70 xs i).f1) := by
 obtain ⟨ad, c, e, _, hK, hc0⟩ := Kd.C_get h z70 i h0 h1
 have hc : ∀ j u, c[j]? = some u → w.cell? (ad.add (i.toNat * 2 + j)) = some u := hc0
 obtain rfl := k70_open hK
 exact ⟨ad, e, hc 0 _ rfl, by rw [← add_field _ _ 1 (by omega)]; exact hc 1 _ rfl⟩
structure S33 where
 f0 : Int
 f1 : Int
 f2 : Int
 f3 : Int
def z33 : S33 := ⟨(0 : Int), (0 : Int), (0 : Int), (0 : Int)⟩
def k33 : Kd S33 := Kd.iso (Kd.pair (Kd.int .i64) (Kd.pair (Kd.int .i64) (Kd.pair (Kd.int .i64) (Kd.int .i64)))) (fun x : S33 => (x.f0, x.f1, x.f2, x.f3))
theorem k33_heap : Kd.Heap k33 := Kd.heap_iso _ (Kd.heap_pair (Kd.heap_int .i64) (Kd.heap_pair (Kd.heap_int .i64) (Kd.heap_pair (Kd.heap_int .i64) (Kd.heap_int .i64))))
theorem k33_open {w : World} {x : S33} {cs : List Value} (h : k33.K w x cs) : cs = [.int .i64 x.f0, .int .i64 x.f1, .int .i64 x.f2, .int .i64 x.f3] := by
 obtain ⟨_, _, rfl, rfl, ⟨_, _, rfl, rfl, ⟨_, _, rfl, rfl, rfl⟩⟩⟩ := h
 exact rfl
theorem k33_openM {w : World} {base : Nat} {ok : Nat → Prop} {x : S33} {cs : List Value} (h : k33.M w base ok x cs) : cs = [.int .i64 x.f0, .int .i64 x.f1, .int .i64 x.f2, .int .i64 x.f3] := by
 obtain ⟨_, _, rfl, rfl, ⟨_, _, rfl, rfl, ⟨_, _, rfl, rfl, rfl⟩⟩⟩ := h
 exact rfl
theorem k33_mk (w : World) (x : S33)  : k33.K w x [.int .i64 x.f0, .int .i64 x.f1, .int .i64 x.f2, .int .i64 x.f3] := ⟨[.int .i64 x.f0], [.int .i64 x.f1, .int .i64 x.f2, .int .i64 x.f3], rfl, rfl, ⟨[.int .i64 x.f1], [.int .i64 x.f2, .int .i64 x.f3], rfl, rfl, ⟨[.int .i64 x.f2], [.int .i64 x.f3], rfl, rfl, rfl⟩⟩⟩
theorem k33_mkM (w : World) (base : Nat) (ok : Nat → Prop) (x : S33)  : k33.M w base ok x [.int .i64 x.f0, .int .i64 x.f1, .int .i64 x.f2, .int .i64 x.f3] := ⟨[.int .i64 x.f0], [.int .i64 x.f1, .int .i64 x.f2, .int .i64 x.f3], rfl, rfl, ⟨[.int .i64 x.f1], [.int .i64 x.f2, .int .i64 x.f3], rfl, rfl, ⟨[.int .i64 x.f2], [.int .i64 x.f3], rfl, rfl, rfl⟩⟩⟩
def J33 (xs : List S33) (i : Int) : S33 := xs.getD i.toNat z33
theorem at_T33 {w : World} {A : Option Addr} {n : Nat} {xs : List S33} (h : Kd.C k33 w A n xs) (i : Int) (h0 : 0 ≤ i) (h1 : i < n) : ∃ ad , A = some ad ∧ w.cell? (ad.add (i.toNat * 4)) = some (.int .i64 (J33 xs i).f0) ∧ w.cell? ⟨(ad.add (i.toNat * 4)).block, (ad.add (i.toNat * 4)).off + 1, none⟩ = some (.int .i64 (J33 xs i).f1) ∧ w.cell? ⟨(ad.add (i.toNat * 4)).block, (ad.add (i.toNat * 4)).off + 2, none⟩ = some (.int .i64 (J33 xs i).f2) ∧ w.cell? ⟨(ad.add (i.toNat * 4)).block, (ad.add (i.toNat * 4)).off + 3, none⟩ = some (.int .i64 (J33 xs i).f3) := by
 obtain ⟨ad, c, e, _, hK, hc0⟩ := Kd.C_get h z33 i h0 h1
 have hc : ∀ j u, c[j]? = some u → w.cell? (ad.add (i.toNat * 4 + j)) = some u := hc0
 obtain rfl := k33_open hK
 exact ⟨ad, e, hc 0 _ rfl, by rw [← add_field _ _ 1 (by omega)]; exact hc 1 _ rfl, by rw [← add_field _ _ 2 (by omega)]; exact hc 2 _ rfl, by rw [← add_field _ _ 3 (by omega)]; exact hc 3 _ rfl⟩
structure S36 where
 f0 : Bool
 f1 : Int
 f2 : Int
 f3 : (List S70)
def z36 : S36 := ⟨false, (0 : Int), (0 : Int), ([] : List S70)⟩
def k36 : Kd S36 := Kd.iso (Kd.pair Kd.bool (Kd.pair (Kd.int .i64) (Kd.pair (Kd.int .i64) (Kd.slice 70 k70)))) (fun x : S36 => (x.f0, x.f1, x.f2, x.f3))
theorem k36_heap : Kd.Heap k36 := Kd.heap_iso _ (Kd.heap_pair Kd.heap_bool (Kd.heap_pair (Kd.heap_int .i64) (Kd.heap_pair (Kd.heap_int .i64) (Kd.heap_slice 70 k70_heap))))
theorem k36_open {w : World} {x : S36} {cs : List Value} (h : k36.K w x cs) : ∃ A3 c3, cs = [.bool x.f0, .int .i64 x.f1, .int .i64 x.f2, .slice A3 x.f3.length c3] ∧ x.f3.length ≤ c3 ∧ k70.C w A3 x.f3.length x.f3 := by
 obtain ⟨_, _, rfl, rfl, ⟨_, _, rfl, rfl, ⟨_, _, rfl, rfl, ⟨A3, c3, rfl, l3, g3⟩⟩⟩⟩ := h
 exact ⟨A3, c3, rfl, l3, g3⟩
theorem k36_openM {w : World} {base : Nat} {ok : Nat → Prop} {x : S36} {cs : List Value} (h : k36.M w base ok x cs) : ∃ v3, cs = [.bool x.f0, .int .i64 x.f1, .int .i64 x.f2, v3] ∧ k70.R 70 w base ok v3 x.f3 := by
 obtain ⟨_, _, rfl, rfl, ⟨_, _, rfl, rfl, ⟨_, _, rfl, rfl, ⟨v3, rfl, g3⟩⟩⟩⟩ := h
 exact ⟨v3, rfl, g3⟩
theorem k36_mk (w : World) (x : S36) {A3 : Option Addr} {c3 : Nat} (l3 : x.f3.length ≤ c3) (g3 : k70.C w A3 x.f3.length x.f3) : k36.K w x [.bool x.f0, .int .i64 x.f1, .int .i64 x.f2, .slice A3 x.f3.length c3] := ⟨[.bool x.f0], [.int .i64 x.f1, .int .i64 x.f2, .slice A3 x.f3.length c3], rfl, rfl, ⟨[.int .i64 x.f1], [.int .i64 x.f2, .slice A3 x.f3.length c3], rfl, rfl, ⟨[.int .i64 x.f2], [.slice A3 x.f3.length c3], rfl, rfl, ⟨A3, c3, rfl, l3, g3⟩⟩⟩⟩
theorem k36_mkM (w : World) (base : Nat) (ok : Nat → Prop) (x : S36) {v3 : Value} (g3 : k70.R 70 w base ok v3 x.f3) : k36.M w base ok x [.bool x.f0, .int .i64 x.f1, .int .i64 x.f2, v3] := ⟨[.bool x.f0], [.int .i64 x.f1, .int .i64 x.f2, v3], rfl, rfl, ⟨[.int .i64 x.f1], [.int .i64 x.f2, v3], rfl, rfl, ⟨[.int .i64 x.f2], [v3], rfl, rfl, ⟨v3, rfl, g3⟩⟩⟩⟩
structure S67 where
 f0 : Int
 f1 : Bool
 f2 : S33
 f3 : S36
def z67 : S67 := ⟨(0 : Int), false, z33, z36⟩
def k67 : Kd S67 := Kd.iso (Kd.pair (Kd.int .i64) (Kd.pair Kd.bool (Kd.pair k33 k36))) (fun x : S67 => (x.f0, x.f1, x.f2, x.f3))
theorem k67_heap : Kd.Heap k67 := Kd.heap_iso _ (Kd.heap_pair (Kd.heap_int .i64) (Kd.heap_pair Kd.heap_bool (Kd.heap_pair k33_heap k36_heap)))
theorem k67_open {w : World} {x : S67} {cs : List Value} (h : k67.K w x cs) : ∃ A9 c9, cs = [.int .i64 x.f0, .bool x.f1, .int .i64 x.f2.f0, .int .i64 x.f2.f1, .int .i64 x.f2.f2, .int .i64 x.f2.f3, .bool x.f3.f0, .int .i64 x.f3.f1, .int .i64 x.f3.f2, .slice A9 x.f3.f3.length c9] ∧ x.f3.f3.length ≤ c9 ∧ k70.C w A9 x.f3.f3.length x.f3.f3 := by
 obtain ⟨_, _, rfl, rfl, ⟨_, _, rfl, rfl, ⟨_, _, rfl, s2, s6⟩⟩⟩ := h
 obtain rfl := k33_open s2
 obtain ⟨A9, c9, rfl, l9, g9⟩ := k36_open s6
 exact ⟨A9, c9, rfl, l9, g9⟩
theorem k67_openM {w : World} {base : Nat} {ok : Nat → Prop} {x : S67} {cs : List Value} (h : k67.M w base ok x cs) : ∃ v9, cs = [.int .i64 x.f0, .bool x.f1, .int .i64 x.f2.f0, .int .i64 x.f2.f1, .int .i64 x.f2.f2, .int .i64 x.f2.f3, .bool x.f3.f0, .int .i64 x.f3.f1, .int .i64 x.f3.f2, v9] ∧ k70.R 70 w base ok v9 x.f3.f3 := by
 obtain ⟨_, _, rfl, rfl, ⟨_, _, rfl, rfl, ⟨_, _, rfl, s2, s6⟩⟩⟩ := h
 obtain rfl := k33_openM s2
 obtain ⟨v9, rfl, g9⟩ := k36_openM s6
 exact ⟨v9, rfl, g9⟩
theorem k67_mk (w : World) (x : S67) {A9 : Option Addr} {c9 : Nat} (l9 : x.f3.f3.length ≤ c9) (g9 : k70.C w A9 x.f3.f3.length x.f3.f3) : k67.K w x [.int .i64 x.f0, .bool x.f1, .int .i64 x.f2.f0, .int .i64 x.f2.f1, .int .i64 x.f2.f2, .int .i64 x.f2.f3, .bool x.f3.f0, .int .i64 x.f3.f1, .int .i64 x.f3.f2, .slice A9 x.f3.f3.length c9] := ⟨[.int .i64 x.f0], [.bool x.f1, .int .i64 x.f2.f0, .int .i64 x.f2.f1, .int .i64 x.f2.f2, .int .i64 x.f2.f3, .bool x.f3.f0, .int .i64 x.f3.f1, .int .i64 x.f3.f2, .slice A9 x.f3.f3.length c9], rfl, rfl, ⟨[.bool x.f1], [.int .i64 x.f2.f0, .int .i64 x.f2.f1, .int .i64 x.f2.f2, .int .i64 x.f2.f3, .bool x.f3.f0, .int .i64 x.f3.f1, .int .i64 x.f3.f2, .slice A9 x.f3.f3.length c9], rfl, rfl, ⟨[.int .i64 x.f2.f0, .int .i64 x.f2.f1, .int .i64 x.f2.f2, .int .i64 x.f2.f3], [.bool x.f3.f0, .int .i64 x.f3.f1, .int .i64 x.f3.f2, .slice A9 x.f3.f3.length c9], rfl, (k33_mk w x.f2 ), (k36_mk w x.f3 l9 g9)⟩⟩⟩
theorem k67_mkM (w : World) (base : Nat) (ok : Nat → Prop) (x : S67) {v9 : Value} (g9 : k70.R 70 w base ok v9 x.f3.f3) : k67.M w base ok x [.int .i64 x.f0, .bool x.f1, .int .i64 x.f2.f0, .int .i64 x.f2.f1, .int .i64 x.f2.f2, .int .i64 x.f2.f3, .bool x.f3.f0, .int .i64 x.f3.f1, .int .i64 x.f3.f2, v9] := ⟨[.int .i64 x.f0], [.bool x.f1, .int .i64 x.f2.f0, .int .i64 x.f2.f1, .int .i64 x.f2.f2, .int .i64 x.f2.f3, .bool x.f3.f0, .int .i64 x.f3.f1, .int .i64 x.f3.f2, v9], rfl, rfl, ⟨[.bool x.f1], [.int .i64 x.f2.f0, .int .i64 x.f2.f1, .int .i64 x.f2.f2, .int .i64 x.f2.f3, .bool x.f3.f0, .int .i64 x.f3.f1, .int .i64 x.f3.f2, v9], rfl, rfl, ⟨[.int .i64 x.f2.f0, .int .i64 x.f2.f1, .int .i64 x.f2.f2, .int .i64 x.f2.f3], [.bool x.f3.f0, .int .i64 x.f3.f1, .int .i64 x.f3.f2, v9], rfl, (k33_mkM w base ok x.f2 ), (k36_mkM w base ok x.f3 g9)⟩⟩⟩
theorem k67_openF {W : World} {ok : Nat → Prop} {x : S67} {cs : List Value} (h : Kd.FK k67 W ok x cs) : ∃ A9 c9, cs = [.int .i64 x.f0, .bool x.f1, .int .i64 x.f2.f0, .int .i64 x.f2.f1, .int .i64 x.f2.f2, .int .i64 x.f2.f3, .bool x.f3.f0, .int .i64 x.f3.f1, .int .i64 x.f3.f2, .slice A9 x.f3.f3.length c9] ∧ x.f3.f3.length ≤ c9 ∧ Kd.F k70 W ok A9 x.f3.f3.length x.f3.f3 := by
 obtain ⟨A9, c9, rfl, l9, _⟩ := k67_open (Kd.FK_now h)
 exact ⟨A9, c9, rfl, l9, (fun W' hW => by obtain ⟨A9_, c9_, he, l9_, g9_⟩ := k67_open (h W' hW); injection (Option.some.inj (show some (Value.slice A9 x.f3.f3.length c9) = some (Value.slice A9_ x.f3.f3.length c9_) from congrArg (fun l => l[9]?) he)) with ha_ _ _; rw [ha_]; exact g9_)⟩
theorem k67_mkF (W : World) (ok : Nat → Prop) (x : S67) {A9 : Option Addr} {c9 : Nat} (l9 : x.f3.f3.length ≤ c9) (g9 : Kd.F k70 W ok A9 x.f3.f3.length x.f3.f3) : Kd.FK k67 W ok x [.int .i64 x.f0, .bool x.f1, .int .i64 x.f2.f0, .int .i64 x.f2.f1, .int .i64 x.f2.f2, .int .i64 x.f2.f3, .bool x.f3.f0, .int .i64 x.f3.f1, .int .i64 x.f3.f2, .slice A9 x.f3.f3.length c9] := fun W2 hW => k67_mk W2 x l9 (g9 W2 hW)
def J67 (xs : List S67) (i : Int) : S67 := xs.getD i.toNat z67
theorem at_T67 {w : World} {A : Option Addr} {n : Nat} {xs : List S67} (h : Kd.C k67 w A n xs) (i : Int) (h0 : 0 ≤ i) (h1 : i < n) : ∃ ad A9 c9, A = some ad ∧ w.cell? (ad.add (i.toNat * 10)) = some (.int .i64 (J67 xs i).f0) ∧ w.cell? ⟨(ad.add (i.toNat * 10)).block, (ad.add (i.toNat * 10)).off + 1, none⟩ = some (.bool (J67 xs i).f1) ∧ w.cell? ⟨(ad.add (i.toNat * 10)).block, (ad.add (i.toNat * 10)).off + 2, none⟩ = some (.int .i64 (J67 xs i).f2.f0) ∧ w.cell? ⟨(ad.add (i.toNat * 10)).block, (ad.add (i.toNat * 10)).off + 3, none⟩ = some (.int .i64 (J67 xs i).f2.f1) ∧ w.cell? ⟨(ad.add (i.toNat * 10)).block, (ad.add (i.toNat * 10)).off + 4, none⟩ = some (.int .i64 (J67 xs i).f2.f2) ∧ w.cell? ⟨(ad.add (i.toNat * 10)).block, (ad.add (i.toNat * 10)).off + 5, none⟩ = some (.int .i64 (J67 xs i).f2.f3) ∧ w.cell? ⟨(ad.add (i.toNat * 10)).block, (ad.add (i.toNat * 10)).off + 6, none⟩ = some (.bool (J67 xs i).f3.f0) ∧ w.cell? ⟨(ad.add (i.toNat * 10)).block, (ad.add (i.toNat * 10)).off + 7, none⟩ = some (.int .i64 (J67 xs i).f3.f1) ∧ w.cell? ⟨(ad.add (i.toNat * 10)).block, (ad.add (i.toNat * 10)).off + 8, none⟩ = some (.int .i64 (J67 xs i).f3.f2) ∧ w.cell? ⟨(ad.add (i.toNat * 10)).block, (ad.add (i.toNat * 10)).off + 9, none⟩ = some (.slice A9 (J67 xs i).f3.f3.length c9) ∧ (J67 xs i).f3.f3.length ≤ c9 ∧ k70.C w A9 (J67 xs i).f3.f3.length (J67 xs i).f3.f3 := by
 obtain ⟨ad, c, e, _, hK, hc0⟩ := Kd.C_get h z67 i h0 h1
 have hc : ∀ j u, c[j]? = some u → w.cell? (ad.add (i.toNat * 10 + j)) = some u := hc0
 obtain ⟨A9, c9, rfl, l9, g9⟩ := k67_open hK
 exact ⟨ad, A9, c9, e, hc 0 _ rfl, by rw [← add_field _ _ 1 (by omega)]; exact hc 1 _ rfl, by rw [← add_field _ _ 2 (by omega)]; exact hc 2 _ rfl, by rw [← add_field _ _ 3 (by omega)]; exact hc 3 _ rfl, by rw [← add_field _ _ 4 (by omega)]; exact hc 4 _ rfl, by rw [← add_field _ _ 5 (by omega)]; exact hc 5 _ rfl, by rw [← add_field _ _ 6 (by omega)]; exact hc 6 _ rfl, by rw [← add_field _ _ 7 (by omega)]; exact hc 7 _ rfl, by rw [← add_field _ _ 8 (by omega)]; exact hc 8 _ rfl, by rw [← add_field _ _ 9 (by omega)]; exact hc 9 _ rfl, l9, g9⟩
structure S38 where
 f0 : Int
 f1 : S33
 f2 : S36
 f3 : Int
 f4 : Int
def z38 : S38 := ⟨(0 : Int), z33, z36, (0 : Int), (0 : Int)⟩
def k38 : Kd S38 := Kd.iso (Kd.pair (Kd.int .i64) (Kd.pair k33 (Kd.pair k36 (Kd.pair (Kd.int .i64) (Kd.int .i64))))) (fun x : S38 => (x.f0, x.f1, x.f2, x.f3, x.f4))
theorem k38_open {w : World} {x : S38} {cs : List Value} (h : k38.K w x cs) : ∃ A8 c8, cs = [.int .i64 x.f0, .int .i64 x.f1.f0, .int .i64 x.f1.f1, .int .i64 x.f1.f2, .int .i64 x.f1.f3, .bool x.f2.f0, .int .i64 x.f2.f1, .int .i64 x.f2.f2, .slice A8 x.f2.f3.length c8, .int .i64 x.f3, .int .i64 x.f4] ∧ x.f2.f3.length ≤ c8 ∧ k70.C w A8 x.f2.f3.length x.f2.f3 := by
 obtain ⟨_, _, rfl, rfl, ⟨_, _, rfl, s1, ⟨_, _, rfl, s5, ⟨_, _, rfl, rfl, rfl⟩⟩⟩⟩ := h
 obtain rfl := k33_open s1
 obtain ⟨A8, c8, rfl, l8, g8⟩ := k36_open s5
 exact ⟨A8, c8, rfl, l8, g8⟩
theorem k38_openM {w : World} {base : Nat} {ok : Nat → Prop} {x : S38} {cs : List Value} (h : k38.M w base ok x cs) : ∃ v8, cs = [.int .i64 x.f0, .int .i64 x.f1.f0, .int .i64 x.f1.f1, .int .i64 x.f1.f2, .int .i64 x.f1.f3, .bool x.f2.f0, .int .i64 x.f2.f1, .int .i64 x.f2.f2, v8, .int .i64 x.f3, .int .i64 x.f4] ∧ k70.R 70 w base ok v8 x.f2.f3 := by
 obtain ⟨_, _, rfl, rfl, ⟨_, _, rfl, s1, ⟨_, _, rfl, s5, ⟨_, _, rfl, rfl, rfl⟩⟩⟩⟩ := h
 obtain rfl := k33_openM s1
 obtain ⟨v8, rfl, g8⟩ := k36_openM s5
 exact ⟨v8, rfl, g8⟩
theorem k38_mkM (w : World) (base : Nat) (ok : Nat → Prop) (x : S38) {v8 : Value} (g8 : k70.R 70 w base ok v8 x.f2.f3) : k38.M w base ok x [.int .i64 x.f0, .int .i64 x.f1.f0, .int .i64 x.f1.f1, .int .i64 x.f1.f2, .int .i64 x.f1.f3, .bool x.f2.f0, .int .i64 x.f2.f1, .int .i64 x.f2.f2, v8, .int .i64 x.f3, .int .i64 x.f4] := ⟨[.int .i64 x.f0], [.int .i64 x.f1.f0, .int .i64 x.f1.f1, .int .i64 x.f1.f2, .int .i64 x.f1.f3, .bool x.f2.f0, .int .i64 x.f2.f1, .int .i64 x.f2.f2, v8, .int .i64 x.f3, .int .i64 x.f4], rfl, rfl, ⟨[.int .i64 x.f1.f0, .int .i64 x.f1.f1, .int .i64 x.f1.f2, .int .i64 x.f1.f3], [.bool x.f2.f0, .int .i64 x.f2.f1, .int .i64 x.f2.f2, v8, .int .i64 x.f3, .int .i64 x.f4], rfl, (k33_mkM w base ok x.f1 ), ⟨[.bool x.f2.f0, .int .i64 x.f2.f1, .int .i64 x.f2.f2, v8], [.int .i64 x.f3, .int .i64 x.f4], rfl, (k36_mkM w base ok x.f2 g8), ⟨[.int .i64 x.f3], [.int .i64 x.f4], rfl, rfl, rfl⟩⟩⟩⟩
def J38 (xs : List S38) (i : Int) : S38 := xs.getD i.toNat z38
theorem at_T38 {w : World} {A : Option Addr} {n : Nat} {xs : List S38} (h : Kd.C k38 w A n xs) (i : Int) (h0 : 0 ≤ i) (h1 : i < n) : ∃ ad A8 c8, A = some ad ∧ w.cell? (ad.add (i.toNat * 11)) = some (.int .i64 (J38 xs i).f0) ∧ w.cell? ⟨(ad.add (i.toNat * 11)).block, (ad.add (i.toNat * 11)).off + 1, none⟩ = some (.int .i64 (J38 xs i).f1.f0) ∧ w.cell? ⟨(ad.add (i.toNat * 11)).block, (ad.add (i.toNat * 11)).off + 2, none⟩ = some (.int .i64 (J38 xs i).f1.f1) ∧ w.cell? ⟨(ad.add (i.toNat * 11)).block, (ad.add (i.toNat * 11)).off + 3, none⟩ = some (.int .i64 (J38 xs i).f1.f2) ∧ w.cell? ⟨(ad.add (i.toNat * 11)).block, (ad.add (i.toNat * 11)).off + 4, none⟩ = some (.int .i64 (J38 xs i).f1.f3) ∧ w.cell? ⟨(ad.add (i.toNat * 11)).block, (ad.add (i.toNat * 11)).off + 5, none⟩ = some (.bool (J38 xs i).f2.f0) ∧ w.cell? ⟨(ad.add (i.toNat * 11)).block, (ad.add (i.toNat * 11)).off + 6, none⟩ = some (.int .i64 (J38 xs i).f2.f1) ∧ w.cell? ⟨(ad.add (i.toNat * 11)).block, (ad.add (i.toNat * 11)).off + 7, none⟩ = some (.int .i64 (J38 xs i).f2.f2) ∧ w.cell? ⟨(ad.add (i.toNat * 11)).block, (ad.add (i.toNat * 11)).off + 8, none⟩ = some (.slice A8 (J38 xs i).f2.f3.length c8) ∧ w.cell? ⟨(ad.add (i.toNat * 11)).block, (ad.add (i.toNat * 11)).off + 9, none⟩ = some (.int .i64 (J38 xs i).f3) ∧ w.cell? ⟨(ad.add (i.toNat * 11)).block, (ad.add (i.toNat * 11)).off + 10, none⟩ = some (.int .i64 (J38 xs i).f4) ∧ (J38 xs i).f2.f3.length ≤ c8 ∧ k70.C w A8 (J38 xs i).f2.f3.length (J38 xs i).f2.f3 := by
 obtain ⟨ad, c, e, _, hK, hc0⟩ := Kd.C_get h z38 i h0 h1
 have hc : ∀ j u, c[j]? = some u → w.cell? (ad.add (i.toNat * 11 + j)) = some u := hc0
 obtain ⟨A8, c8, rfl, l8, g8⟩ := k38_open hK
 exact ⟨ad, A8, c8, e, hc 0 _ rfl, by rw [← add_field _ _ 1 (by omega)]; exact hc 1 _ rfl, by rw [← add_field _ _ 2 (by omega)]; exact hc 2 _ rfl, by rw [← add_field _ _ 3 (by omega)]; exact hc 3 _ rfl, by rw [← add_field _ _ 4 (by omega)]; exact hc 4 _ rfl, by rw [← add_field _ _ 5 (by omega)]; exact hc 5 _ rfl, by rw [← add_field _ _ 6 (by omega)]; exact hc 6 _ rfl, by rw [← add_field _ _ 7 (by omega)]; exact hc 7 _ rfl, by rw [← add_field _ _ 8 (by omega)]; exact hc 8 _ rfl, by rw [← add_field _ _ 9 (by omega)]; exact hc 9 _ rfl, by rw [← add_field _ _ 10 (by omega)]; exact hc 10 _ rfl, l8, g8⟩
structure S76 where
 f0 : Int
 f1 : S33
 f2 : S36
 f3 : Int
 f4 : Int
def z76 : S76 := ⟨(0 : Int), z33, z36, (0 : Int), (0 : Int)⟩
def k76 : Kd S76 := Kd.iso (Kd.pair (Kd.int .i64) (Kd.pair k33 (Kd.pair k36 (Kd.pair (Kd.int .i64) (Kd.int .i64))))) (fun x : S76 => (x.f0, x.f1, x.f2, x.f3, x.f4))
theorem k76_open {w : World} {x : S76} {cs : List Value} (h : k76.K w x cs) : ∃ A8 c8, cs = [.int .i64 x.f0, .int .i64 x.f1.f0, .int .i64 x.f1.f1, .int .i64 x.f1.f2, .int .i64 x.f1.f3, .bool x.f2.f0, .int .i64 x.f2.f1, .int .i64 x.f2.f2, .slice A8 x.f2.f3.length c8, .int .i64 x.f3, .int .i64 x.f4] ∧ x.f2.f3.length ≤ c8 ∧ k70.C w A8 x.f2.f3.length x.f2.f3 := by
 obtain ⟨_, _, rfl, rfl, ⟨_, _, rfl, s1, ⟨_, _, rfl, s5, ⟨_, _, rfl, rfl, rfl⟩⟩⟩⟩ := h
 obtain rfl := k33_open s1
 obtain ⟨A8, c8, rfl, l8, g8⟩ := k36_open s5
 exact ⟨A8, c8, rfl, l8, g8⟩
theorem k76_openM {w : World} {base : Nat} {ok : Nat → Prop} {x : S76} {cs : List Value} (h : k76.M w base ok x cs) : ∃ v8, cs = [.int .i64 x.f0, .int .i64 x.f1.f0, .int .i64 x.f1.f1, .int .i64 x.f1.f2, .int .i64 x.f1.f3, .bool x.f2.f0, .int .i64 x.f2.f1, .int .i64 x.f2.f2, v8, .int .i64 x.f3, .int .i64 x.f4] ∧ k70.R 70 w base ok v8 x.f2.f3 := by
 obtain ⟨_, _, rfl, rfl, ⟨_, _, rfl, s1, ⟨_, _, rfl, s5, ⟨_, _, rfl, rfl, rfl⟩⟩⟩⟩ := h
 obtain rfl := k33_openM s1
 obtain ⟨v8, rfl, g8⟩ := k36_openM s5
 exact ⟨v8, rfl, g8⟩
theorem k76_mkM (w : World) (base : Nat) (ok : Nat → Prop) (x : S76) {v8 : Value} (g8 : k70.R 70 w base ok v8 x.f2.f3) : k76.M w base ok x [.int .i64 x.f0, .int .i64 x.f1.f0, .int .i64 x.f1.f1, .int .i64 x.f1.f2, .int .i64 x.f1.f3, .bool x.f2.f0, .int .i64 x.f2.f1, .int .i64 x.f2.f2, v8, .int .i64 x.f3, .int .i64 x.f4] := ⟨[.int .i64 x.f0], [.int .i64 x.f1.f0, .int .i64 x.f1.f1, .int .i64 x.f1.f2, .int .i64 x.f1.f3, .bool x.f2.f0, .int .i64 x.f2.f1, .int .i64 x.f2.f2, v8, .int .i64 x.f3, .int .i64 x.f4], rfl, rfl, ⟨[.int .i64 x.f1.f0, .int .i64 x.f1.f1, .int .i64 x.f1.f2, .int .i64 x.f1.f3], [.bool x.f2.f0, .int .i64 x.f2.f1, .int .i64 x.f2.f2, v8, .int .i64 x.f3, .int .i64 x.f4], rfl, (k33_mkM w base ok x.f1 ), ⟨[.bool x.f2.f0, .int .i64 x.f2.f1, .int .i64 x.f2.f2, v8], [.int .i64 x.f3, .int .i64 x.f4], rfl, (k36_mkM w base ok x.f2 g8), ⟨[.int .i64 x.f3], [.int .i64 x.f4], rfl, rfl, rfl⟩⟩⟩⟩
theorem k76_openF {W : World} {ok : Nat → Prop} {x : S76} {cs : List Value} (h : Kd.FK k76 W ok x cs) : ∃ A8 c8, cs = [.int .i64 x.f0, .int .i64 x.f1.f0, .int .i64 x.f1.f1, .int .i64 x.f1.f2, .int .i64 x.f1.f3, .bool x.f2.f0, .int .i64 x.f2.f1, .int .i64 x.f2.f2, .slice A8 x.f2.f3.length c8, .int .i64 x.f3, .int .i64 x.f4] ∧ x.f2.f3.length ≤ c8 ∧ Kd.F k70 W ok A8 x.f2.f3.length x.f2.f3 := by
 obtain ⟨A8, c8, rfl, l8, _⟩ := k76_open (Kd.FK_now h)
 exact ⟨A8, c8, rfl, l8, (fun W' hW => by obtain ⟨A8_, c8_, he, l8_, g8_⟩ := k76_open (h W' hW); injection (Option.some.inj (show some (Value.slice A8 x.f2.f3.length c8) = some (Value.slice A8_ x.f2.f3.length c8_) from congrArg (fun l => l[8]?) he)) with ha_ _ _; rw [ha_]; exact g8_)⟩
def J76 (xs : List S76) (i : Int) : S76 := xs.getD i.toNat z76
theorem at_T76 {w : World} {A : Option Addr} {n : Nat} {xs : List S76} (h : Kd.C k76 w A n xs) (i : Int) (h0 : 0 ≤ i) (h1 : i < n) : ∃ ad A8 c8, A = some ad ∧ w.cell? (ad.add (i.toNat * 11)) = some (.int .i64 (J76 xs i).f0) ∧ w.cell? ⟨(ad.add (i.toNat * 11)).block, (ad.add (i.toNat * 11)).off + 1, none⟩ = some (.int .i64 (J76 xs i).f1.f0) ∧ w.cell? ⟨(ad.add (i.toNat * 11)).block, (ad.add (i.toNat * 11)).off + 2, none⟩ = some (.int .i64 (J76 xs i).f1.f1) ∧ w.cell? ⟨(ad.add (i.toNat * 11)).block, (ad.add (i.toNat * 11)).off + 3, none⟩ = some (.int .i64 (J76 xs i).f1.f2) ∧ w.cell? ⟨(ad.add (i.toNat * 11)).block, (ad.add (i.toNat * 11)).off + 4, none⟩ = some (.int .i64 (J76 xs i).f1.f3) ∧ w.cell? ⟨(ad.add (i.toNat * 11)).block, (ad.add (i.toNat * 11)).off + 5, none⟩ = some (.bool (J76 xs i).f2.f0) ∧ w.cell? ⟨(ad.add (i.toNat * 11)).block, (ad.add (i.toNat * 11)).off + 6, none⟩ = some (.int .i64 (J76 xs i).f2.f1) ∧ w.cell? ⟨(ad.add (i.toNat * 11)).block, (ad.add (i.toNat * 11)).off + 7, none⟩ = some (.int .i64 (J76 xs i).f2.f2) ∧ w.cell? ⟨(ad.add (i.toNat * 11)).block, (ad.add (i.toNat * 11)).off + 8, none⟩ = some (.slice A8 (J76 xs i).f2.f3.length c8) ∧ w.cell? ⟨(ad.add (i.toNat * 11)).block, (ad.add (i.toNat * 11)).off + 9, none⟩ = some (.int .i64 (J76 xs i).f3) ∧ w.cell? ⟨(ad.add (i.toNat * 11)).block, (ad.add (i.toNat * 11)).off + 10, none⟩ = some (.int .i64 (J76 xs i).f4) ∧ (J76 xs i).f2.f3.length ≤ c8 ∧ k70.C w A8 (J76 xs i).f2.f3.length (J76 xs i).f2.f3 := by
 obtain ⟨ad, c, e, _, hK, hc0⟩ := Kd.C_get h z76 i h0 h1
 have hc : ∀ j u, c[j]? = some u → w.cell? (ad.add (i.toNat * 11 + j)) = some u := hc0
 obtain ⟨A8, c8, rfl, l8, g8⟩ := k76_open hK
 exact ⟨ad, A8, c8, e, hc 0 _ rfl, by rw [← add_field _ _ 1 (by omega)]; exact hc 1 _ rfl, by rw [← add_field _ _ 2 (by omega)]; exact hc 2 _ rfl, by rw [← add_field _ _ 3 (by omega)]; exact hc 3 _ rfl, by rw [← add_field _ _ 4 (by omega)]; exact hc 4 _ rfl, by rw [← add_field _ _ 5 (by omega)]; exact hc 5 _ rfl, by rw [← add_field _ _ 6 (by omega)]; exact hc 6 _ rfl, by rw [← add_field _ _ 7 (by omega)]; exact hc 7 _ rfl, by rw [← add_field _ _ 8 (by omega)]; exact hc 8 _ rfl, by rw [← add_field _ _ 9 (by omega)]; exact hc 9 _ rfl, by rw [← add_field _ _ 10 (by omega)]; exact hc 10 _ rfl, l8, g8⟩
end Go.Proofs.Ytagdkmcgepidoaa.P
/- F21 -/
namespace Go.Proofs.Ytagdkmcgepidoaa.P
open Go.RowKit Go.Proofs.YtagdkmcgepidoaaW.PrintWords Go.Proofs.YtagdkmcgepidoaaW.PrintLast Go.Proofs.YtagdkmcgepidoaaW.PrintMore
attribute [local go_sem] max2_int min2_int max_two min_two max_three min_three max_four min_four   -- for this text's walks alone
set_option linter.unusedVariables false
set_option linter.unusedSimpArgs false
def larchref05_CopyRet.f (a0_0 : Bool) (a0_1 : Int) (a0_2 : Int) (l0_3 : List (S70)) : Option (Bool × Int × Int × (List (S70))) := (some (([] : List (S70)) : List (S70))).bind fun y162 => (if y162.length + l0_3.length < 8796093022208 then (some (a0_0, a0_1, a0_2, (y162 ++ l0_3))) else (none))
set_option maxHeartbeats 8000000 in
set_option maxRecDepth 100000 in
theorem larchref05_CopyRet.calls (a0_0 : Bool) (a0_1 : Int) (a0_2 : Int) (A0_3 : Option Addr) (c0_3 : Nat) (l0_3 : List (S70)) (r1 : Bool) (r2 : Int) (r3 : Int) (r4 : List (S70)) (w : World) (hr0_3 : Kd.C k70 w A0_3 l0_3.length l0_3) (hc0_3 : l0_3.length ≤ c0_3) (h : larchref05_CopyRet.f a0_0 a0_1 a0_2 l0_3 = some (r1, r2, r3, r4)) :
  Calls Try.prog 65 #[.agg #[.bool a0_0, .int .i64 a0_1, .int .i64 a0_2, .slice A0_3 l0_3.length c0_3]] w fun e w' => ∃ v3_ : Value, e = .returned (.agg #[.bool r1, .int .i64 r2, .int .i64 r3, v3_]) ∧ Kd.R k70 70 w' w.heap.size (fun _ => True) v3_ r4 ∧ Below w.heap.size w w' := by
 have hu36 := Try.underlying36
 have HR0_3 := asd hr0_3
 have HC0_3 := asd hc0_3
 clear hr0_3 hc0_3
 have HB := asd (Below.refl w.heap.size w)
 have H : ((some (([] : List (S70)) : List (S70))).bind fun y162 => (if y162.length + l0_3.length < 8796093022208 then (some (a0_0, a0_1, a0_2, (y162 ++ l0_3))) else (none))) = some (r1, r2, r3, r4) := h
 clear h
 obtain ⟨y162, hy162⟩ : ∃ y_ : List (S70), y_ = (([] : List (S70))) := ⟨_, rfl⟩
 replace H : (if y162.length + l0_3.length < 8796093022208 then (some (a0_0, a0_1, a0_2, (y162 ++ l0_3))) else (none)) = some (r1, r2, r3, r4) := by first | (rw [hy162]; with_reducible exact H) | (have H2_ := (Option.bind_some _ _).symm.trans H; rw [hy162]; with_reducible exact H2_) | (have H2_ := (Option.bind_some _ _).symm.trans H; with_reducible exact H2_) | with_reducible exact H | (rw [hy162]; exact H) | exact H
 have Ny162 := asd hy162
 clear hy162
 by_cases c2 : y162.length + l0_3.length < 8796093022208
 ·
  rw [if_pos c2] at H
  have LMc2 := asd c2
  clear c2
  obtain ⟨y165, hy165⟩ : ∃ y_ : List (S70), y_ = (y162 ++ l0_3) := ⟨_, rfl⟩
  replace H : (some (a0_0, a0_1, a0_2, y165)) = some (r1, r2, r3, r4) := by first | (rw [hy165]; with_reducible exact H) | (have H2_ := (Option.bind_some _ _).symm.trans H; rw [hy165]; with_reducible exact H2_) | (have H2_ := (Option.bind_some _ _).symm.trans H; with_reducible exact H2_) | with_reducible exact H | (rw [hy165]; exact H) | exact H
  have Ny165 := asd hy165
  clear hy165
  simp only [Option.some.injEq, Prod.mk.injEq] at H
  obtain ⟨rfl, rfl, rfl, rfl⟩ := H
  go_enter Try.func65, Try.ntmps65
  go_wp2_with (first | ((with_reducible refine gate_dst (N := 1) rfl ?_); refine box_event ?hg (N := 1) ?hd (cs := #[.bool a0_0, .int .i64 a0_1, .int .i64 a0_2, .slice A0_3 l0_3.length c0_3]) (t := 36) ?hr ?_; (case hd => rfl); (case hg => rfl); (case hr => first | (go_simp; done) | (go_simp; rfl)); intro gb160 hg w3 hbox hb; have n0_ := asd (below_step (skB HB.out) hb); have n1_ := asd (hbox); have n2_ := asd ((by rw [hg]; exact (below_size (skB HB.out)) : w.heap.size ≤ gb160)); have n3_ := asd ((by rw [hg]; exact (below_size (skB HB.out)) : w.heap.size ≤ gb160)); clear HB; have HB := n0_; have BK160 := n1_; have GW160 := n2_; have GE160 := n3_; clear n0_ n1_ n2_ n3_; clear hb hbox hg) | ((with_reducible refine gate_dst (N := 2) rfl ?_); refine box_event ?hg (N := 2) ?hd (cs := #[.bool false, .int .i64 0, .int .i64 0, .slice none 0 0]) (t := 36) ?hr ?_; (case hd => rfl); (case hg => rfl); (case hr => first | (go_simp; done) | (go_simp; rfl)); intro gb161 hg w4 hbox hb; have n0_ := asd (blk_below (g := gb160) (o := .cells #[.bool a0_0, .int .i64 a0_1, .int .i64 a0_2, .slice A0_3 l0_3.length c0_3] 36 (0, 0)) (skK BK160.out) hb); have n1_ := asd (below_step (skG HB.out GE160.out GE160.out) hb); have n2_ := asd (hbox); have n3_ := asd ((by rw [hg]; exact (below_size (skG HB.out GE160.out GE160.out)) : w.heap.size ≤ gb161)); have n4_ := asd ((by rw [hg]; exact (below_size (skG HB.out GE160.out GE160.out)) : w.heap.size ≤ gb161)); have n5_ := asd ((by rw [hg]; exact Nat.ne_of_lt (blk_lt (g := gb160) (o := .cells #[.bool a0_0, .int .i64 a0_1, .int .i64 a0_2, .slice A0_3 l0_3.length c0_3] 36 (0, 0)) (skK BK160.out)) : gb160 ≠ gb161)); have n6_ := asd ((by rw [hg]; exact Nat.ne_of_gt (blk_lt (g := gb160) (o := .cells #[.bool a0_0, .int .i64 a0_1, .int .i64 a0_2, .slice A0_3 l0_3.length c0_3] 36 (0, 0)) (skK BK160.out)) : gb161 ≠ gb160)); clear BK160; clear HB; have BK160 := n0_; have HB := n1_; have BK161 := n2_; have GW161 := n3_; have GE161 := n4_; have NB160_161 := n5_; have NB161_160 := n6_; clear n0_ n1_ n2_ n3_ n4_ n5_ n6_; clear hb hbox hg) | ((with_reducible refine gate_dst (N := 3) rfl ?_); refine Kd.R_lit k70 _ 70 ?hg (N := 3) ?hd (xs := ([] : List (S70))) (inner := []) (ok := fun _ => True) (okp := fun _ => True) ?hr ?hp (fun _ hk => hk) trivial (Below.refl _ _) (Nat.le_refl _) (by simp) ?_; (case hd => rfl); (case hg => rfl); (case hr => first | (go_simp; done) | (go_simp; rfl)); (case hp => exact (Reps.none _ _)); intro v163 w5 ho6 hb hg_ hnew_; clear hg_ hnew_; (first | rw [← Ny162.out] at ho6 | (simp only [Int.reduceToNat] at ho6; rw [← Ny162.out] at ho6)); have n0_ := asd (Kd.R_lower ho6 (below_size (skG HB.out GE160.out GE161.out))); have n1_ := asd (blk_below (g := gb160) (o := .cells #[.bool a0_0, .int .i64 a0_1, .int .i64 a0_2, .slice A0_3 l0_3.length c0_3] 36 (0, 0)) (skK BK160.out) hb); have n2_ := asd (blk_below (g := gb161) (o := .cells #[.bool false, .int .i64 0, .int .i64 0, .slice none 0 0] 36 (0, 0)) (skK BK161.out) hb); have n3_ := asd (below_step (skG HB.out GE160.out GE161.out) hb); clear BK160; clear BK161; clear HB; have HO164 := n0_; have BK160 := n1_; have BK161 := n2_; have HB := n3_; clear n0_ n1_ n2_ n3_; clear hb ho6; have hnb7 := NB160_161.out; have hnc7 := NB161_160.out; obtain ⟨hcz8_0, hcz8_1, hcz8_2, hcz8_3, hfz8_0, hfz8_1, hfz8_2, hfz8_3⟩ := bk4 BK160.out) | ((with_reducible refine gate_builtin (b := .append) (xs := #[.tmp 3, .tmp 5]) rfl ?_); at_builtin; refine Kd.R_append_rows k70 (w0 := w) w.heap.size rfl (.tmp 3) (.tmp 5) 34 70 (.agg #[(.int .i64 0), (.int .i64 0)]) 16 rfl Try.underlying34 info70 rfl (by decide) (by omega) v163 y162 l0_3 _ _ _ (fun _ => True) (fun _ => False) rfl rfl ?aO ?aR (fun _ _ h => h) (fun _ h => h.elim) ?aF ?aB ?aS ?aL ?_; (case aR => exact skC (Kd.C_below HR0_3.out HB.out)); (case aB => exact (skG HB.out GE160.out GE161.out)); (case aF => exact (fun _ _ => trivial)); (case aO => exact (skR HO164.out)); (case aS => exact (below_size (skG HB.out GE160.out GE161.out))); (case aL => have := LMc2.out; omega); intro v166 w9 ho hb hg hat; rw [← Ny165.out] at ho; have n0_ := asd (blk_grown (g := gb160) (o := .cells #[.bool a0_0, .int .i64 a0_1, .int .i64 a0_2, .slice A0_3 l0_3.length c0_3] 36 (0, 0)) (skK BK160.out) hg (Kd.R_ne HO164.out BK160.out (by decide))); have n1_ := asd (blk_grown (g := gb161) (o := .cells #[.bool false, .int .i64 0, .int .i64 0, .slice none 0 0] 36 (0, 0)) (skK BK161.out) hg (Kd.R_ne HO164.out BK161.out (by decide))); have n2_ := asd (hb); have n3_ := asd (ho); clear BK160; clear BK161; clear HB; clear HO164; have BK160 := n0_; have BK161 := n1_; have HB := n2_; have HO167 := n3_; clear n0_ n1_ n2_ n3_; clear ho hb hg hat; obtain ⟨Ao10, co10, eo10⟩ := Kd.R_slice HO167.out; subst eo10; obtain ⟨hcz11_0, hcz11_1, hcz11_2, hcz11_3, hfz11_0, hfz11_1, hfz11_2, hfz11_3⟩ := bk4 BK160.out; obtain ⟨hcz12_0, hcz12_1, hcz12_2, hcz12_3, hfz12_0, hfz12_1, hfz12_2, hfz12_3⟩ := bk4 BK161.out))
  refine bodyPost_ret (results_cell_row rfl _ _ gb161 36 #[.bool a0_0, .int .i64 a0_1, .int .i64 a0_2, .slice Ao10 y165.length co10] (0, 0) _ rfl (by refine skk ?_; refine blk_put (cs := #[.bool a0_0, .int .i64 a0_1, .int .i64 a0_2, .slice none 0 0]) ?_ 3 _ rfl; refine skk ?_; refine blk_put (cs := #[.bool a0_0, .int .i64 a0_1, .int .i64 0, .slice none 0 0]) ?_ 2 _ rfl; refine skk ?_; refine blk_put (cs := #[.bool a0_0, .int .i64 0, .int .i64 0, .slice none 0 0]) ?_ 1 _ rfl; refine skk ?_; refine blk_put (cs := #[.bool false, .int .i64 0, .int .i64 0, .slice none 0 0]) ?_ 0 _ rfl; refine skk ?_; refine blk_far ?_ NB161_160.out _; refine skk ?_; exact BK161.out) Try.underlying36 rfl (by kernel_rfl)) rfl ?_
  exact ⟨_, re, skR (Kd.R_mono (Kd.R_far (p := ⟨gb161, 3, none⟩) (Kd.R_far (p := ⟨gb161, 2, none⟩) (Kd.R_far (p := ⟨gb161, 1, none⟩) (Kd.R_far (p := ⟨gb161, 0, none⟩) (Kd.R_far (p := ⟨gb160, 3, none⟩) (Kd.R_types (Kd.R_types HO167.out BK160.out (by decide)) BK161.out (by decide)) (fun _ hk => hk.1.2) (.slice Ao10 y165.length co10)) (fun _ hk => hk.2) (.bool a0_0)) (fun _ hk => hk.2) (.int .i64 a0_1)) (fun _ hk => hk.2) (.int .i64 a0_2)) (fun _ hk => hk.2) (.slice Ao10 y165.length co10)) (fun _ hk => trivial)), skG HB.out GE160.out GE161.out⟩
 ·
  rw [if_neg c2] at H
  exact absurd H (by simp)
end Go.Proofs.Ytagdkmcgepidoaa.P
/- F32 -/
namespace Go.Proofs.Ytagdkmcgepidoaa.P
open Go.RowKit Go.Proofs.YtagdkmcgepidoaaW.PrintWords Go.Proofs.YtagdkmcgepidoaaW.PrintLast Go.Proofs.YtagdkmcgepidoaaW.PrintMore
attribute [local go_sem] max2_int min2_int max_two min_two max_three min_three max_four min_four   -- for this text's walks alone
set_option linter.unusedVariables false
set_option linter.unusedSimpArgs false
def larchref05_CopyEvents.l0 : Nat → List (S67) → List (S67) → Int → Option ((List (S67)))
 | 0, _, _, _ => none
 | k + 1, x0, x3, x4 => if x4 < (x0.length : Int) then (if 0 ≤ x4 then ((larchref05_CopyRet.f ((J67 x0 x4).f3.f0) ((J67 x0 x4).f3.f1) ((J67 x0 x4).f3.f2) ((J67 x0 x4).f3.f3)).bind fun bt249 => (if x3.length < 1466015503701 then (larchref05_CopyEvents.l0 k x0 (x3 ++ [(⟨(J67 x0 x4).f0, (J67 x0 x4).f1, (⟨(J67 x0 x4).f2.f0, (J67 x0 x4).f2.f1, (J67 x0 x4).f2.f2, (J67 x0 x4).f2.f3⟩ : S33), (⟨bt249.1, bt249.2.1, bt249.2.2.1, bt249.2.2.2⟩ : S36)⟩ : S67)]) (wrap64 (x4 + 1))) else (none))) else (none)) else (some x3)
def larchref05_CopyEvents.f (k : Nat) (l0 : List (S67)) : Option ((List (S67))) := larchref05_CopyEvents.l0 k l0 ([] : List (S67)) 0
set_option maxHeartbeats 8000000 in
set_option maxRecDepth 100000 in
theorem larchref05_CopyEvents.calls (k : Nat) (A0 : Option Addr) (c0 : Nat) (l0 : List (S67)) (r : List (S67)) (w : World) (hr0 : Kd.C k67 w A0 l0.length l0) (hc0 : l0.length ≤ c0) (h : larchref05_CopyEvents.f k l0 = some r) :
  Calls Try.prog 43 #[.slice A0 l0.length c0] w fun e w' => ∃ v0_ : Value, e = .returned (v0_) ∧ Kd.S k67 67 w' w.heap.size (fun _ => True) v0_ r ∧ Below w.heap.size w w' := by
 have hu67 := Try.underlying67
 have hu36 := Try.underlying36
 have HR0 := asd hr0
 have HC0 := asd hc0
 clear hr0 hc0
 have HB := asd (Below.refl w.heap.size w)
 have H : (larchref05_CopyEvents.l0 k l0 ([] : List (S67)) 0) = some r := h
 clear h
 have H' := asd H
 clear H
 go_enter Try.func43, Try.ntmps43
 go_wp2
 go_loopg [3, 4] k (fun kq v3 v4 w' => ∃ (x3_1 : List (S67)) (x4_1 : Int), v4 = .int .i64 x4_1 ∧ Aside0 (larchref05_CopyEvents.l0 kq l0 x3_1 x4_1 = some r) ∧ Aside0 (kq ≤ k) ∧ Aside0 (Kd.S k67 67 w' w.heap.size (fun _ => True) v3 x3_1) ∧ Aside0 (Below w.heap.size w w'))
 case atStart => exact ⟨(([] : List (S67))), (0), rs, H', ⟨Nat.le_refl _⟩, ⟨by first | exact Kd.S_nil _ _ _ _ _ | exact Kd.N_nil _ _ _ _ _ | exact Kd.V_nil _ _ _ _ _ | exact Kd.Q_nil _ _ _ _ _ | exact Kd.R_nil _ _ _ _ _⟩, ⟨skB HB.out⟩⟩
 case round =>
  clear H'
  obtain ⟨x3_1, x4_1, rfl, HA, HK1, HO_3, HB⟩ := hrel
  cases gk with
  | zero => exact absurd HA.out (by simp [larchref05_CopyEvents.l0])
  | succ k1 =>
   have H := HA.out
   clear HA
   simp only [larchref05_CopyEvents.l0] at H
   by_cases c2 : x4_1 < (l0.length : Int)
   ·
    rw [if_pos c2] at H
    have c2b0 : decide (x4_1 < (l0.length : Int)) = true := decide_eq_true c2
    clear c2
    by_cases c3 : 0 ≤ x4_1
    ·
     rw [if_pos c3] at H
     have c3b0 : decide (0 ≤ x4_1) = true := decide_eq_true c3
     clear c3
     replace H := Option.bind_eq_some_iff.mp H
     obtain ⟨⟨t249, t250, t251, t252⟩, A40, H⟩ := H
     replace H : (if x3_1.length < 1466015503701 then (larchref05_CopyEvents.l0 k1 l0 (x3_1 ++ [(⟨(J67 l0 x4_1).f0, (J67 l0 x4_1).f1, (⟨(J67 l0 x4_1).f2.f0, (J67 l0 x4_1).f2.f1, (J67 l0 x4_1).f2.f2, (J67 l0 x4_1).f2.f3⟩ : S33), (⟨t249, t250, t251, t252⟩ : S36)⟩ : S67)]) (wrap64 (x4_1 + 1))) else (none)) = some r := H
     have A4 := asd A40
     clear A40
     by_cases c5 : x3_1.length < 1466015503701
     ·
      rw [if_pos c5] at H
      have LMc5 := asd c5
      clear c5
      obtain ⟨y255, hy255⟩ : ∃ y_ : List (S67), y_ = (x3_1 ++ [(⟨(J67 l0 x4_1).f0, (J67 l0 x4_1).f1, (⟨(J67 l0 x4_1).f2.f0, (J67 l0 x4_1).f2.f1, (J67 l0 x4_1).f2.f2, (J67 l0 x4_1).f2.f3⟩ : S33), (⟨t249, t250, t251, t252⟩ : S36)⟩ : S67)]) := ⟨_, rfl⟩
      replace H : (larchref05_CopyEvents.l0 k1 l0 y255 (wrap64 (x4_1 + 1))) = some r := by first | (rw [hy255]; with_reducible exact H) | (have H2_ := (Option.bind_some _ _).symm.trans H; rw [hy255]; with_reducible exact H2_) | (have H2_ := (Option.bind_some _ _).symm.trans H; with_reducible exact H2_) | with_reducible exact H | (rw [hy255]; exact H) | exact H
      have Ny255 := asd hy255
      clear hy255
      have H' := asd H
      clear H
      have p247 : 0 ≤ (x4_1 : Int) := dt
      have q247 : x4_1 < (l0.length : Int) := dt
      obtain ⟨ad247, A247_9, c247_9, e247, hx247_0, hx247_1, hx247_2, hx247_3, hx247_4, hx247_5, hx247_6, hx247_7, hx247_8, hx247_9, hl247_9, hi247_9⟩ := at_T67 HR0.out x4_1 p247 q247
      cases e247
      replace hx247_0 := skc HB.out hx247_0
      replace hx247_1 := skc HB.out hx247_1
      replace hx247_2 := skc HB.out hx247_2
      replace hx247_3 := skc HB.out hx247_3
      replace hx247_4 := skc HB.out hx247_4
      replace hx247_5 := skc HB.out hx247_5
      replace hx247_6 := skc HB.out hx247_6
      replace hx247_7 := skc HB.out hx247_7
      replace hx247_8 := skc HB.out hx247_8
      replace hx247_9 := skc HB.out hx247_9
      have HR247_9 := asd hi247_9
      have HC247_9 := asd hl247_9
      clear hi247_9 hl247_9
      replace p247 := eq_true p247
      replace q247 := eq_true q247
      go_wp2_with (first | ((with_reducible refine gate_dst (N := 5) rfl ?_); refine box_event ?hg (N := 5) ?hd (cs := #[.int .i64 0, .bool false, .int .i64 0, .int .i64 0, .int .i64 0, .int .i64 0, .bool false, .int .i64 0, .int .i64 0, .slice none 0 0]) (t := 67) ?hr ?_; (case hd => rfl); (case hg => rfl); (case hr => first | (go_simp; done) | (go_simp; rfl)); intro gb248 hg w6 hbox hb; have n0_ := asd (Kd.S_below (Kd.S_elderB (by (with_reducible repeat (first | apply Kd.S_alloc | apply Kd.S_drewN | apply Kd.S_drew)); exact HO_3.out) gb248 (Nat.le_of_eq hg.symm)) hb); have n1_ := asd (below_step (skB HB.out) hb); have n2_ := asd (hbox); have n3_ := asd ((by rw [hg]; exact (below_size (skB HB.out)) : w.heap.size ≤ gb248)); have n4_ := asd ((by rw [hg]; exact (below_size (skB HB.out)) : w.heap.size ≤ gb248)); clear HO_3; clear HB; have HO_3 := n0_; have HB := n1_; have BK248 := n2_; have GW248 := n3_; have GE248 := n4_; clear n0_ n1_ n2_ n3_ n4_; clear hb hbox hg; have hcz7_0 : w6.cell? ⟨gb248, 0, none⟩ = some (.int .i64 0) := (blk_cell BK248.out 0).trans rfl; have hcz7_1 : w6.cell? ⟨gb248, 1, none⟩ = some (.bool false) := (blk_cell BK248.out 1).trans rfl; have hcz7_2 : w6.cell? ⟨gb248, 2, none⟩ = some (.int .i64 0) := (blk_cell BK248.out 2).trans rfl; have hcz7_3 : w6.cell? ⟨gb248, 3, none⟩ = some (.int .i64 0) := (blk_cell BK248.out 3).trans rfl; have hcz7_4 : w6.cell? ⟨gb248, 4, none⟩ = some (.int .i64 0) := (blk_cell BK248.out 4).trans rfl; have hcz7_5 : w6.cell? ⟨gb248, 5, none⟩ = some (.int .i64 0) := (blk_cell BK248.out 5).trans rfl; have hcz7_6 : w6.cell? ⟨gb248, 6, none⟩ = some (.bool false) := (blk_cell BK248.out 6).trans rfl; have hcz7_7 : w6.cell? ⟨gb248, 7, none⟩ = some (.int .i64 0) := (blk_cell BK248.out 7).trans rfl; have hcz7_8 : w6.cell? ⟨gb248, 8, none⟩ = some (.int .i64 0) := (blk_cell BK248.out 8).trans rfl; have hcz7_9 : w6.cell? ⟨gb248, 9, none⟩ = some (.slice none 0 0) := (blk_cell BK248.out 9).trans rfl; have hfz7_0 := blk_frozen BK248.out 0; have hfz7_1 := blk_frozen BK248.out 1; have hfz7_2 := blk_frozen BK248.out 2; have hfz7_3 := blk_frozen BK248.out 3; have hfz7_4 := blk_frozen BK248.out 4; have hfz7_5 := blk_frozen BK248.out 5; have hfz7_6 := blk_frozen BK248.out 6; have hfz7_7 := blk_frozen BK248.out 7; have hfz7_8 := blk_frozen BK248.out 8; have hfz7_9 := blk_frozen BK248.out 9) | ((with_reducible refine gate_callee (f := 65) rfl ?_); refine goesL_ (some 18) rfl rfl Try.func65 (by kernel_rfl) rfl #[.agg #[.bool ((J67 l0 x4_1).f3.f0), .int .i64 ((J67 l0 x4_1).f3.f1), .int .i64 ((J67 l0 x4_1).f3.f2), .slice A247_9 ((J67 l0 x4_1).f3.f3).length c247_9]] rfl ags ?_; (with_reducible refine (larchref05_CopyRet.calls ((J67 l0 x4_1).f3.f0) ((J67 l0 x4_1).f3.f1) ((J67 l0 x4_1).f3.f2) _ _ ((J67 l0 x4_1).f3.f3) t249 t250 t251 t252 _ ?side1 ?side2 A4.out).mono ?_); (case side1 => exact Kd.C_below HR247_9.out (skG HB.out GE248.out GE248.out)); (case side2 => exact HC247_9.out); rintro e w8 ⟨v253, rfl, ho0, hb⟩; refine ⟨_, rfl, ?_⟩; have n0_ := asd (Kd.S_elder' (by (with_reducible repeat (first | apply Kd.S_alloc | apply Kd.S_drewN | apply Kd.S_drew)); exact (Kd.S_mono (Kd.S_far (p := ⟨gb248, 9, none⟩) (Kd.S_far (p := ⟨gb248, 8, none⟩) (Kd.S_far (p := ⟨gb248, 7, none⟩) (Kd.S_far (p := ⟨gb248, 6, none⟩) (Kd.S_far (p := ⟨gb248, 5, none⟩) (Kd.S_far (p := ⟨gb248, 4, none⟩) (Kd.S_far (p := ⟨gb248, 3, none⟩) (Kd.S_far (p := ⟨gb248, 2, none⟩) (Kd.S_far (p := ⟨gb248, 1, none⟩) (Kd.S_far (p := ⟨gb248, 0, none⟩) (Kd.S_mono HO_3.out (fun k_ hk => (⟨hk, hk.2⟩ : _ ∧ k_ ≠ gb248))) (fun _ hk => hk.2) (.int .i64 ((J67 l0 x4_1).f0))) (fun _ hk => hk.2) (.bool ((J67 l0 x4_1).f1))) (fun _ hk => hk.2) (.int .i64 ((J67 l0 x4_1).f2.f0))) (fun _ hk => hk.2) (.int .i64 ((J67 l0 x4_1).f2.f1))) (fun _ hk => hk.2) (.int .i64 ((J67 l0 x4_1).f2.f2))) (fun _ hk => hk.2) (.int .i64 ((J67 l0 x4_1).f2.f3))) (fun _ hk => hk.2) (.bool ((J67 l0 x4_1).f3.f0))) (fun _ hk => hk.2) (.int .i64 ((J67 l0 x4_1).f3.f1))) (fun _ hk => hk.2) (.int .i64 ((J67 l0 x4_1).f3.f2))) (fun _ hk => hk.2) (.slice A247_9 ((J67 l0 x4_1).f3.f3).length c247_9)) (fun _ h_ => h_.1))) (Kd.R_base ho0) hb); have n1_ := asd (Kd.R_lower ho0 (below_size (skG HB.out GE248.out GE248.out))); have n2_ := asd (blk_below (g := gb248) (o := .cells #[.int .i64 ((J67 l0 x4_1).f0), .bool ((J67 l0 x4_1).f1), .int .i64 ((J67 l0 x4_1).f2.f0), .int .i64 ((J67 l0 x4_1).f2.f1), .int .i64 ((J67 l0 x4_1).f2.f2), .int .i64 ((J67 l0 x4_1).f2.f3), .bool ((J67 l0 x4_1).f3.f0), .int .i64 ((J67 l0 x4_1).f3.f1), .int .i64 ((J67 l0 x4_1).f3.f2), .slice A247_9 ((J67 l0 x4_1).f3.f3).length c247_9] 67 (0, 0)) (by refine skk ?_; refine blk_put (cs := #[.int .i64 ((J67 l0 x4_1).f0), .bool ((J67 l0 x4_1).f1), .int .i64 ((J67 l0 x4_1).f2.f0), .int .i64 ((J67 l0 x4_1).f2.f1), .int .i64 ((J67 l0 x4_1).f2.f2), .int .i64 ((J67 l0 x4_1).f2.f3), .bool ((J67 l0 x4_1).f3.f0), .int .i64 ((J67 l0 x4_1).f3.f1), .int .i64 ((J67 l0 x4_1).f3.f2), .slice none 0 0]) ?_ 9 _ rfl; refine skk ?_; refine blk_put (cs := #[.int .i64 ((J67 l0 x4_1).f0), .bool ((J67 l0 x4_1).f1), .int .i64 ((J67 l0 x4_1).f2.f0), .int .i64 ((J67 l0 x4_1).f2.f1), .int .i64 ((J67 l0 x4_1).f2.f2), .int .i64 ((J67 l0 x4_1).f2.f3), .bool ((J67 l0 x4_1).f3.f0), .int .i64 ((J67 l0 x4_1).f3.f1), .int .i64 0, .slice none 0 0]) ?_ 8 _ rfl; refine skk ?_; refine blk_put (cs := #[.int .i64 ((J67 l0 x4_1).f0), .bool ((J67 l0 x4_1).f1), .int .i64 ((J67 l0 x4_1).f2.f0), .int .i64 ((J67 l0 x4_1).f2.f1), .int .i64 ((J67 l0 x4_1).f2.f2), .int .i64 ((J67 l0 x4_1).f2.f3), .bool ((J67 l0 x4_1).f3.f0), .int .i64 0, .int .i64 0, .slice none 0 0]) ?_ 7 _ rfl; refine skk ?_; refine blk_put (cs := #[.int .i64 ((J67 l0 x4_1).f0), .bool ((J67 l0 x4_1).f1), .int .i64 ((J67 l0 x4_1).f2.f0), .int .i64 ((J67 l0 x4_1).f2.f1), .int .i64 ((J67 l0 x4_1).f2.f2), .int .i64 ((J67 l0 x4_1).f2.f3), .bool false, .int .i64 0, .int .i64 0, .slice none 0 0]) ?_ 6 _ rfl; refine skk ?_; refine blk_put (cs := #[.int .i64 ((J67 l0 x4_1).f0), .bool ((J67 l0 x4_1).f1), .int .i64 ((J67 l0 x4_1).f2.f0), .int .i64 ((J67 l0 x4_1).f2.f1), .int .i64 ((J67 l0 x4_1).f2.f2), .int .i64 0, .bool false, .int .i64 0, .int .i64 0, .slice none 0 0]) ?_ 5 _ rfl; refine skk ?_; refine blk_put (cs := #[.int .i64 ((J67 l0 x4_1).f0), .bool ((J67 l0 x4_1).f1), .int .i64 ((J67 l0 x4_1).f2.f0), .int .i64 ((J67 l0 x4_1).f2.f1), .int .i64 0, .int .i64 0, .bool false, .int .i64 0, .int .i64 0, .slice none 0 0]) ?_ 4 _ rfl; refine skk ?_; refine blk_put (cs := #[.int .i64 ((J67 l0 x4_1).f0), .bool ((J67 l0 x4_1).f1), .int .i64 ((J67 l0 x4_1).f2.f0), .int .i64 0, .int .i64 0, .int .i64 0, .bool false, .int .i64 0, .int .i64 0, .slice none 0 0]) ?_ 3 _ rfl; refine skk ?_; refine blk_put (cs := #[.int .i64 ((J67 l0 x4_1).f0), .bool ((J67 l0 x4_1).f1), .int .i64 0, .int .i64 0, .int .i64 0, .int .i64 0, .bool false, .int .i64 0, .int .i64 0, .slice none 0 0]) ?_ 2 _ rfl; refine skk ?_; refine blk_put (cs := #[.int .i64 ((J67 l0 x4_1).f0), .bool false, .int .i64 0, .int .i64 0, .int .i64 0, .int .i64 0, .bool false, .int .i64 0, .int .i64 0, .slice none 0 0]) ?_ 1 _ rfl; refine skk ?_; refine blk_put (cs := #[.int .i64 0, .bool false, .int .i64 0, .int .i64 0, .int .i64 0, .int .i64 0, .bool false, .int .i64 0, .int .i64 0, .slice none 0 0]) ?_ 0 _ rfl; refine skk ?_; exact BK248.out) hb); have n3_ := asd (below_step (skG HB.out GE248.out GE248.out) hb); clear HO_3; clear BK248; clear HB; have HO_3 := n0_; have HO254 := n1_; have BK248 := n2_; have HB := n3_; clear n0_ n1_ n2_ n3_; (try clear hb); (try clear hb2); (try clear hk); (try clear hi); (try clear ho0); have hcz9_0 : w8.cell? ⟨gb248, 0, none⟩ = some (.int .i64 ((J67 l0 x4_1).f0)) := (blk_cell BK248.out 0).trans rfl; have hcz9_1 : w8.cell? ⟨gb248, 1, none⟩ = some (.bool ((J67 l0 x4_1).f1)) := (blk_cell BK248.out 1).trans rfl; have hcz9_2 : w8.cell? ⟨gb248, 2, none⟩ = some (.int .i64 ((J67 l0 x4_1).f2.f0)) := (blk_cell BK248.out 2).trans rfl; have hcz9_3 : w8.cell? ⟨gb248, 3, none⟩ = some (.int .i64 ((J67 l0 x4_1).f2.f1)) := (blk_cell BK248.out 3).trans rfl; have hcz9_4 : w8.cell? ⟨gb248, 4, none⟩ = some (.int .i64 ((J67 l0 x4_1).f2.f2)) := (blk_cell BK248.out 4).trans rfl; have hcz9_5 : w8.cell? ⟨gb248, 5, none⟩ = some (.int .i64 ((J67 l0 x4_1).f2.f3)) := (blk_cell BK248.out 5).trans rfl; have hcz9_6 : w8.cell? ⟨gb248, 6, none⟩ = some (.bool ((J67 l0 x4_1).f3.f0)) := (blk_cell BK248.out 6).trans rfl; have hcz9_7 : w8.cell? ⟨gb248, 7, none⟩ = some (.int .i64 ((J67 l0 x4_1).f3.f1)) := (blk_cell BK248.out 7).trans rfl; have hcz9_8 : w8.cell? ⟨gb248, 8, none⟩ = some (.int .i64 ((J67 l0 x4_1).f3.f2)) := (blk_cell BK248.out 8).trans rfl; have hcz9_9 : w8.cell? ⟨gb248, 9, none⟩ = some (.slice A247_9 ((J67 l0 x4_1).f3.f3).length c247_9) := (blk_cell BK248.out 9).trans rfl; have hfz9_0 := blk_frozen BK248.out 0; have hfz9_1 := blk_frozen BK248.out 1; have hfz9_2 := blk_frozen BK248.out 2; have hfz9_3 := blk_frozen BK248.out 3; have hfz9_4 := blk_frozen BK248.out 4; have hfz9_5 := blk_frozen BK248.out 5; have hfz9_6 := blk_frozen BK248.out 6; have hfz9_7 := blk_frozen BK248.out 7; have hfz9_8 := blk_frozen BK248.out 8; have hfz9_9 := blk_frozen BK248.out 9; obtain ⟨Ao10, co10, eo10⟩ := Kd.R_slice HO254.out; subst eo10) | ((with_reducible refine gate_store (t := 36) (p := 19) rfl ?_); refine store_event (t := 36) (p := 19) (v := ?vo_w11) (w1 := ((((w8.setCell ⟨gb248, 6, none⟩ (.bool t249)).setCell ⟨gb248, 7, none⟩ (.int .i64 t250)).setCell ⟨gb248, 8, none⟩ (.int .i64 t251)).setCell ⟨gb248, 9, none⟩ (.slice Ao10 t252.length co10))) ?hg ?ho ?hn ?hr ?_; (case ho => rfl); (case hg => rfl); (case hn => rfl); (case hr => first | (go_simp; done) | (go_simp; rfl)); intro w11 hw; have n0_ : Aside0 (Kd.S k67 67 w11 w.heap.size (fun k_ => some k_ ≠ (.slice Ao10 t252.length co10 : Value).ownBlock ∧ k_ ≠ gb248) u3 x3_1) := ⟨(by rw [hw]; exact (by (with_reducible repeat (first | apply Kd.S_alloc | apply Kd.S_drewN | apply Kd.S_drew)); exact Kd.S_mono (Kd.S_far (p := ⟨gb248, 9, none⟩) (Kd.S_far (p := ⟨gb248, 8, none⟩) (Kd.S_far (p := ⟨gb248, 7, none⟩) (Kd.S_far (p := ⟨gb248, 6, none⟩) (Kd.S_mono HO_3.out (fun k_ hk => (⟨hk, hk.1.2⟩ : _ ∧ k_ ≠ gb248))) (fun _ hk => hk.2) (.bool t249)) (fun _ hk => hk.2) (.int .i64 t250)) (fun _ hk => hk.2) (.int .i64 t251)) (fun _ hk => hk.2) (.slice Ao10 t252.length co10)) (fun _ hk => ⟨hk.1.2, hk.1.1.2⟩)))⟩; have n1_ : Aside0 (Kd.R k70 70 w11 w.heap.size (fun _ => True) (.slice Ao10 t252.length co10) t252) := ⟨(by rw [hw]; exact (skR (Kd.R_mono (Kd.R_far (p := ⟨gb248, 9, none⟩) (Kd.R_far (p := ⟨gb248, 8, none⟩) (Kd.R_far (p := ⟨gb248, 7, none⟩) (Kd.R_far (p := ⟨gb248, 6, none⟩) (Kd.R_types HO254.out BK248.out (by decide)) (fun _ hk => hk.2) (.bool t249)) (fun _ hk => hk.2) (.int .i64 t250)) (fun _ hk => hk.2) (.int .i64 t251)) (fun _ hk => hk.2) (.slice Ao10 t252.length co10)) (fun _ hk => trivial))))⟩; have n2_ : Aside0 (w11.heap[gb248]? = some (.cells #[.int .i64 ((J67 l0 x4_1).f0), .bool ((J67 l0 x4_1).f1), .int .i64 ((J67 l0 x4_1).f2.f0), .int .i64 ((J67 l0 x4_1).f2.f1), .int .i64 ((J67 l0 x4_1).f2.f2), .int .i64 ((J67 l0 x4_1).f2.f3), .bool t249, .int .i64 t250, .int .i64 t251, .slice Ao10 t252.length co10] 67 (0, 0))) := ⟨(by rw [hw]; exact (by refine skk ?_; refine blk_put (cs := #[.int .i64 ((J67 l0 x4_1).f0), .bool ((J67 l0 x4_1).f1), .int .i64 ((J67 l0 x4_1).f2.f0), .int .i64 ((J67 l0 x4_1).f2.f1), .int .i64 ((J67 l0 x4_1).f2.f2), .int .i64 ((J67 l0 x4_1).f2.f3), .bool t249, .int .i64 t250, .int .i64 t251, .slice A247_9 ((J67 l0 x4_1).f3.f3).length c247_9]) ?_ 9 _ rfl; refine skk ?_; refine blk_put (cs := #[.int .i64 ((J67 l0 x4_1).f0), .bool ((J67 l0 x4_1).f1), .int .i64 ((J67 l0 x4_1).f2.f0), .int .i64 ((J67 l0 x4_1).f2.f1), .int .i64 ((J67 l0 x4_1).f2.f2), .int .i64 ((J67 l0 x4_1).f2.f3), .bool t249, .int .i64 t250, .int .i64 ((J67 l0 x4_1).f3.f2), .slice A247_9 ((J67 l0 x4_1).f3.f3).length c247_9]) ?_ 8 _ rfl; refine skk ?_; refine blk_put (cs := #[.int .i64 ((J67 l0 x4_1).f0), .bool ((J67 l0 x4_1).f1), .int .i64 ((J67 l0 x4_1).f2.f0), .int .i64 ((J67 l0 x4_1).f2.f1), .int .i64 ((J67 l0 x4_1).f2.f2), .int .i64 ((J67 l0 x4_1).f2.f3), .bool t249, .int .i64 ((J67 l0 x4_1).f3.f1), .int .i64 ((J67 l0 x4_1).f3.f2), .slice A247_9 ((J67 l0 x4_1).f3.f3).length c247_9]) ?_ 7 _ rfl; refine skk ?_; refine blk_put (cs := #[.int .i64 ((J67 l0 x4_1).f0), .bool ((J67 l0 x4_1).f1), .int .i64 ((J67 l0 x4_1).f2.f0), .int .i64 ((J67 l0 x4_1).f2.f1), .int .i64 ((J67 l0 x4_1).f2.f2), .int .i64 ((J67 l0 x4_1).f2.f3), .bool ((J67 l0 x4_1).f3.f0), .int .i64 ((J67 l0 x4_1).f3.f1), .int .i64 ((J67 l0 x4_1).f3.f2), .slice A247_9 ((J67 l0 x4_1).f3.f3).length c247_9]) ?_ 6 _ rfl; refine skk ?_; exact BK248.out))⟩; have n3_ : Aside0 (Below w.heap.size w w11) := ⟨(by rw [hw]; exact (skG HB.out GE248.out GE248.out))⟩; clear hw; clear HO_3; clear HO254; clear BK248; clear HB; have HO_3 := n0_; have HO254 := n1_; have BK248 := n2_; have HB := n3_; clear n0_ n1_ n2_ n3_; have hcz12_0 : w11.cell? ⟨gb248, 0, none⟩ = some (.int .i64 ((J67 l0 x4_1).f0)) := (blk_cell BK248.out 0).trans rfl; have hcz12_1 : w11.cell? ⟨gb248, 1, none⟩ = some (.bool ((J67 l0 x4_1).f1)) := (blk_cell BK248.out 1).trans rfl; have hcz12_2 : w11.cell? ⟨gb248, 2, none⟩ = some (.int .i64 ((J67 l0 x4_1).f2.f0)) := (blk_cell BK248.out 2).trans rfl; have hcz12_3 : w11.cell? ⟨gb248, 3, none⟩ = some (.int .i64 ((J67 l0 x4_1).f2.f1)) := (blk_cell BK248.out 3).trans rfl; have hcz12_4 : w11.cell? ⟨gb248, 4, none⟩ = some (.int .i64 ((J67 l0 x4_1).f2.f2)) := (blk_cell BK248.out 4).trans rfl; have hcz12_5 : w11.cell? ⟨gb248, 5, none⟩ = some (.int .i64 ((J67 l0 x4_1).f2.f3)) := (blk_cell BK248.out 5).trans rfl; have hcz12_6 : w11.cell? ⟨gb248, 6, none⟩ = some (.bool t249) := (blk_cell BK248.out 6).trans rfl; have hcz12_7 : w11.cell? ⟨gb248, 7, none⟩ = some (.int .i64 t250) := (blk_cell BK248.out 7).trans rfl; have hcz12_8 : w11.cell? ⟨gb248, 8, none⟩ = some (.int .i64 t251) := (blk_cell BK248.out 8).trans rfl; have hcz12_9 : w11.cell? ⟨gb248, 9, none⟩ = some (.slice Ao10 t252.length co10) := (blk_cell BK248.out 9).trans rfl; have hfz12_0 := blk_frozen BK248.out 0; have hfz12_1 := blk_frozen BK248.out 1; have hfz12_2 := blk_frozen BK248.out 2; have hfz12_3 := blk_frozen BK248.out 3; have hfz12_4 := blk_frozen BK248.out 4; have hfz12_5 := blk_frozen BK248.out 5; have hfz12_6 := blk_frozen BK248.out 6; have hfz12_7 := blk_frozen BK248.out 7; have hfz12_8 := blk_frozen BK248.out 8; have hfz12_9 := blk_frozen BK248.out 9) | ((with_reducible refine gate_builtin (b := .append) (xs := #[.tmp 20, .tmp 22]) rfl ?_); at_builtin; refine Kd.S_append k67 (w0 := w) w.heap.size rfl (.tmp 20) (.tmp 22) 22 67 (.agg #[(.int .i64 0), (.bool false), (.int .i64 0), (.int .i64 0), (.int .i64 0), (.int .i64 0), (.bool false), (.int .i64 0), (.int .i64 0), (.slice none 0 0)]) 96 rfl Try.underlying22 info67 rfl (by decide) (by omega) u3 x3_1 (⟨(J67 l0 x4_1).f0, (J67 l0 x4_1).f1, (⟨(J67 l0 x4_1).f2.f0, (J67 l0 x4_1).f2.f1, (J67 l0 x4_1).f2.f2, (J67 l0 x4_1).f2.f3⟩ : S33), (⟨t249, t250, t251, t252⟩ : S36)⟩ : S67) [.int .i64 ((J67 l0 x4_1).f0), .bool ((J67 l0 x4_1).f1), .int .i64 ((J67 l0 x4_1).f2.f0), .int .i64 ((J67 l0 x4_1).f2.f1), .int .i64 ((J67 l0 x4_1).f2.f2), .int .i64 ((J67 l0 x4_1).f2.f3), .bool t249, .int .i64 t250, .int .i64 t251, .slice Ao10 t252.length co10] (fun k_ => k_ ≠ gb248) (fun k_ => some k_ = (.slice Ao10 t252.length co10 : Value).ownBlock) rfl rfl ?aP (fun k_ hk_ => ((Kd.R_mono (ok' := fun k_ => ((fun k_ => k_ ≠ gb248)) k_ ∧ some k_ ≠ (u3 : Value).ownBlock) (Kd.R_types (Kd.R_apart' (HO254.out) (Kd.S_typed HO_3.out) (by decide)) BK248.out (by decide)) (fun k_ hk => ⟨hk.2, hk.1.2⟩))).1 k_ hk_.symm) ?aF ?aO ?aB ?aS ?aL ?_; (case aP => exact k67_mkM _ _ _ (⟨(J67 l0 x4_1).f0, (J67 l0 x4_1).f1, (⟨(J67 l0 x4_1).f2.f0, (J67 l0 x4_1).f2.f1, (J67 l0 x4_1).f2.f2, (J67 l0 x4_1).f2.f3⟩ : S33), (⟨t249, t250, t251, t252⟩ : S36)⟩ : S67) (Kd.R_mono (Kd.R_tight rfl (Kd.R_mono (ok' := fun k_ => ((fun k_ => k_ ≠ gb248)) k_ ∧ some k_ ≠ (u3 : Value).ownBlock) (Kd.R_types (Kd.R_apart' (HO254.out) (Kd.S_typed HO_3.out) (by decide)) BK248.out (by decide)) (fun k_ hk => ⟨hk.2, hk.1.2⟩))) (fun _ h_ => h_))); (case aB => exact (skG HB.out GE248.out GE248.out)); (case aF => exact (fun k_ hk => Kd.freshB (g := gb248) (o := .cells #[.int .i64 ((J67 l0 x4_1).f0), .bool ((J67 l0 x4_1).f1), .int .i64 ((J67 l0 x4_1).f2.f0), .int .i64 ((J67 l0 x4_1).f2.f1), .int .i64 ((J67 l0 x4_1).f2.f2), .int .i64 ((J67 l0 x4_1).f2.f3), .bool t249, .int .i64 t250, .int .i64 t251, .slice Ao10 t252.length co10] 67 (0, 0)) (skK BK248.out) k_ hk)); (case aO => exact (by (with_reducible repeat (first | apply Kd.S_alloc | apply Kd.S_drewN | apply Kd.S_drew)); exact Kd.S_mono HO_3.out (fun k_ hk => ⟨hk.2, fun e_ => hk.1 e_⟩))); (case aS => exact (below_size (skG HB.out GE248.out GE248.out))); (case aL => have := LMc5.out; omega); intro v256 w13 ho hb hg hat; rw [← Ny255.out] at ho; have n0_ := asd (blk_grown (g := gb248) (o := .cells #[.int .i64 ((J67 l0 x4_1).f0), .bool ((J67 l0 x4_1).f1), .int .i64 ((J67 l0 x4_1).f2.f0), .int .i64 ((J67 l0 x4_1).f2.f1), .int .i64 ((J67 l0 x4_1).f2.f2), .int .i64 ((J67 l0 x4_1).f2.f3), .bool t249, .int .i64 t250, .int .i64 t251, .slice Ao10 t252.length co10] 67 (0, 0)) (skK BK248.out) hg (Kd.S_away HO_3.out (fun _ hk => hk.2))); have n1_ := asd (hb); have n2_ := asd (ho); clear BK248; clear HB; clear HO_3; clear HO254; have BK248 := n0_; have HB := n1_; have HO257 := n2_; clear n0_ n1_ n2_; clear ho hb hg hat))
      go_roundg k1
      case measure => have := HK1.out; omega
      case rel => exact ⟨(y255), (wrap64 (x4_1 + 1)), rs, H', ⟨by have := HK1.out; omega⟩, ⟨by (with_reducible repeat (first | apply Kd.S_alloc | apply Kd.S_drewN | apply Kd.S_drew)); exact Kd.S_mono HO257.out (fun _ hk => trivial)⟩, ⟨skG HB.out GE248.out GE248.out⟩⟩
     ·
      rw [if_neg c5] at H
      exact absurd H (by simp)
    ·
     rw [if_neg c3] at H
     exact absurd H (by simp)
   ·
    rw [if_neg c2] at H
    have c2b0 : decide (x4_1 < (l0.length : Int)) = false := decide_eq_false c2
    clear c2
    obtain rfl := Option.some.inj H
    go_wp2
    go_ret
    exact ⟨_, re, by (with_reducible repeat (first | apply Kd.S_alloc | apply Kd.S_drewN | apply Kd.S_drew)); exact HO_3.out, skB HB.out⟩
end Go.Proofs.Ytagdkmcgepidoaa.P
/- F1 -/
namespace Go.Proofs.Ytagdkmcgepidoaa.P
open Go.RowKit Go.Proofs.YtagdkmcgepidoaaW.PrintWords Go.Proofs.YtagdkmcgepidoaaW.PrintLast Go.Proofs.YtagdkmcgepidoaaW.PrintMore
attribute [local go_sem] max2_int min2_int max_two min_two max_three min_three max_four min_four   -- for this text's walks alone
set_option linter.unusedVariables false
set_option linter.unusedSimpArgs false
theorem eqA33 (d : Nat) (w : World) (x0 y0 : Int) (x1 y1 : Int) (x2 y2 : Int) (x3 y3 : Int) :
  (Op.equalIn (d + 2) 33 (.agg #[.int .i64 x0, .int .i64 x1, .int .i64 x2, .int .i64 x3]) (.agg #[.int .i64 y0, .int .i64 y1, .int .i64 y2, .int .i64 y3])).run Try.prog w = .ok (x0 == y0 && (x1 == y1 && (x2 == y2 && (x3 == y3)))) w := by
 refine eqA_of Try.underlying33 (by kernel_rfl) ?_
 refine eqf_cons (by rfl) (by go_simp; rfl) (by go_simp; rfl) (by go_simp) ?_
 refine eqf_cons (by rfl) (by go_simp; rfl) (by go_simp; rfl) (by go_simp) ?_
 refine eqf_cons (by rfl) (by go_simp; rfl) (by go_simp; rfl) (by go_simp) ?_
 exact eqf_last (by rfl) (by go_simp; rfl) (by go_simp; rfl) (by go_simp)
end Go.Proofs.Ytagdkmcgepidoaa.P
/- F2 -/
namespace Go.Proofs.Ytagdkmcgepidoaa.P
open Go.RowKit Go.Proofs.YtagdkmcgepidoaaW.PrintWords Go.Proofs.YtagdkmcgepidoaaW.PrintLast Go.Proofs.YtagdkmcgepidoaaW.PrintMore
attribute [local go_sem] max2_int min2_int max_two min_two max_three min_three max_four min_four   -- for this text's walks alone
set_option linter.unusedVariables false
set_option linter.unusedSimpArgs false
theorem eqA70 (d : Nat) (w : World) (x0 y0 : Int) (x1 y1 : Int) :
  (Op.equalIn (d + 2) 70 (.agg #[.int .i64 x0, .int .i64 x1]) (.agg #[.int .i64 y0, .int .i64 y1])).run Try.prog w = .ok (x0 == y0 && (x1 == y1)) w := by
 refine eqA_of Try.underlying70 (by kernel_rfl) ?_
 refine eqf_cons (by rfl) (by go_simp; rfl) (by go_simp; rfl) (by go_simp) ?_
 exact eqf_last (by rfl) (by go_simp; rfl) (by go_simp; rfl) (by go_simp)
end Go.Proofs.Ytagdkmcgepidoaa.P
/- F18 -/
namespace Go.Proofs.Ytagdkmcgepidoaa.P
open Go.RowKit Go.Proofs.YtagdkmcgepidoaaW.PrintWords Go.Proofs.YtagdkmcgepidoaaW.PrintLast Go.Proofs.YtagdkmcgepidoaaW.PrintMore
attribute [local go_sem] max2_int min2_int max_two min_two max_three min_three max_four min_four   -- for this text's walks alone
set_option linter.unusedVariables false
set_option linter.unusedSimpArgs false
attribute [local go_sem high] eqA70
def larchref05_SamePairs.l0 : Nat → List (S70) → List (S70) → Int → Option (Bool)
 | 0, _, _, _ => none
 | k + 1, x0, x1, x5 => if x5 < (x0.length : Int) then (if 0 ≤ x5 then (if x5 < (x1.length : Int) then (if (!(((J70 x0 x5).f0) == ((J70 x1 x5).f0)) || (!(((J70 x0 x5).f1) == ((J70 x1 x5).f1)))) = true then (some false) else (larchref05_SamePairs.l0 k x0 x1 (wrap64 (x5 + 1)))) else (none)) else (none)) else (some true)
def larchref05_SamePairs.f (k : Nat) (l0 : List (S70)) (l1 : List (S70)) : Option (Bool) := if (l0.length : Int) = (l1.length : Int) then (larchref05_SamePairs.l0 k l0 l1 0) else (some false)
set_option maxHeartbeats 8000000 in
set_option maxRecDepth 100000 in
theorem larchref05_SamePairs.calls (k : Nat) (A0 : Option Addr) (c0 : Nat) (l0 : List (S70)) (A1 : Option Addr) (c1 : Nat) (l1 : List (S70)) (r : Bool) (w : World) (hr0 : Kd.C k70 w A0 l0.length l0) (hc0 : l0.length ≤ c0) (hr1 : Kd.C k70 w A1 l1.length l1) (hc1 : l1.length ≤ c1) (h : larchref05_SamePairs.f k l0 l1 = some r) :
  Calls Try.prog 72 #[.slice A0 l0.length c0, .slice A1 l1.length c1] w fun e w' => e = .returned (.bool r) ∧ Drawn0 w w' := by
 have hu70 := Try.underlying70
 have HR0 := asd hr0
 have HC0 := asd hc0
 clear hr0 hc0
 have HR1 := asd hr1
 have HC1 := asd hc1
 clear hr1 hc1
 have H : (if (l0.length : Int) = (l1.length : Int) then (larchref05_SamePairs.l0 k l0 l1 0) else (some false)) = some r := h
 clear h
 by_cases c3 : (l0.length : Int) = (l1.length : Int)
 ·
  rw [if_pos c3] at H
  have c3b0 : ((l0.length : Int) == (l1.length : Int)) = true := beq_iff_eq.mpr c3
  have c3b1 : ((l0.length : Int) != (l1.length : Int)) = false := bne_eq_false_iff_eq.mpr c3
  have c3b2 : (l0.length == l1.length) = true := by first | simpa using c3 | (simp at c3 ⊢; omega)
  clear c3
  have H' := asd H
  clear H
  go_enter Try.func72, Try.ntmps72
  go_wp2
  repeat (go_quiet (fail); try go_wp2)
  go_loopg [5] k (fun kq v5 w' => ∃ (x5_1 : Int), v5 = .int .i64 x5_1 ∧ Aside0 (larchref05_SamePairs.l0 kq l0 l1 x5_1 = some r) ∧ Aside0 (kq ≤ k) ∧ Drawn0 w w')
  case atStart => exact ⟨(0), rs, H', ⟨Nat.le_refl _⟩, by repeat (first | exact Drawn0.refl _ | apply Drawn0.step)⟩
  case round =>
   clear H'
   try clear c1
   try clear p2
   try clear c3
   try clear c3b0
   try clear c3b1
   try clear c3b2
   obtain ⟨x5_1, rfl, HA, HK1, ⟨m1, rfl⟩⟩ := hrel
   cases gk with
   | zero => exact absurd HA.out (by simp [larchref05_SamePairs.l0])
   | succ k1 =>
    have H := HA.out
    clear HA
    simp only [larchref05_SamePairs.l0] at H
    by_cases c4 : x5_1 < (l0.length : Int)
    ·
     rw [if_pos c4] at H
     have c4b0 : decide (x5_1 < (l0.length : Int)) = true := decide_eq_true c4
     clear c4
     by_cases c5 : 0 ≤ x5_1
     ·
      rw [if_pos c5] at H
      have c5b0 : decide (0 ≤ x5_1) = true := decide_eq_true c5
      clear c5
      by_cases c6 : x5_1 < (l1.length : Int)
      ·
       rw [if_pos c6] at H
       have c6b0 : decide (x5_1 < (l1.length : Int)) = true := decide_eq_true c6
       clear c6
       by_cases c7 : (!(((J70 l0 x5_1).f0) == ((J70 l1 x5_1).f0)) || (!(((J70 l0 x5_1).f1) == ((J70 l1 x5_1).f1)))) = true
       ·
        rw [if_pos c7] at H
        have c7b0 : (!(((J70 l0 x5_1).f0) == ((J70 l1 x5_1).f0)) || (!(((J70 l0 x5_1).f1) == ((J70 l1 x5_1).f1)))) = true := c7
        clear c7
        obtain rfl := Option.some.inj H
        have p140 : 0 ≤ (x5_1 : Int) := dt
        have q140 : x5_1 < (l0.length : Int) := dt
        obtain ⟨ad140, e140, hx140_0, hx140_1⟩ := at_T70 HR0.out x5_1 p140 q140
        cases e140
        replace p140 := eq_true p140
        replace q140 := eq_true q140
        have p141 : 0 ≤ (x5_1 : Int) := dt
        have q141 : x5_1 < (l1.length : Int) := dt
        obtain ⟨ad141, e141, hx141_0, hx141_1⟩ := at_T70 HR1.out x5_1 p141 q141
        cases e141
        replace p141 := eq_true p141
        replace q141 := eq_true q141
        go_wp2
        repeat (go_quiet (fail); try go_wp2)
        go_ret
        exact ⟨by first | rfl | (simp; done) | (simp [*]; done), by repeat (first | exact Drawn0.refl _ | apply Drawn0.step)⟩
       ·
        rw [if_neg c7] at H
        have c7b0 : (!(((J70 l0 x5_1).f0) == ((J70 l1 x5_1).f0)) || (!(((J70 l0 x5_1).f1) == ((J70 l1 x5_1).f1)))) = false := by simpa using c7
        clear c7
        have H' := asd H
        clear H
        have p140 : 0 ≤ (x5_1 : Int) := dt
        have q140 : x5_1 < (l0.length : Int) := dt
        obtain ⟨ad140, e140, hx140_0, hx140_1⟩ := at_T70 HR0.out x5_1 p140 q140
        cases e140
        replace p140 := eq_true p140
        replace q140 := eq_true q140
        have p141 : 0 ≤ (x5_1 : Int) := dt
        have q141 : x5_1 < (l1.length : Int) := dt
        obtain ⟨ad141, e141, hx141_0, hx141_1⟩ := at_T70 HR1.out x5_1 p141 q141
        cases e141
        replace p141 := eq_true p141
        replace q141 := eq_true q141
        go_wp2
        repeat (go_quiet (fail); try go_wp2)
        go_roundg k1
        case measure => have := HK1.out; omega
        case rel => exact ⟨(wrap64 (x5_1 + 1)), rs, H', ⟨by have := HK1.out; omega⟩, by repeat (first | exact Drawn0.refl _ | apply Drawn0.step)⟩
      ·
       rw [if_neg c6] at H
       exact absurd H (by simp)
     ·
      rw [if_neg c5] at H
      exact absurd H (by simp)
    ·
     rw [if_neg c4] at H
     have c4b0 : decide (x5_1 < (l0.length : Int)) = false := decide_eq_false c4
     clear c4
     obtain rfl := Option.some.inj H
     go_wp2
     repeat (go_quiet (fail); try go_wp2)
     go_ret
     exact ⟨by first | rfl | (simp; done) | (simp [*]; done), by repeat (first | exact Drawn0.refl _ | apply Drawn0.step)⟩
 ·
  rw [if_neg c3] at H
  have c3b0 : ((l0.length : Int) == (l1.length : Int)) = false := beq_eq_false_iff_ne.mpr c3
  have c3b1 : ((l0.length : Int) != (l1.length : Int)) = true := bne_iff_ne.mpr c3
  have c3b2 : (l0.length == l1.length) = false := by first | simpa using c3 | (simp at c3 ⊢; omega)
  obtain rfl := Option.some.inj H
  go_enter Try.func72, Try.ntmps72
  go_wp2
  repeat (go_quiet (fail); try go_wp2)
  go_ret
  exact ⟨by first | rfl | (simp; done) | (simp [*]; done), by repeat (first | exact Drawn0.refl _ | apply Drawn0.step)⟩
end Go.Proofs.Ytagdkmcgepidoaa.P
/- F19 -/
namespace Go.Proofs.Ytagdkmcgepidoaa.P
open Go.RowKit Go.Proofs.YtagdkmcgepidoaaW.PrintWords Go.Proofs.YtagdkmcgepidoaaW.PrintLast Go.Proofs.YtagdkmcgepidoaaW.PrintMore
attribute [local go_sem] max2_int min2_int max_two min_two max_three min_three max_four min_four   -- for this text's walks alone
set_option linter.unusedVariables false
set_option linter.unusedSimpArgs false
def larchref05_SameRet.f (k : Nat) (a0_0 : Bool) (a0_1 : Int) (a0_2 : Int) (l0_3 : List (S70)) (a1_0 : Bool) (a1_1 : Int) (a1_2 : Int) (l1_3 : List (S70)) : Option (Bool) := if (a0_0 == a1_0) = true then (if a0_1 = a1_1 then (if a0_2 = a1_2 then ((larchref05_SamePairs.f k l0_3 l1_3).bind fun t144 => (some t144)) else (some false)) else (some false)) else (some false)
set_option maxHeartbeats 8000000 in
set_option maxRecDepth 100000 in
theorem larchref05_SameRet.calls (k : Nat) (a0_0 : Bool) (a0_1 : Int) (a0_2 : Int) (A0_3 : Option Addr) (c0_3 : Nat) (l0_3 : List (S70)) (a1_0 : Bool) (a1_1 : Int) (a1_2 : Int) (A1_3 : Option Addr) (c1_3 : Nat) (l1_3 : List (S70)) (r : Bool) (w : World) (hr0_3 : Kd.C k70 w A0_3 l0_3.length l0_3) (hc0_3 : l0_3.length ≤ c0_3) (hr1_3 : Kd.C k70 w A1_3 l1_3.length l1_3) (hc1_3 : l1_3.length ≤ c1_3) (h : larchref05_SameRet.f k a0_0 a0_1 a0_2 l0_3 a1_0 a1_1 a1_2 l1_3 = some r) :
  Calls Try.prog 63 #[.agg #[.bool a0_0, .int .i64 a0_1, .int .i64 a0_2, .slice A0_3 l0_3.length c0_3], .agg #[.bool a1_0, .int .i64 a1_1, .int .i64 a1_2, .slice A1_3 l1_3.length c1_3]] w fun e w' => e = .returned (.bool r) ∧ Below w.heap.size w w' := by
 have hu36 := Try.underlying36
 have HR0_3 := asd hr0_3
 have HC0_3 := asd hc0_3
 clear hr0_3 hc0_3
 have HR1_3 := asd hr1_3
 have HC1_3 := asd hc1_3
 clear hr1_3 hc1_3
 have HB := asd (Below.refl w.heap.size w)
 have H : (if (a0_0 == a1_0) = true then (if a0_1 = a1_1 then (if a0_2 = a1_2 then ((larchref05_SamePairs.f k l0_3 l1_3).bind fun t144 => (some t144)) else (some false)) else (some false)) else (some false)) = some r := h
 clear h
 by_cases c3 : (a0_0 == a1_0) = true
 ·
  rw [if_pos c3] at H
  have c3b0 : (a0_0 == a1_0) = true := c3
  (try (have c3b1 : decide (a0_0 = a1_0) = true := by simpa using c3))
  (try (have c3b2 : (a0_0 == a1_0) = true := by simpa using c3))
  clear c3
  by_cases c4 : a0_1 = a1_1
  ·
   rw [if_pos c4] at H
   have c4b0 : (a0_1 == a1_1) = true := beq_iff_eq.mpr c4
   have c4b1 : (a0_1 != a1_1) = false := bne_eq_false_iff_eq.mpr c4
   clear c4
   by_cases c5 : a0_2 = a1_2
   ·
    rw [if_pos c5] at H
    have c5b0 : (a0_2 == a1_2) = true := beq_iff_eq.mpr c5
    have c5b1 : (a0_2 != a1_2) = false := bne_eq_false_iff_eq.mpr c5
    clear c5
    replace H := Option.bind_eq_some_iff.mp H
    obtain ⟨t144, A60, H⟩ := H
    replace H : (some t144) = some r := H
    have A6 := asd A60
    clear A60
    obtain rfl := Option.some.inj H
    go_enter Try.func63, Try.ntmps63
    go_wp2_with (first | ((with_reducible refine gate_dst (N := 2) rfl ?_); refine box_event ?hg (N := 2) ?hd (cs := #[.bool a0_0, .int .i64 a0_1, .int .i64 a0_2, .slice A0_3 l0_3.length c0_3]) (t := 36) ?hr ?_; (case hd => rfl); (case hg => rfl); (case hr => first | (go_simp; done) | (go_simp; rfl)); intro gb142 hg w7 hbox hb; have n0_ := asd (below_step (skB HB.out) hb); have n1_ := asd (hbox); have n2_ := asd ((by rw [hg]; exact (below_size (skB HB.out)) : w.heap.size ≤ gb142)); have n3_ := asd ((by rw [hg]; exact (below_size (skB HB.out)) : w.heap.size ≤ gb142)); clear HB; have HB := n0_; have BK142 := n1_; have GW142 := n2_; have GE142 := n3_; clear n0_ n1_ n2_ n3_; clear hb hbox hg) | ((with_reducible refine gate_dst (N := 3) rfl ?_); refine box_event ?hg (N := 3) ?hd (cs := #[.bool a1_0, .int .i64 a1_1, .int .i64 a1_2, .slice A1_3 l1_3.length c1_3]) (t := 36) ?hr ?_; (case hd => rfl); (case hg => rfl); (case hr => first | (go_simp; done) | (go_simp; rfl)); intro gb143 hg w8 hbox hb; have n0_ := asd (blk_below (g := gb142) (o := .cells #[.bool a0_0, .int .i64 a0_1, .int .i64 a0_2, .slice A0_3 l0_3.length c0_3] 36 (0, 0)) (skK BK142.out) hb); have n1_ := asd (below_step (skG HB.out GE142.out GE142.out) hb); have n2_ := asd (hbox); have n3_ := asd ((by rw [hg]; exact (below_size (skG HB.out GE142.out GE142.out)) : w.heap.size ≤ gb143)); have n4_ := asd ((by rw [hg]; exact (below_size (skG HB.out GE142.out GE142.out)) : w.heap.size ≤ gb143)); have n5_ := asd ((by rw [hg]; exact Nat.ne_of_lt (blk_lt (g := gb142) (o := .cells #[.bool a0_0, .int .i64 a0_1, .int .i64 a0_2, .slice A0_3 l0_3.length c0_3] 36 (0, 0)) (skK BK142.out)) : gb142 ≠ gb143)); have n6_ := asd ((by rw [hg]; exact Nat.ne_of_gt (blk_lt (g := gb142) (o := .cells #[.bool a0_0, .int .i64 a0_1, .int .i64 a0_2, .slice A0_3 l0_3.length c0_3] 36 (0, 0)) (skK BK142.out)) : gb143 ≠ gb142)); clear BK142; clear HB; have BK142 := n0_; have HB := n1_; have BK143 := n2_; have GW143 := n3_; have GE143 := n4_; have NB142_143 := n5_; have NB143_142 := n6_; clear n0_ n1_ n2_ n3_ n4_ n5_ n6_; clear hb hbox hg; have hnb9 := NB142_143.out; have hnc9 := NB143_142.out; obtain ⟨hcz10_0, hcz10_1, hcz10_2, hcz10_3, hfz10_0, hfz10_1, hfz10_2, hfz10_3⟩ := bk4 BK142.out; obtain ⟨hcz11_0, hcz11_1, hcz11_2, hcz11_3, hfz11_0, hfz11_1, hfz11_2, hfz11_3⟩ := bk4 BK143.out) | (go_at_call 72; (with_reducible refine (larchref05_SamePairs.calls k _ _ l0_3 _ _ l1_3 t144 _ ?side1 ?side2 ?side3 ?side4 A6.out).mono ?_); (case side1 => exact skC (Kd.C_below HR0_3.out HB.out)); (case side2 => exact HC0_3.out); (case side3 => exact skC (Kd.C_below HR1_3.out HB.out)); (case side4 => exact HC1_3.out); rintro e w' ⟨rfl, ⟨nd, rfl⟩⟩))
    go_ret
    exact ⟨re, skG HB.out GE142.out GE143.out⟩
   ·
    rw [if_neg c5] at H
    have c5b0 : (a0_2 == a1_2) = false := beq_eq_false_iff_ne.mpr c5
    have c5b1 : (a0_2 != a1_2) = true := bne_iff_ne.mpr c5
    obtain rfl := Option.some.inj H
    go_enter Try.func63, Try.ntmps63
    go_wp2_with (first | ((with_reducible refine gate_dst (N := 2) rfl ?_); refine box_event ?hg (N := 2) ?hd (cs := #[.bool a0_0, .int .i64 a0_1, .int .i64 a0_2, .slice A0_3 l0_3.length c0_3]) (t := 36) ?hr ?_; (case hd => rfl); (case hg => rfl); (case hr => first | (go_simp; done) | (go_simp; rfl)); intro gb142 hg w12 hbox hb; have n0_ := asd (below_step (skB HB.out) hb); have n1_ := asd (hbox); have n2_ := asd ((by rw [hg]; exact (below_size (skB HB.out)) : w.heap.size ≤ gb142)); have n3_ := asd ((by rw [hg]; exact (below_size (skB HB.out)) : w.heap.size ≤ gb142)); clear HB; have HB := n0_; have BK142 := n1_; have GW142 := n2_; have GE142 := n3_; clear n0_ n1_ n2_ n3_; clear hb hbox hg) | ((with_reducible refine gate_dst (N := 3) rfl ?_); refine box_event ?hg (N := 3) ?hd (cs := #[.bool a1_0, .int .i64 a1_1, .int .i64 a1_2, .slice A1_3 l1_3.length c1_3]) (t := 36) ?hr ?_; (case hd => rfl); (case hg => rfl); (case hr => first | (go_simp; done) | (go_simp; rfl)); intro gb143 hg w13 hbox hb; have n0_ := asd (blk_below (g := gb142) (o := .cells #[.bool a0_0, .int .i64 a0_1, .int .i64 a0_2, .slice A0_3 l0_3.length c0_3] 36 (0, 0)) (skK BK142.out) hb); have n1_ := asd (below_step (skG HB.out GE142.out GE142.out) hb); have n2_ := asd (hbox); have n3_ := asd ((by rw [hg]; exact (below_size (skG HB.out GE142.out GE142.out)) : w.heap.size ≤ gb143)); have n4_ := asd ((by rw [hg]; exact (below_size (skG HB.out GE142.out GE142.out)) : w.heap.size ≤ gb143)); have n5_ := asd ((by rw [hg]; exact Nat.ne_of_lt (blk_lt (g := gb142) (o := .cells #[.bool a0_0, .int .i64 a0_1, .int .i64 a0_2, .slice A0_3 l0_3.length c0_3] 36 (0, 0)) (skK BK142.out)) : gb142 ≠ gb143)); have n6_ := asd ((by rw [hg]; exact Nat.ne_of_gt (blk_lt (g := gb142) (o := .cells #[.bool a0_0, .int .i64 a0_1, .int .i64 a0_2, .slice A0_3 l0_3.length c0_3] 36 (0, 0)) (skK BK142.out)) : gb143 ≠ gb142)); clear BK142; clear HB; have BK142 := n0_; have HB := n1_; have BK143 := n2_; have GW143 := n3_; have GE143 := n4_; have NB142_143 := n5_; have NB143_142 := n6_; clear n0_ n1_ n2_ n3_ n4_ n5_ n6_; clear hb hbox hg; have hnb14 := NB142_143.out; have hnc14 := NB143_142.out; obtain ⟨hcz15_0, hcz15_1, hcz15_2, hcz15_3, hfz15_0, hfz15_1, hfz15_2, hfz15_3⟩ := bk4 BK142.out; obtain ⟨hcz16_0, hcz16_1, hcz16_2, hcz16_3, hfz16_0, hfz16_1, hfz16_2, hfz16_3⟩ := bk4 BK143.out))
    go_ret
    exact ⟨re, skG HB.out GE142.out GE143.out⟩
  ·
   rw [if_neg c4] at H
   have c4b0 : (a0_1 == a1_1) = false := beq_eq_false_iff_ne.mpr c4
   have c4b1 : (a0_1 != a1_1) = true := bne_iff_ne.mpr c4
   obtain rfl := Option.some.inj H
   go_enter Try.func63, Try.ntmps63
   go_wp2_with (first | ((with_reducible refine gate_dst (N := 2) rfl ?_); refine box_event ?hg (N := 2) ?hd (cs := #[.bool a0_0, .int .i64 a0_1, .int .i64 a0_2, .slice A0_3 l0_3.length c0_3]) (t := 36) ?hr ?_; (case hd => rfl); (case hg => rfl); (case hr => first | (go_simp; done) | (go_simp; rfl)); intro gb142 hg w17 hbox hb; have n0_ := asd (below_step (skB HB.out) hb); have n1_ := asd (hbox); have n2_ := asd ((by rw [hg]; exact (below_size (skB HB.out)) : w.heap.size ≤ gb142)); have n3_ := asd ((by rw [hg]; exact (below_size (skB HB.out)) : w.heap.size ≤ gb142)); clear HB; have HB := n0_; have BK142 := n1_; have GW142 := n2_; have GE142 := n3_; clear n0_ n1_ n2_ n3_; clear hb hbox hg) | ((with_reducible refine gate_dst (N := 3) rfl ?_); refine box_event ?hg (N := 3) ?hd (cs := #[.bool a1_0, .int .i64 a1_1, .int .i64 a1_2, .slice A1_3 l1_3.length c1_3]) (t := 36) ?hr ?_; (case hd => rfl); (case hg => rfl); (case hr => first | (go_simp; done) | (go_simp; rfl)); intro gb143 hg w18 hbox hb; have n0_ := asd (blk_below (g := gb142) (o := .cells #[.bool a0_0, .int .i64 a0_1, .int .i64 a0_2, .slice A0_3 l0_3.length c0_3] 36 (0, 0)) (skK BK142.out) hb); have n1_ := asd (below_step (skG HB.out GE142.out GE142.out) hb); have n2_ := asd (hbox); have n3_ := asd ((by rw [hg]; exact (below_size (skG HB.out GE142.out GE142.out)) : w.heap.size ≤ gb143)); have n4_ := asd ((by rw [hg]; exact (below_size (skG HB.out GE142.out GE142.out)) : w.heap.size ≤ gb143)); have n5_ := asd ((by rw [hg]; exact Nat.ne_of_lt (blk_lt (g := gb142) (o := .cells #[.bool a0_0, .int .i64 a0_1, .int .i64 a0_2, .slice A0_3 l0_3.length c0_3] 36 (0, 0)) (skK BK142.out)) : gb142 ≠ gb143)); have n6_ := asd ((by rw [hg]; exact Nat.ne_of_gt (blk_lt (g := gb142) (o := .cells #[.bool a0_0, .int .i64 a0_1, .int .i64 a0_2, .slice A0_3 l0_3.length c0_3] 36 (0, 0)) (skK BK142.out)) : gb143 ≠ gb142)); clear BK142; clear HB; have BK142 := n0_; have HB := n1_; have BK143 := n2_; have GW143 := n3_; have GE143 := n4_; have NB142_143 := n5_; have NB143_142 := n6_; clear n0_ n1_ n2_ n3_ n4_ n5_ n6_; clear hb hbox hg; have hnb19 := NB142_143.out; have hnc19 := NB143_142.out; obtain ⟨hcz20_0, hcz20_1, hcz20_2, hcz20_3, hfz20_0, hfz20_1, hfz20_2, hfz20_3⟩ := bk4 BK142.out; obtain ⟨hcz21_0, hcz21_1, hcz21_2, hcz21_3, hfz21_0, hfz21_1, hfz21_2, hfz21_3⟩ := bk4 BK143.out))
   go_ret
   exact ⟨re, skG HB.out GE142.out GE143.out⟩
 ·
  rw [if_neg c3] at H
  have c3b0 : (a0_0 == a1_0) = false := by simpa using c3
  (try (have c3b1 : decide (a0_0 = a1_0) = false := by simpa using c3))
  (try (have c3b2 : (a0_0 == a1_0) = false := by simpa using c3))
  (try (have c3b3 : ¬ (a0_0 = a1_0) := by simpa using c3))
  clear c3
  obtain rfl := Option.some.inj H
  go_enter Try.func63, Try.ntmps63
  go_wp2_with (first | ((with_reducible refine gate_dst (N := 2) rfl ?_); refine box_event ?hg (N := 2) ?hd (cs := #[.bool a0_0, .int .i64 a0_1, .int .i64 a0_2, .slice A0_3 l0_3.length c0_3]) (t := 36) ?hr ?_; (case hd => rfl); (case hg => rfl); (case hr => first | (go_simp; done) | (go_simp; rfl)); intro gb142 hg w22 hbox hb; have n0_ := asd (below_step (skB HB.out) hb); have n1_ := asd (hbox); have n2_ := asd ((by rw [hg]; exact (below_size (skB HB.out)) : w.heap.size ≤ gb142)); have n3_ := asd ((by rw [hg]; exact (below_size (skB HB.out)) : w.heap.size ≤ gb142)); clear HB; have HB := n0_; have BK142 := n1_; have GW142 := n2_; have GE142 := n3_; clear n0_ n1_ n2_ n3_; clear hb hbox hg) | ((with_reducible refine gate_dst (N := 3) rfl ?_); refine box_event ?hg (N := 3) ?hd (cs := #[.bool a1_0, .int .i64 a1_1, .int .i64 a1_2, .slice A1_3 l1_3.length c1_3]) (t := 36) ?hr ?_; (case hd => rfl); (case hg => rfl); (case hr => first | (go_simp; done) | (go_simp; rfl)); intro gb143 hg w23 hbox hb; have n0_ := asd (blk_below (g := gb142) (o := .cells #[.bool a0_0, .int .i64 a0_1, .int .i64 a0_2, .slice A0_3 l0_3.length c0_3] 36 (0, 0)) (skK BK142.out) hb); have n1_ := asd (below_step (skG HB.out GE142.out GE142.out) hb); have n2_ := asd (hbox); have n3_ := asd ((by rw [hg]; exact (below_size (skG HB.out GE142.out GE142.out)) : w.heap.size ≤ gb143)); have n4_ := asd ((by rw [hg]; exact (below_size (skG HB.out GE142.out GE142.out)) : w.heap.size ≤ gb143)); have n5_ := asd ((by rw [hg]; exact Nat.ne_of_lt (blk_lt (g := gb142) (o := .cells #[.bool a0_0, .int .i64 a0_1, .int .i64 a0_2, .slice A0_3 l0_3.length c0_3] 36 (0, 0)) (skK BK142.out)) : gb142 ≠ gb143)); have n6_ := asd ((by rw [hg]; exact Nat.ne_of_gt (blk_lt (g := gb142) (o := .cells #[.bool a0_0, .int .i64 a0_1, .int .i64 a0_2, .slice A0_3 l0_3.length c0_3] 36 (0, 0)) (skK BK142.out)) : gb143 ≠ gb142)); clear BK142; clear HB; have BK142 := n0_; have HB := n1_; have BK143 := n2_; have GW143 := n3_; have GE143 := n4_; have NB142_143 := n5_; have NB143_142 := n6_; clear n0_ n1_ n2_ n3_ n4_ n5_ n6_; clear hb hbox hg; have hnb24 := NB142_143.out; have hnc24 := NB143_142.out; obtain ⟨hcz25_0, hcz25_1, hcz25_2, hcz25_3, hfz25_0, hfz25_1, hfz25_2, hfz25_3⟩ := bk4 BK142.out; obtain ⟨hcz26_0, hcz26_1, hcz26_2, hcz26_3, hfz26_0, hfz26_1, hfz26_2, hfz26_3⟩ := bk4 BK143.out))
  go_ret
  exact ⟨re, skG HB.out GE142.out GE143.out⟩
end Go.Proofs.Ytagdkmcgepidoaa.P
