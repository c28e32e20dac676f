/- P.eventTurns_holds, part 3 of 26: the contracts of the Go functions that the law calls, its own walk, and its plain law, for every input that the statement speaks of. -/
import Derived.Test.YtagdkmcgepidoaaProg
import Derived.Below
import Derived.Deep.Draws
import Derived.Deep.AppendLies
import Derived.Maps.AppendAt
import Derived.OwnWalk
import Derived.Laws.BytesArg
import Derived.Laws.MakeOwn
import Derived.Laws.OwnMore
import Derived.Deep.OwnRows
import Derived.Tactics
import Derived.Lib.ConvBytes
import Derived.Laws.Slices
import Derived.WalkKit
import Derived.KernelRfl
import Derived.RowKit3
import Derived.Deep.LoopGhost
import Derived.Deep.QuietTactic
import Derived.BigQuiet
import Derived.WideLaws
import Derived.Deep.DeepCutAuto
import Derived.Deep.CutBlock
import Derived.Deep.RegionHeld3
import Derived.Laws.Rows
import Derived.Lib.AppendStr
import Derived.ArgAppend
import Derived.Laws.IdiomCopy
import Derived.OrdersHeld
import Derived.Laws.BitsLemmas
import Derived.RowKit
import Derived.Test.YtagdkmcgepidoaaMTu0
import Derived.Test.YtagdkmcgepidoaaMTu1
set_option linter.unusedVariables false
set_option linter.unusedSimpArgs false
/- F0 -/
namespace Go.Proofs.Ytagdkmcgepidoaa.P
open Go.RowKit Go.Proofs.YtagdkmcgepidoaaW.PrintWords Go.Proofs.YtagdkmcgepidoaaW.PrintLast Go.Proofs.YtagdkmcgepidoaaW.PrintMore
attribute [local go_sem] max2_int min2_int max_two min_two max_three min_three max_four min_four   -- for this text's walks alone
set_option linter.unusedVariables false
set_option linter.unusedSimpArgs false
def errW : Option Int → Value
 | none => .nilIface
 | some c => .iface 0 (.int .i64 c)
theorem errW_none : errW none = .nilIface := rfl
theorem errW_some (c : Int) : errW (some c) = .iface 0 (.int .i64 c) := rfl
theorem info3 : (Try.prog.info? 3).map (fun i => (i.zero, i.size, i.bytes)) = some (some (.int .i64 0), 1, 8) := by kernel_rfl
theorem info38 : (Try.prog.info? 38).map (fun i => (i.zero, i.size, i.bytes)) = some (some (.agg #[(.int .i64 0), (.int .i64 0), (.int .i64 0), (.int .i64 0), (.int .i64 0), (.bool false), (.int .i64 0), (.int .i64 0), (.slice none 0 0), (.int .i64 0), (.int .i64 0)]), 11, 104) := by kernel_rfl
theorem info67 : (Try.prog.info? 67).map (fun i => (i.zero, i.size, i.bytes)) = some (some (.agg #[(.int .i64 0), (.bool false), (.int .i64 0), (.int .i64 0), (.int .i64 0), (.int .i64 0), (.bool false), (.int .i64 0), (.int .i64 0), (.slice none 0 0)]), 10, 96) := by kernel_rfl
theorem info70 : (Try.prog.info? 70).map (fun i => (i.zero, i.size, i.bytes)) = some (some (.agg #[(.int .i64 0), (.int .i64 0)]), 2, 16) := by kernel_rfl
structure S70 where
 f0 : Int
 f1 : Int
def z70 : S70 := ⟨(0 : Int), (0 : Int)⟩
def k70 : Kd S70 := Kd.iso (Kd.pair (Kd.int .i64) (Kd.int .i64)) (fun x : S70 => (x.f0, x.f1))
theorem k70_open {w : World} {x : S70} {cs : List Value} (h : k70.K w x cs) : cs = [.int .i64 x.f0, .int .i64 x.f1] := by
 obtain ⟨_, _, rfl, rfl, rfl⟩ := h
 exact rfl
theorem k70_mk (w : World) (x : S70)  : k70.K w x [.int .i64 x.f0, .int .i64 x.f1] := ⟨[.int .i64 x.f0], [.int .i64 x.f1], rfl, rfl, rfl⟩
def J70 (xs : List S70) (i : Int) : S70 := xs.getD i.toNat z70
theorem at_T70 {w : World} {A : Option Addr} {n : Nat} {xs : List S70} (h : Kd.C k70 w A n xs) (i : Int) (h0 : 0 ≤ i) (h1 : i < n) : ∃ ad , A = some ad ∧ w.cell? (ad.add (i.toNat * 2)) = some (.int .i64 (J70 xs i).f0) ∧ w.cell? ⟨(ad.add (i.toNat * 2)).block, (ad.add (i.toNat * 2)).off + 1, none⟩ = some (.int .i64 (J70 xs i).f1) := by
 obtain ⟨ad, c, e, _, hK, hc0⟩ := Kd.C_get h z70 i h0 h1
 have hc : ∀ j u, c[j]? = some u → w.cell? (ad.add (i.toNat * 2 + j)) = some u := hc0
 obtain rfl := k70_open hK
 exact ⟨ad, e, hc 0 _ rfl, by rw [← add_field _ _ 1 (by omega)]; exact hc 1 _ rfl⟩
structure S33 where
 f0 : Int
 f1 : Int
 f2 : Int
 f3 : Int
def z33 : S33 := ⟨(0 : Int), (0 : Int), (0 : Int), (0 : Int)⟩
def k33 : Kd S33 := Kd.iso (Kd.pair (Kd.int .i64) (Kd.pair (Kd.int .i64) (Kd.pair (Kd.int .i64) (Kd.int .i64)))) (fun x : S33 => (x.f0, x.f1, x.f2, x.f3))
theorem k33_open {w : World} {x : S33} {cs : List Value} (h : k33.K w x cs) : cs = [.int .i64 x.f0, .int .i64 x.f1, .int .i64 x.f2, .int .i64 x.f3] := by
 obtain ⟨_, _, rfl, rfl, ⟨_, _, rfl, rfl, ⟨_, _, rfl, rfl, rfl⟩⟩⟩ := h
 exact rfl
theorem k33_openM {w : World} {base : Nat} {ok : Nat → Prop} {x : S33} {cs : List Value} (h : k33.M w base ok x cs) : cs = [.int .i64 x.f0, .int .i64 x.f1, .int .i64 x.f2, .int .i64 x.f3] := by
 obtain ⟨_, _, rfl, rfl, ⟨_, _, rfl, rfl, ⟨_, _, rfl, rfl, rfl⟩⟩⟩ := h
 exact rfl
theorem k33_mk (w : World) (x : S33)  : k33.K w x [.int .i64 x.f0, .int .i64 x.f1, .int .i64 x.f2, .int .i64 x.f3] := ⟨[.int .i64 x.f0], [.int .i64 x.f1, .int .i64 x.f2, .int .i64 x.f3], rfl, rfl, ⟨[.int .i64 x.f1], [.int .i64 x.f2, .int .i64 x.f3], rfl, rfl, ⟨[.int .i64 x.f2], [.int .i64 x.f3], rfl, rfl, rfl⟩⟩⟩
theorem k33_mkM (w : World) (base : Nat) (ok : Nat → Prop) (x : S33)  : k33.M w base ok x [.int .i64 x.f0, .int .i64 x.f1, .int .i64 x.f2, .int .i64 x.f3] := ⟨[.int .i64 x.f0], [.int .i64 x.f1, .int .i64 x.f2, .int .i64 x.f3], rfl, rfl, ⟨[.int .i64 x.f1], [.int .i64 x.f2, .int .i64 x.f3], rfl, rfl, ⟨[.int .i64 x.f2], [.int .i64 x.f3], rfl, rfl, rfl⟩⟩⟩
def J33 (xs : List S33) (i : Int) : S33 := xs.getD i.toNat z33
theorem at_T33 {w : World} {A : Option Addr} {n : Nat} {xs : List S33} (h : Kd.C k33 w A n xs) (i : Int) (h0 : 0 ≤ i) (h1 : i < n) : ∃ ad , A = some ad ∧ w.cell? (ad.add (i.toNat * 4)) = some (.int .i64 (J33 xs i).f0) ∧ w.cell? ⟨(ad.add (i.toNat * 4)).block, (ad.add (i.toNat * 4)).off + 1, none⟩ = some (.int .i64 (J33 xs i).f1) ∧ w.cell? ⟨(ad.add (i.toNat * 4)).block, (ad.add (i.toNat * 4)).off + 2, none⟩ = some (.int .i64 (J33 xs i).f2) ∧ w.cell? ⟨(ad.add (i.toNat * 4)).block, (ad.add (i.toNat * 4)).off + 3, none⟩ = some (.int .i64 (J33 xs i).f3) := by
 obtain ⟨ad, c, e, _, hK, hc0⟩ := Kd.C_get h z33 i h0 h1
 have hc : ∀ j u, c[j]? = some u → w.cell? (ad.add (i.toNat * 4 + j)) = some u := hc0
 obtain rfl := k33_open hK
 exact ⟨ad, e, hc 0 _ rfl, by rw [← add_field _ _ 1 (by omega)]; exact hc 1 _ rfl, by rw [← add_field _ _ 2 (by omega)]; exact hc 2 _ rfl, by rw [← add_field _ _ 3 (by omega)]; exact hc 3 _ rfl⟩
structure S36 where
 f0 : Bool
 f1 : Int
 f2 : Int
 f3 : (List S70)
def z36 : S36 := ⟨false, (0 : Int), (0 : Int), ([] : List S70)⟩
def k36 : Kd S36 := Kd.iso (Kd.pair Kd.bool (Kd.pair (Kd.int .i64) (Kd.pair (Kd.int .i64) (Kd.slice 70 k70)))) (fun x : S36 => (x.f0, x.f1, x.f2, x.f3))
theorem k36_open {w : World} {x : S36} {cs : List Value} (h : k36.K w x cs) : ∃ A3 c3, cs = [.bool x.f0, .int .i64 x.f1, .int .i64 x.f2, .slice A3 x.f3.length c3] ∧ x.f3.length ≤ c3 ∧ k70.C w A3 x.f3.length x.f3 := by
 obtain ⟨_, _, rfl, rfl, ⟨_, _, rfl, rfl, ⟨_, _, rfl, rfl, ⟨A3, c3, rfl, l3, g3⟩⟩⟩⟩ := h
 exact ⟨A3, c3, rfl, l3, g3⟩
theorem k36_openM {w : World} {base : Nat} {ok : Nat → Prop} {x : S36} {cs : List Value} (h : k36.M w base ok x cs) : ∃ v3, cs = [.bool x.f0, .int .i64 x.f1, .int .i64 x.f2, v3] ∧ k70.R 70 w base ok v3 x.f3 := by
 obtain ⟨_, _, rfl, rfl, ⟨_, _, rfl, rfl, ⟨_, _, rfl, rfl, ⟨v3, rfl, g3⟩⟩⟩⟩ := h
 exact ⟨v3, rfl, g3⟩
theorem k36_mk (w : World) (x : S36) {A3 : Option Addr} {c3 : Nat} (l3 : x.f3.length ≤ c3) (g3 : k70.C w A3 x.f3.length x.f3) : k36.K w x [.bool x.f0, .int .i64 x.f1, .int .i64 x.f2, .slice A3 x.f3.length c3] := ⟨[.bool x.f0], [.int .i64 x.f1, .int .i64 x.f2, .slice A3 x.f3.length c3], rfl, rfl, ⟨[.int .i64 x.f1], [.int .i64 x.f2, .slice A3 x.f3.length c3], rfl, rfl, ⟨[.int .i64 x.f2], [.slice A3 x.f3.length c3], rfl, rfl, ⟨A3, c3, rfl, l3, g3⟩⟩⟩⟩
theorem k36_mkM (w : World) (base : Nat) (ok : Nat → Prop) (x : S36) {v3 : Value} (g3 : k70.R 70 w base ok v3 x.f3) : k36.M w base ok x [.bool x.f0, .int .i64 x.f1, .int .i64 x.f2, v3] := ⟨[.bool x.f0], [.int .i64 x.f1, .int .i64 x.f2, v3], rfl, rfl, ⟨[.int .i64 x.f1], [.int .i64 x.f2, v3], rfl, rfl, ⟨[.int .i64 x.f2], [v3], rfl, rfl, ⟨v3, rfl, g3⟩⟩⟩⟩
structure S67 where
 f0 : Int
 f1 : Bool
 f2 : S33
 f3 : S36
def z67 : S67 := ⟨(0 : Int), false, z33, z36⟩
def k67 : Kd S67 := Kd.iso (Kd.pair (Kd.int .i64) (Kd.pair Kd.bool (Kd.pair k33 k36))) (fun x : S67 => (x.f0, x.f1, x.f2, x.f3))
theorem k67_open {w : World} {x : S67} {cs : List Value} (h : k67.K w x cs) : ∃ A9 c9, cs = [.int .i64 x.f0, .bool x.f1, .int .i64 x.f2.f0, .int .i64 x.f2.f1, .int .i64 x.f2.f2, .int .i64 x.f2.f3, .bool x.f3.f0, .int .i64 x.f3.f1, .int .i64 x.f3.f2, .slice A9 x.f3.f3.length c9] ∧ x.f3.f3.length ≤ c9 ∧ k70.C w A9 x.f3.f3.length x.f3.f3 := by
 obtain ⟨_, _, rfl, rfl, ⟨_, _, rfl, rfl, ⟨_, _, rfl, s2, s6⟩⟩⟩ := h
 obtain rfl := k33_open s2
 obtain ⟨A9, c9, rfl, l9, g9⟩ := k36_open s6
 exact ⟨A9, c9, rfl, l9, g9⟩
theorem k67_openM {w : World} {base : Nat} {ok : Nat → Prop} {x : S67} {cs : List Value} (h : k67.M w base ok x cs) : ∃ v9, cs = [.int .i64 x.f0, .bool x.f1, .int .i64 x.f2.f0, .int .i64 x.f2.f1, .int .i64 x.f2.f2, .int .i64 x.f2.f3, .bool x.f3.f0, .int .i64 x.f3.f1, .int .i64 x.f3.f2, v9] ∧ k70.R 70 w base ok v9 x.f3.f3 := by
 obtain ⟨_, _, rfl, rfl, ⟨_, _, rfl, rfl, ⟨_, _, rfl, s2, s6⟩⟩⟩ := h
 obtain rfl := k33_openM s2
 obtain ⟨v9, rfl, g9⟩ := k36_openM s6
 exact ⟨v9, rfl, g9⟩
theorem k67_mk (w : World) (x : S67) {A9 : Option Addr} {c9 : Nat} (l9 : x.f3.f3.length ≤ c9) (g9 : k70.C w A9 x.f3.f3.length x.f3.f3) : k67.K w x [.int .i64 x.f0, .bool x.f1, .int .i64 x.f2.f0, .int .i64 x.f2.f1, .int .i64 x.f2.f2, .int .i64 x.f2.f3, .bool x.f3.f0, .int .i64 x.f3.f1, .int .i64 x.f3.f2, .slice A9 x.f3.f3.length c9] := ⟨[.int .i64 x.f0], [.bool x.f1, .int .i64 x.f2.f0, .int .i64 x.f2.f1, .int .i64 x.f2.f2, .int .i64 x.f2.f3, .bool x.f3.f0, .int .i64 x.f3.f1, .int .i64 x.f3.f2, .slice A9 x.f3.f3.length c9], rfl, rfl, ⟨[.bool x.f1], [.int .i64 x.f2.f0, .int .i64 x.f2.f1, .int .i64 x.f2.f2, .int .i64 x.f2.f3, .bool x.f3.f0, .int .i64 x.f3.f1, .int .i64 x.f3.f2, .slice A9 x.f3.f3.length c9], rfl, rfl, ⟨[.int .i64 x.f2.f0, .int .i64 x.f2.f1, .int .i64 x.f2.f2, .int .i64 x.f2.f3], [.bool x.f3.f0, .int .i64 x.f3.f1, .int .i64 x.f3.f2, .slice A9 x.f3.f3.length c9], rfl, (k33_mk w x.f2 ), (k36_mk w x.f3 l9 g9)⟩⟩⟩
theorem k67_mkM (w : World) (base : Nat) (ok : Nat → Prop) (x : S67) {v9 : Value} (g9 : k70.R 70 w base ok v9 x.f3.f3) : k67.M w base ok x [.int .i64 x.f0, .bool x.f1, .int .i64 x.f2.f0, .int .i64 x.f2.f1, .int .i64 x.f2.f2, .int .i64 x.f2.f3, .bool x.f3.f0, .int .i64 x.f3.f1, .int .i64 x.f3.f2, v9] := ⟨[.int .i64 x.f0], [.bool x.f1, .int .i64 x.f2.f0, .int .i64 x.f2.f1, .int .i64 x.f2.f2, .int .i64 x.f2.f3, .bool x.f3.f0, .int .i64 x.f3.f1, .int .i64 x.f3.f2, v9], rfl, rfl, ⟨[.bool x.f1], [.int .i64 x.f2.f0, .int .i64 x.f2.f1, .int .i64 x.f2.f2, .int .i64 x.f2.f3, .bool x.f3.f0, .int .i64 x.f3.f1, .int .i64 x.f3.f2, v9], rfl, rfl, ⟨[.int .i64 x.f2.f0, .int .i64 x.f2.f1, .int .i64 x.f2.f2, .int .i64 x.f2.f3], [.bool x.f3.f0, .int .i64 x.f3.f1, .int .i64 x.f3.f2, v9], rfl, (k33_mkM w base ok x.f2 ), (k36_mkM w base ok x.f3 g9)⟩⟩⟩
def J67 (xs : List S67) (i : Int) : S67 := xs.getD i.toNat z67
theorem at_T67 {w : World} {A : Option Addr} {n : Nat} {xs : List S67} (h : Kd.C k67 w A n xs) (i : Int) (h0 : 0 ≤ i) (h1 : i < n) : ∃ ad A9 c9, A = some ad ∧ w.cell? (ad.add (i.toNat * 10)) = some (.int .i64 (J67 xs i).f0) ∧ w.cell? ⟨(ad.add (i.toNat * 10)).block, (ad.add (i.toNat * 10)).off + 1, none⟩ = some (.bool (J67 xs i).f1) ∧ w.cell? ⟨(ad.add (i.toNat * 10)).block, (ad.add (i.toNat * 10)).off + 2, none⟩ = some (.int .i64 (J67 xs i).f2.f0) ∧ w.cell? ⟨(ad.add (i.toNat * 10)).block, (ad.add (i.toNat * 10)).off + 3, none⟩ = some (.int .i64 (J67 xs i).f2.f1) ∧ w.cell? ⟨(ad.add (i.toNat * 10)).block, (ad.add (i.toNat * 10)).off + 4, none⟩ = some (.int .i64 (J67 xs i).f2.f2) ∧ w.cell? ⟨(ad.add (i.toNat * 10)).block, (ad.add (i.toNat * 10)).off + 5, none⟩ = some (.int .i64 (J67 xs i).f2.f3) ∧ w.cell? ⟨(ad.add (i.toNat * 10)).block, (ad.add (i.toNat * 10)).off + 6, none⟩ = some (.bool (J67 xs i).f3.f0) ∧ w.cell? ⟨(ad.add (i.toNat * 10)).block, (ad.add (i.toNat * 10)).off + 7, none⟩ = some (.int .i64 (J67 xs i).f3.f1) ∧ w.cell? ⟨(ad.add (i.toNat * 10)).block, (ad.add (i.toNat * 10)).off + 8, none⟩ = some (.int .i64 (J67 xs i).f3.f2) ∧ w.cell? ⟨(ad.add (i.toNat * 10)).block, (ad.add (i.toNat * 10)).off + 9, none⟩ = some (.slice A9 (J67 xs i).f3.f3.length c9) ∧ (J67 xs i).f3.f3.length ≤ c9 ∧ k70.C w A9 (J67 xs i).f3.f3.length (J67 xs i).f3.f3 := by
 obtain ⟨ad, c, e, _, hK, hc0⟩ := Kd.C_get h z67 i h0 h1
 have hc : ∀ j u, c[j]? = some u → w.cell? (ad.add (i.toNat * 10 + j)) = some u := hc0
 obtain ⟨A9, c9, rfl, l9, g9⟩ := k67_open hK
 exact ⟨ad, A9, c9, e, hc 0 _ rfl, by rw [← add_field _ _ 1 (by omega)]; exact hc 1 _ rfl, by rw [← add_field _ _ 2 (by omega)]; exact hc 2 _ rfl, by rw [← add_field _ _ 3 (by omega)]; exact hc 3 _ rfl, by rw [← add_field _ _ 4 (by omega)]; exact hc 4 _ rfl, by rw [← add_field _ _ 5 (by omega)]; exact hc 5 _ rfl, by rw [← add_field _ _ 6 (by omega)]; exact hc 6 _ rfl, by rw [← add_field _ _ 7 (by omega)]; exact hc 7 _ rfl, by rw [← add_field _ _ 8 (by omega)]; exact hc 8 _ rfl, by rw [← add_field _ _ 9 (by omega)]; exact hc 9 _ rfl, l9, g9⟩
structure S38 where
 f0 : Int
 f1 : S33
 f2 : S36
 f3 : Int
 f4 : Int
def z38 : S38 := ⟨(0 : Int), z33, z36, (0 : Int), (0 : Int)⟩
def k38 : Kd S38 := Kd.iso (Kd.pair (Kd.int .i64) (Kd.pair k33 (Kd.pair k36 (Kd.pair (Kd.int .i64) (Kd.int .i64))))) (fun x : S38 => (x.f0, x.f1, x.f2, x.f3, x.f4))
theorem k38_open {w : World} {x : S38} {cs : List Value} (h : k38.K w x cs) : ∃ A8 c8, cs = [.int .i64 x.f0, .int .i64 x.f1.f0, .int .i64 x.f1.f1, .int .i64 x.f1.f2, .int .i64 x.f1.f3, .bool x.f2.f0, .int .i64 x.f2.f1, .int .i64 x.f2.f2, .slice A8 x.f2.f3.length c8, .int .i64 x.f3, .int .i64 x.f4] ∧ x.f2.f3.length ≤ c8 ∧ k70.C w A8 x.f2.f3.length x.f2.f3 := by
 obtain ⟨_, _, rfl, rfl, ⟨_, _, rfl, s1, ⟨_, _, rfl, s5, ⟨_, _, rfl, rfl, rfl⟩⟩⟩⟩ := h
 obtain rfl := k33_open s1
 obtain ⟨A8, c8, rfl, l8, g8⟩ := k36_open s5
 exact ⟨A8, c8, rfl, l8, g8⟩
theorem k38_openM {w : World} {base : Nat} {ok : Nat → Prop} {x : S38} {cs : List Value} (h : k38.M w base ok x cs) : ∃ v8, cs = [.int .i64 x.f0, .int .i64 x.f1.f0, .int .i64 x.f1.f1, .int .i64 x.f1.f2, .int .i64 x.f1.f3, .bool x.f2.f0, .int .i64 x.f2.f1, .int .i64 x.f2.f2, v8, .int .i64 x.f3, .int .i64 x.f4] ∧ k70.R 70 w base ok v8 x.f2.f3 := by
 obtain ⟨_, _, rfl, rfl, ⟨_, _, rfl, s1, ⟨_, _, rfl, s5, ⟨_, _, rfl, rfl, rfl⟩⟩⟩⟩ := h
 obtain rfl := k33_openM s1
 obtain ⟨v8, rfl, g8⟩ := k36_openM s5
 exact ⟨v8, rfl, g8⟩
theorem k38_mkM (w : World) (base : Nat) (ok : Nat → Prop) (x : S38) {v8 : Value} (g8 : k70.R 70 w base ok v8 x.f2.f3) : k38.M w base ok x [.int .i64 x.f0, .int .i64 x.f1.f0, .int .i64 x.f1.f1, .int .i64 x.f1.f2, .int .i64 x.f1.f3, .bool x.f2.f0, .int .i64 x.f2.f1, .int .i64 x.f2.f2, v8, .int .i64 x.f3, .int .i64 x.f4] := ⟨[.int .i64 x.f0], [.int .i64 x.f1.f0, .int .i64 x.f1.f1, .int .i64 x.f1.f2, .int .i64 x.f1.f3, .bool x.f2.f0, .int .i64 x.f2.f1, .int .i64 x.f2.f2, v8, .int .i64 x.f3, .int .i64 x.f4], rfl, rfl, ⟨[.int .i64 x.f1.f0, .int .i64 x.f1.f1, .int .i64 x.f1.f2, .int .i64 x.f1.f3], [.bool x.f2.f0, .int .i64 x.f2.f1, .int .i64 x.f2.f2, v8, .int .i64 x.f3, .int .i64 x.f4], rfl, (k33_mkM w base ok x.f1 ), ⟨[.bool x.f2.f0, .int .i64 x.f2.f1, .int .i64 x.f2.f2, v8], [.int .i64 x.f3, .int .i64 x.f4], rfl, (k36_mkM w base ok x.f2 g8), ⟨[.int .i64 x.f3], [.int .i64 x.f4], rfl, rfl, rfl⟩⟩⟩⟩
def J38 (xs : List S38) (i : Int) : S38 := xs.getD i.toNat z38
theorem at_T38 {w : World} {A : Option Addr} {n : Nat} {xs : List S38} (h : Kd.C k38 w A n xs) (i : Int) (h0 : 0 ≤ i) (h1 : i < n) : ∃ ad A8 c8, A = some ad ∧ w.cell? (ad.add (i.toNat * 11)) = some (.int .i64 (J38 xs i).f0) ∧ w.cell? ⟨(ad.add (i.toNat * 11)).block, (ad.add (i.toNat * 11)).off + 1, none⟩ = some (.int .i64 (J38 xs i).f1.f0) ∧ w.cell? ⟨(ad.add (i.toNat * 11)).block, (ad.add (i.toNat * 11)).off + 2, none⟩ = some (.int .i64 (J38 xs i).f1.f1) ∧ w.cell? ⟨(ad.add (i.toNat * 11)).block, (ad.add (i.toNat * 11)).off + 3, none⟩ = some (.int .i64 (J38 xs i).f1.f2) ∧ w.cell? ⟨(ad.add (i.toNat * 11)).block, (ad.add (i.toNat * 11)).off + 4, none⟩ = some (.int .i64 (J38 xs i).f1.f3) ∧ w.cell? ⟨(ad.add (i.toNat * 11)).block, (ad.add (i.toNat * 11)).off + 5, none⟩ = some (.bool (J38 xs i).f2.f0) ∧ w.cell? ⟨(ad.add (i.toNat * 11)).block, (ad.add (i.toNat * 11)).off + 6, none⟩ = some (.int .i64 (J38 xs i).f2.f1) ∧ w.cell? ⟨(ad.add (i.toNat * 11)).block, (ad.add (i.toNat * 11)).off + 7, none⟩ = some (.int .i64 (J38 xs i).f2.f2) ∧ w.cell? ⟨(ad.add (i.toNat * 11)).block, (ad.add (i.toNat * 11)).off + 8, none⟩ = some (.slice A8 (J38 xs i).f2.f3.length c8) ∧ w.cell? ⟨(ad.add (i.toNat * 11)).block, (ad.add (i.toNat * 11)).off + 9, none⟩ = some (.int .i64 (J38 xs i).f3) ∧ w.cell? ⟨(ad.add (i.toNat * 11)).block, (ad.add (i.toNat * 11)).off + 10, none⟩ = some (.int .i64 (J38 xs i).f4) ∧ (J38 xs i).f2.f3.length ≤ c8 ∧ k70.C w A8 (J38 xs i).f2.f3.length (J38 xs i).f2.f3 := by
 obtain ⟨ad, c, e, _, hK, hc0⟩ := Kd.C_get h z38 i h0 h1
 have hc : ∀ j u, c[j]? = some u → w.cell? (ad.add (i.toNat * 11 + j)) = some u := hc0
 obtain ⟨A8, c8, rfl, l8, g8⟩ := k38_open hK
 exact ⟨ad, A8, c8, e, hc 0 _ rfl, by rw [← add_field _ _ 1 (by omega)]; exact hc 1 _ rfl, by rw [← add_field _ _ 2 (by omega)]; exact hc 2 _ rfl, by rw [← add_field _ _ 3 (by omega)]; exact hc 3 _ rfl, by rw [← add_field _ _ 4 (by omega)]; exact hc 4 _ rfl, by rw [← add_field _ _ 5 (by omega)]; exact hc 5 _ rfl, by rw [← add_field _ _ 6 (by omega)]; exact hc 6 _ rfl, by rw [← add_field _ _ 7 (by omega)]; exact hc 7 _ rfl, by rw [← add_field _ _ 8 (by omega)]; exact hc 8 _ rfl, by rw [← add_field _ _ 9 (by omega)]; exact hc 9 _ rfl, by rw [← add_field _ _ 10 (by omega)]; exact hc 10 _ rfl, l8, g8⟩
structure S76 where
 f0 : Int
 f1 : S33
 f2 : S36
 f3 : Int
 f4 : Int
def z76 : S76 := ⟨(0 : Int), z33, z36, (0 : Int), (0 : Int)⟩
def J76 (xs : List S76) (i : Int) : S76 := xs.getD i.toNat z76
end Go.Proofs.Ytagdkmcgepidoaa.P
/- F1 -/
namespace Go.Proofs.Ytagdkmcgepidoaa.P
open Go.RowKit Go.Proofs.YtagdkmcgepidoaaW.PrintWords Go.Proofs.YtagdkmcgepidoaaW.PrintLast Go.Proofs.YtagdkmcgepidoaaW.PrintMore
attribute [local go_sem] max2_int min2_int max_two min_two max_three min_three max_four min_four   -- for this text's walks alone
set_option linter.unusedVariables false
set_option linter.unusedSimpArgs false
theorem eqA33 (d : Nat) (w : World) (x0 y0 : Int) (x1 y1 : Int) (x2 y2 : Int) (x3 y3 : Int) :
  (Op.equalIn (d + 2) 33 (.agg #[.int .i64 x0, .int .i64 x1, .int .i64 x2, .int .i64 x3]) (.agg #[.int .i64 y0, .int .i64 y1, .int .i64 y2, .int .i64 y3])).run Try.prog w = .ok (x0 == y0 && (x1 == y1 && (x2 == y2 && (x3 == y3)))) w := by
 refine eqA_of Try.underlying33 (by kernel_rfl) ?_
 refine eqf_cons (by rfl) (by go_simp; rfl) (by go_simp; rfl) (by go_simp) ?_
 refine eqf_cons (by rfl) (by go_simp; rfl) (by go_simp; rfl) (by go_simp) ?_
 refine eqf_cons (by rfl) (by go_simp; rfl) (by go_simp; rfl) (by go_simp) ?_
 exact eqf_last (by rfl) (by go_simp; rfl) (by go_simp; rfl) (by go_simp)
end Go.Proofs.Ytagdkmcgepidoaa.P
/- F2 -/
namespace Go.Proofs.Ytagdkmcgepidoaa.P
open Go.RowKit Go.Proofs.YtagdkmcgepidoaaW.PrintWords Go.Proofs.YtagdkmcgepidoaaW.PrintLast Go.Proofs.YtagdkmcgepidoaaW.PrintMore
attribute [local go_sem] max2_int min2_int max_two min_two max_three min_three max_four min_four   -- for this text's walks alone
set_option linter.unusedVariables false
set_option linter.unusedSimpArgs false
theorem eqA70 (d : Nat) (w : World) (x0 y0 : Int) (x1 y1 : Int) :
  (Op.equalIn (d + 2) 70 (.agg #[.int .i64 x0, .int .i64 x1]) (.agg #[.int .i64 y0, .int .i64 y1])).run Try.prog w = .ok (x0 == y0 && (x1 == y1)) w := by
 refine eqA_of Try.underlying70 (by kernel_rfl) ?_
 refine eqf_cons (by rfl) (by go_simp; rfl) (by go_simp; rfl) (by go_simp) ?_
 exact eqf_last (by rfl) (by go_simp; rfl) (by go_simp; rfl) (by go_simp)
end Go.Proofs.Ytagdkmcgepidoaa.P
/- F18 -/
namespace Go.Proofs.Ytagdkmcgepidoaa.P
open Go.RowKit Go.Proofs.YtagdkmcgepidoaaW.PrintWords Go.Proofs.YtagdkmcgepidoaaW.PrintLast Go.Proofs.YtagdkmcgepidoaaW.PrintMore
attribute [local go_sem] max2_int min2_int max_two min_two max_three min_three max_four min_four   -- for this text's walks alone
set_option linter.unusedVariables false
set_option linter.unusedSimpArgs false
attribute [local go_sem high] eqA70
def larchref05_SamePairs.l0 : Nat → List (S70) → List (S70) → Int → Option (Bool)
 | 0, _, _, _ => none
 | k + 1, x0, x1, x5 => if x5 < (x0.length : Int) then (if 0 ≤ x5 then (if x5 < (x1.length : Int) then (if (!(((J70 x0 x5).f0) == ((J70 x1 x5).f0)) || (!(((J70 x0 x5).f1) == ((J70 x1 x5).f1)))) = true then (some false) else (larchref05_SamePairs.l0 k x0 x1 (wrap64 (x5 + 1)))) else (none)) else (none)) else (some true)
def larchref05_SamePairs.f (k : Nat) (l0 : List (S70)) (l1 : List (S70)) : Option (Bool) := if (l0.length : Int) = (l1.length : Int) then (larchref05_SamePairs.l0 k l0 l1 0) else (some false)
set_option maxHeartbeats 8000000 in
set_option maxRecDepth 100000 in
theorem larchref05_SamePairs.calls (k : Nat) (A0 : Option Addr) (c0 : Nat) (l0 : List (S70)) (A1 : Option Addr) (c1 : Nat) (l1 : List (S70)) (r : Bool) (w : World) (hr0 : Kd.C k70 w A0 l0.length l0) (hc0 : l0.length ≤ c0) (hr1 : Kd.C k70 w A1 l1.length l1) (hc1 : l1.length ≤ c1) (h : larchref05_SamePairs.f k l0 l1 = some r) :
  Calls Try.prog 72 #[.slice A0 l0.length c0, .slice A1 l1.length c1] w fun e w' => e = .returned (.bool r) ∧ Drawn0 w w' := by
 have hu70 := Try.underlying70
 have HR0 := asd hr0
 have HC0 := asd hc0
 clear hr0 hc0
 have HR1 := asd hr1
 have HC1 := asd hc1
 clear hr1 hc1
 have H : (if (l0.length : Int) = (l1.length : Int) then (larchref05_SamePairs.l0 k l0 l1 0) else (some false)) = some r := h
 clear h
 by_cases c3 : (l0.length : Int) = (l1.length : Int)
 ·
  rw [if_pos c3] at H
  have c3b0 : ((l0.length : Int) == (l1.length : Int)) = true := beq_iff_eq.mpr c3
  have c3b1 : ((l0.length : Int) != (l1.length : Int)) = false := bne_eq_false_iff_eq.mpr c3
  have c3b2 : (l0.length == l1.length) = true := by first | simpa using c3 | (simp at c3 ⊢; omega)
  clear c3
  have H' := asd H
  clear H
  go_enter Try.func72, Try.ntmps72
  go_wp2
  repeat (go_quiet (fail); try go_wp2)
  go_loopg [5] k (fun kq v5 w' => ∃ (x5_1 : Int), v5 = .int .i64 x5_1 ∧ Aside0 (larchref05_SamePairs.l0 kq l0 l1 x5_1 = some r) ∧ Aside0 (kq ≤ k) ∧ Drawn0 w w')
  case atStart => exact ⟨(0), rs, H', ⟨Nat.le_refl _⟩, by repeat (first | exact Drawn0.refl _ | apply Drawn0.step)⟩
  case round =>
   clear H'
   try clear c1
   try clear p2
   try clear c3
   try clear c3b0
   try clear c3b1
   try clear c3b2
   obtain ⟨x5_1, rfl, HA, HK1, ⟨m1, rfl⟩⟩ := hrel
   cases gk with
   | zero => exact absurd HA.out (by simp [larchref05_SamePairs.l0])
   | succ k1 =>
    have H := HA.out
    clear HA
    simp only [larchref05_SamePairs.l0] at H
    by_cases c4 : x5_1 < (l0.length : Int)
    ·
     rw [if_pos c4] at H
     have c4b0 : decide (x5_1 < (l0.length : Int)) = true := decide_eq_true c4
     clear c4
     by_cases c5 : 0 ≤ x5_1
     ·
      rw [if_pos c5] at H
      have c5b0 : decide (0 ≤ x5_1) = true := decide_eq_true c5
      clear c5
      by_cases c6 : x5_1 < (l1.length : Int)
      ·
       rw [if_pos c6] at H
       have c6b0 : decide (x5_1 < (l1.length : Int)) = true := decide_eq_true c6
       clear c6
       by_cases c7 : (!(((J70 l0 x5_1).f0) == ((J70 l1 x5_1).f0)) || (!(((J70 l0 x5_1).f1) == ((J70 l1 x5_1).f1)))) = true
       ·
        rw [if_pos c7] at H
        have c7b0 : (!(((J70 l0 x5_1).f0) == ((J70 l1 x5_1).f0)) || (!(((J70 l0 x5_1).f1) == ((J70 l1 x5_1).f1)))) = true := c7
        clear c7
        obtain rfl := Option.some.inj H
        have p140 : 0 ≤ (x5_1 : Int) := dt
        have q140 : x5_1 < (l0.length : Int) := dt
        obtain ⟨ad140, e140, hx140_0, hx140_1⟩ := at_T70 HR0.out x5_1 p140 q140
        cases e140
        replace p140 := eq_true p140
        replace q140 := eq_true q140
        have p141 : 0 ≤ (x5_1 : Int) := dt
        have q141 : x5_1 < (l1.length : Int) := dt
        obtain ⟨ad141, e141, hx141_0, hx141_1⟩ := at_T70 HR1.out x5_1 p141 q141
        cases e141
        replace p141 := eq_true p141
        replace q141 := eq_true q141
        go_wp2
        repeat (go_quiet (fail); try go_wp2)
        go_ret
        exact ⟨by first | rfl | (simp; done) | (simp [*]; done), by repeat (first | exact Drawn0.refl _ | apply Drawn0.step)⟩
       ·
        rw [if_neg c7] at H
        have c7b0 : (!(((J70 l0 x5_1).f0) == ((J70 l1 x5_1).f0)) || (!(((J70 l0 x5_1).f1) == ((J70 l1 x5_1).f1)))) = false := by simpa using c7
        clear c7
        have H' := asd H
        clear H
        have p140 : 0 ≤ (x5_1 : Int) := dt
        have q140 : x5_1 < (l0.length : Int) := dt
        obtain ⟨ad140, e140, hx140_0, hx140_1⟩ := at_T70 HR0.out x5_1 p140 q140
        cases e140
        replace p140 := eq_true p140
        replace q140 := eq_true q140
        have p141 : 0 ≤ (x5_1 : Int) := dt
        have q141 : x5_1 < (l1.length : Int) := dt
        obtain ⟨ad141, e141, hx141_0, hx141_1⟩ := at_T70 HR1.out x5_1 p141 q141
        cases e141
        replace p141 := eq_true p141
        replace q141 := eq_true q141
        go_wp2
        repeat (go_quiet (fail); try go_wp2)
        go_roundg k1
        case measure => have := HK1.out; omega
        case rel => exact ⟨(wrap64 (x5_1 + 1)), rs, H', ⟨by have := HK1.out; omega⟩, by repeat (first | exact Drawn0.refl _ | apply Drawn0.step)⟩
      ·
       rw [if_neg c6] at H
       exact absurd H (by simp)
     ·
      rw [if_neg c5] at H
      exact absurd H (by simp)
    ·
     rw [if_neg c4] at H
     have c4b0 : decide (x5_1 < (l0.length : Int)) = false := decide_eq_false c4
     clear c4
     obtain rfl := Option.some.inj H
     go_wp2
     repeat (go_quiet (fail); try go_wp2)
     go_ret
     exact ⟨by first | rfl | (simp; done) | (simp [*]; done), by repeat (first | exact Drawn0.refl _ | apply Drawn0.step)⟩
 ·
  rw [if_neg c3] at H
  have c3b0 : ((l0.length : Int) == (l1.length : Int)) = false := beq_eq_false_iff_ne.mpr c3
  have c3b1 : ((l0.length : Int) != (l1.length : Int)) = true := bne_iff_ne.mpr c3
  have c3b2 : (l0.length == l1.length) = false := by first | simpa using c3 | (simp at c3 ⊢; omega)
  obtain rfl := Option.some.inj H
  go_enter Try.func72, Try.ntmps72
  go_wp2
  repeat (go_quiet (fail); try go_wp2)
  go_ret
  exact ⟨by first | rfl | (simp; done) | (simp [*]; done), by repeat (first | exact Drawn0.refl _ | apply Drawn0.step)⟩
end Go.Proofs.Ytagdkmcgepidoaa.P
/- F19 -/
namespace Go.Proofs.Ytagdkmcgepidoaa.P
open Go.RowKit Go.Proofs.YtagdkmcgepidoaaW.PrintWords Go.Proofs.YtagdkmcgepidoaaW.PrintLast Go.Proofs.YtagdkmcgepidoaaW.PrintMore
attribute [local go_sem] max2_int min2_int max_two min_two max_three min_three max_four min_four   -- for this text's walks alone
set_option linter.unusedVariables false
set_option linter.unusedSimpArgs false
def larchref05_SameRet.f (k : Nat) (a0_0 : Bool) (a0_1 : Int) (a0_2 : Int) (l0_3 : List (S70)) (a1_0 : Bool) (a1_1 : Int) (a1_2 : Int) (l1_3 : List (S70)) : Option (Bool) := if (a0_0 == a1_0) = true then (if a0_1 = a1_1 then (if a0_2 = a1_2 then ((larchref05_SamePairs.f k l0_3 l1_3).bind fun t144 => (some t144)) else (some false)) else (some false)) else (some false)
set_option maxHeartbeats 8000000 in
set_option maxRecDepth 100000 in
theorem larchref05_SameRet.calls (k : Nat) (a0_0 : Bool) (a0_1 : Int) (a0_2 : Int) (A0_3 : Option Addr) (c0_3 : Nat) (l0_3 : List (S70)) (a1_0 : Bool) (a1_1 : Int) (a1_2 : Int) (A1_3 : Option Addr) (c1_3 : Nat) (l1_3 : List (S70)) (r : Bool) (w : World) (hr0_3 : Kd.C k70 w A0_3 l0_3.length l0_3) (hc0_3 : l0_3.length ≤ c0_3) (hr1_3 : Kd.C k70 w A1_3 l1_3.length l1_3) (hc1_3 : l1_3.length ≤ c1_3) (h : larchref05_SameRet.f k a0_0 a0_1 a0_2 l0_3 a1_0 a1_1 a1_2 l1_3 = some r) :
  Calls Try.prog 63 #[.agg #[.bool a0_0, .int .i64 a0_1, .int .i64 a0_2, .slice A0_3 l0_3.length c0_3], .agg #[.bool a1_0, .int .i64 a1_1, .int .i64 a1_2, .slice A1_3 l1_3.length c1_3]] w fun e w' => e = .returned (.bool r) ∧ Below w.heap.size w w' := by
 have hu36 := Try.underlying36
 have HR0_3 := asd hr0_3
 have HC0_3 := asd hc0_3
 clear hr0_3 hc0_3
 have HR1_3 := asd hr1_3
 have HC1_3 := asd hc1_3
 clear hr1_3 hc1_3
 have HB := asd (Below.refl w.heap.size w)
 have H : (if (a0_0 == a1_0) = true then (if a0_1 = a1_1 then (if a0_2 = a1_2 then ((larchref05_SamePairs.f k l0_3 l1_3).bind fun t144 => (some t144)) else (some false)) else (some false)) else (some false)) = some r := h
 clear h
 by_cases c3 : (a0_0 == a1_0) = true
 ·
  rw [if_pos c3] at H
  have c3b0 : (a0_0 == a1_0) = true := c3
  (try (have c3b1 : decide (a0_0 = a1_0) = true := by simpa using c3))
  (try (have c3b2 : (a0_0 == a1_0) = true := by simpa using c3))
  clear c3
  by_cases c4 : a0_1 = a1_1
  ·
   rw [if_pos c4] at H
   have c4b0 : (a0_1 == a1_1) = true := beq_iff_eq.mpr c4
   have c4b1 : (a0_1 != a1_1) = false := bne_eq_false_iff_eq.mpr c4
   clear c4
   by_cases c5 : a0_2 = a1_2
   ·
    rw [if_pos c5] at H
    have c5b0 : (a0_2 == a1_2) = true := beq_iff_eq.mpr c5
    have c5b1 : (a0_2 != a1_2) = false := bne_eq_false_iff_eq.mpr c5
    clear c5
    replace H := Option.bind_eq_some_iff.mp H
    obtain ⟨t144, A60, H⟩ := H
    replace H : (some t144) = some r := H
    have A6 := asd A60
    clear A60
    obtain rfl := Option.some.inj H
    go_enter Try.func63, Try.ntmps63
    go_wp2_with (first | ((with_reducible refine gate_dst (N := 2) rfl ?_); refine box_event ?hg (N := 2) ?hd (cs := #[.bool a0_0, .int .i64 a0_1, .int .i64 a0_2, .slice A0_3 l0_3.length c0_3]) (t := 36) ?hr ?_; (case hd => rfl); (case hg => rfl); (case hr => first | (go_simp; done) | (go_simp; rfl)); intro gb142 hg w7 hbox hb; have n0_ := asd (below_step (skB HB.out) hb); have n1_ := asd (hbox); have n2_ := asd ((by rw [hg]; exact (below_size (skB HB.out)) : w.heap.size ≤ gb142)); have n3_ := asd ((by rw [hg]; exact (below_size (skB HB.out)) : w.heap.size ≤ gb142)); clear HB; have HB := n0_; have BK142 := n1_; have GW142 := n2_; have GE142 := n3_; clear n0_ n1_ n2_ n3_; clear hb hbox hg) | ((with_reducible refine gate_dst (N := 3) rfl ?_); refine box_event ?hg (N := 3) ?hd (cs := #[.bool a1_0, .int .i64 a1_1, .int .i64 a1_2, .slice A1_3 l1_3.length c1_3]) (t := 36) ?hr ?_; (case hd => rfl); (case hg => rfl); (case hr => first | (go_simp; done) | (go_simp; rfl)); intro gb143 hg w8 hbox hb; have n0_ := asd (blk_below (g := gb142) (o := .cells #[.bool a0_0, .int .i64 a0_1, .int .i64 a0_2, .slice A0_3 l0_3.length c0_3] 36 (0, 0)) (skK BK142.out) hb); have n1_ := asd (below_step (skG HB.out GE142.out GE142.out) hb); have n2_ := asd (hbox); have n3_ := asd ((by rw [hg]; exact (below_size (skG HB.out GE142.out GE142.out)) : w.heap.size ≤ gb143)); have n4_ := asd ((by rw [hg]; exact (below_size (skG HB.out GE142.out GE142.out)) : w.heap.size ≤ gb143)); have n5_ := asd ((by rw [hg]; exact Nat.ne_of_lt (blk_lt (g := gb142) (o := .cells #[.bool a0_0, .int .i64 a0_1, .int .i64 a0_2, .slice A0_3 l0_3.length c0_3] 36 (0, 0)) (skK BK142.out)) : gb142 ≠ gb143)); have n6_ := asd ((by rw [hg]; exact Nat.ne_of_gt (blk_lt (g := gb142) (o := .cells #[.bool a0_0, .int .i64 a0_1, .int .i64 a0_2, .slice A0_3 l0_3.length c0_3] 36 (0, 0)) (skK BK142.out)) : gb143 ≠ gb142)); clear BK142; clear HB; have BK142 := n0_; have HB := n1_; have BK143 := n2_; have GW143 := n3_; have GE143 := n4_; have NB142_143 := n5_; have NB143_142 := n6_; clear n0_ n1_ n2_ n3_ n4_ n5_ n6_; clear hb hbox hg; have hnb9 := NB142_143.out; have hnc9 := NB143_142.out; obtain ⟨hcz10_0, hcz10_1, hcz10_2, hcz10_3, hfz10_0, hfz10_1, hfz10_2, hfz10_3⟩ := bk4 BK142.out; obtain ⟨hcz11_0, hcz11_1, hcz11_2, hcz11_3, hfz11_0, hfz11_1, hfz11_2, hfz11_3⟩ := bk4 BK143.out) | (go_at_call 72; (with_reducible refine (larchref05_SamePairs.calls k _ _ l0_3 _ _ l1_3 t144 _ ?side1 ?side2 ?side3 ?side4 A6.out).mono ?_); (case side1 => exact skC (Kd.C_below HR0_3.out HB.out)); (case side2 => exact HC0_3.out); (case side3 => exact skC (Kd.C_below HR1_3.out HB.out)); (case side4 => exact HC1_3.out); rintro e w' ⟨rfl, ⟨nd, rfl⟩⟩))
    go_ret
    exact ⟨re, skG HB.out GE142.out GE143.out⟩
   ·
    rw [if_neg c5] at H
    have c5b0 : (a0_2 == a1_2) = false := beq_eq_false_iff_ne.mpr c5
    have c5b1 : (a0_2 != a1_2) = true := bne_iff_ne.mpr c5
    obtain rfl := Option.some.inj H
    go_enter Try.func63, Try.ntmps63
    go_wp2_with (first | ((with_reducible refine gate_dst (N := 2) rfl ?_); refine box_event ?hg (N := 2) ?hd (cs := #[.bool a0_0, .int .i64 a0_1, .int .i64 a0_2, .slice A0_3 l0_3.length c0_3]) (t := 36) ?hr ?_; (case hd => rfl); (case hg => rfl); (case hr => first | (go_simp; done) | (go_simp; rfl)); intro gb142 hg w12 hbox hb; have n0_ := asd (below_step (skB HB.out) hb); have n1_ := asd (hbox); have n2_ := asd ((by rw [hg]; exact (below_size (skB HB.out)) : w.heap.size ≤ gb142)); have n3_ := asd ((by rw [hg]; exact (below_size (skB HB.out)) : w.heap.size ≤ gb142)); clear HB; have HB := n0_; have BK142 := n1_; have GW142 := n2_; have GE142 := n3_; clear n0_ n1_ n2_ n3_; clear hb hbox hg) | ((with_reducible refine gate_dst (N := 3) rfl ?_); refine box_event ?hg (N := 3) ?hd (cs := #[.bool a1_0, .int .i64 a1_1, .int .i64 a1_2, .slice A1_3 l1_3.length c1_3]) (t := 36) ?hr ?_; (case hd => rfl); (case hg => rfl); (case hr => first | (go_simp; done) | (go_simp; rfl)); intro gb143 hg w13 hbox hb; have n0_ := asd (blk_below (g := gb142) (o := .cells #[.bool a0_0, .int .i64 a0_1, .int .i64 a0_2, .slice A0_3 l0_3.length c0_3] 36 (0, 0)) (skK BK142.out) hb); have n1_ := asd (below_step (skG HB.out GE142.out GE142.out) hb); have n2_ := asd (hbox); have n3_ := asd ((by rw [hg]; exact (below_size (skG HB.out GE142.out GE142.out)) : w.heap.size ≤ gb143)); have n4_ := asd ((by rw [hg]; exact (below_size (skG HB.out GE142.out GE142.out)) : w.heap.size ≤ gb143)); have n5_ := asd ((by rw [hg]; exact Nat.ne_of_lt (blk_lt (g := gb142) (o := .cells #[.bool a0_0, .int .i64 a0_1, .int .i64 a0_2, .slice A0_3 l0_3.length c0_3] 36 (0, 0)) (skK BK142.out)) : gb142 ≠ gb143)); have n6_ := asd ((by rw [hg]; exact Nat.ne_of_gt (blk_lt (g := gb142) (o := .cells #[.bool a0_0, .int .i64 a0_1, .int .i64 a0_2, .slice A0_3 l0_3.length c0_3] 36 (0, 0)) (skK BK142.out)) : gb143 ≠ gb142)); clear BK142; clear HB; have BK142 := n0_; have HB := n1_; have BK143 := n2_; have GW143 := n3_; have GE143 := n4_; have NB142_143 := n5_; have NB143_142 := n6_; clear n0_ n1_ n2_ n3_ n4_ n5_ n6_; clear hb hbox hg; have hnb14 := NB142_143.out; have hnc14 := NB143_142.out; obtain ⟨hcz15_0, hcz15_1, hcz15_2, hcz15_3, hfz15_0, hfz15_1, hfz15_2, hfz15_3⟩ := bk4 BK142.out; obtain ⟨hcz16_0, hcz16_1, hcz16_2, hcz16_3, hfz16_0, hfz16_1, hfz16_2, hfz16_3⟩ := bk4 BK143.out))
    go_ret
    exact ⟨re, skG HB.out GE142.out GE143.out⟩
  ·
   rw [if_neg c4] at H
   have c4b0 : (a0_1 == a1_1) = false := beq_eq_false_iff_ne.mpr c4
   have c4b1 : (a0_1 != a1_1) = true := bne_iff_ne.mpr c4
   obtain rfl := Option.some.inj H
   go_enter Try.func63, Try.ntmps63
   go_wp2_with (first | ((with_reducible refine gate_dst (N := 2) rfl ?_); refine box_event ?hg (N := 2) ?hd (cs := #[.bool a0_0, .int .i64 a0_1, .int .i64 a0_2, .slice A0_3 l0_3.length c0_3]) (t := 36) ?hr ?_; (case hd => rfl); (case hg => rfl); (case hr => first | (go_simp; done) | (go_simp; rfl)); intro gb142 hg w17 hbox hb; have n0_ := asd (below_step (skB HB.out) hb); have n1_ := asd (hbox); have n2_ := asd ((by rw [hg]; exact (below_size (skB HB.out)) : w.heap.size ≤ gb142)); have n3_ := asd ((by rw [hg]; exact (below_size (skB HB.out)) : w.heap.size ≤ gb142)); clear HB; have HB := n0_; have BK142 := n1_; have GW142 := n2_; have GE142 := n3_; clear n0_ n1_ n2_ n3_; clear hb hbox hg) | ((with_reducible refine gate_dst (N := 3) rfl ?_); refine box_event ?hg (N := 3) ?hd (cs := #[.bool a1_0, .int .i64 a1_1, .int .i64 a1_2, .slice A1_3 l1_3.length c1_3]) (t := 36) ?hr ?_; (case hd => rfl); (case hg => rfl); (case hr => first | (go_simp; done) | (go_simp; rfl)); intro gb143 hg w18 hbox hb; have n0_ := asd (blk_below (g := gb142) (o := .cells #[.bool a0_0, .int .i64 a0_1, .int .i64 a0_2, .slice A0_3 l0_3.length c0_3] 36 (0, 0)) (skK BK142.out) hb); have n1_ := asd (below_step (skG HB.out GE142.out GE142.out) hb); have n2_ := asd (hbox); have n3_ := asd ((by rw [hg]; exact (below_size (skG HB.out GE142.out GE142.out)) : w.heap.size ≤ gb143)); have n4_ := asd ((by rw [hg]; exact (below_size (skG HB.out GE142.out GE142.out)) : w.heap.size ≤ gb143)); have n5_ := asd ((by rw [hg]; exact Nat.ne_of_lt (blk_lt (g := gb142) (o := .cells #[.bool a0_0, .int .i64 a0_1, .int .i64 a0_2, .slice A0_3 l0_3.length c0_3] 36 (0, 0)) (skK BK142.out)) : gb142 ≠ gb143)); have n6_ := asd ((by rw [hg]; exact Nat.ne_of_gt (blk_lt (g := gb142) (o := .cells #[.bool a0_0, .int .i64 a0_1, .int .i64 a0_2, .slice A0_3 l0_3.length c0_3] 36 (0, 0)) (skK BK142.out)) : gb143 ≠ gb142)); clear BK142; clear HB; have BK142 := n0_; have HB := n1_; have BK143 := n2_; have GW143 := n3_; have GE143 := n4_; have NB142_143 := n5_; have NB143_142 := n6_; clear n0_ n1_ n2_ n3_ n4_ n5_ n6_; clear hb hbox hg; have hnb19 := NB142_143.out; have hnc19 := NB143_142.out; obtain ⟨hcz20_0, hcz20_1, hcz20_2, hcz20_3, hfz20_0, hfz20_1, hfz20_2, hfz20_3⟩ := bk4 BK142.out; obtain ⟨hcz21_0, hcz21_1, hcz21_2, hcz21_3, hfz21_0, hfz21_1, hfz21_2, hfz21_3⟩ := bk4 BK143.out))
   go_ret
   exact ⟨re, skG HB.out GE142.out GE143.out⟩
 ·
  rw [if_neg c3] at H
  have c3b0 : (a0_0 == a1_0) = false := by simpa using c3
  (try (have c3b1 : decide (a0_0 = a1_0) = false := by simpa using c3))
  (try (have c3b2 : (a0_0 == a1_0) = false := by simpa using c3))
  (try (have c3b3 : ¬ (a0_0 = a1_0) := by simpa using c3))
  clear c3
  obtain rfl := Option.some.inj H
  go_enter Try.func63, Try.ntmps63
  go_wp2_with (first | ((with_reducible refine gate_dst (N := 2) rfl ?_); refine box_event ?hg (N := 2) ?hd (cs := #[.bool a0_0, .int .i64 a0_1, .int .i64 a0_2, .slice A0_3 l0_3.length c0_3]) (t := 36) ?hr ?_; (case hd => rfl); (case hg => rfl); (case hr => first | (go_simp; done) | (go_simp; rfl)); intro gb142 hg w22 hbox hb; have n0_ := asd (below_step (skB HB.out) hb); have n1_ := asd (hbox); have n2_ := asd ((by rw [hg]; exact (below_size (skB HB.out)) : w.heap.size ≤ gb142)); have n3_ := asd ((by rw [hg]; exact (below_size (skB HB.out)) : w.heap.size ≤ gb142)); clear HB; have HB := n0_; have BK142 := n1_; have GW142 := n2_; have GE142 := n3_; clear n0_ n1_ n2_ n3_; clear hb hbox hg) | ((with_reducible refine gate_dst (N := 3) rfl ?_); refine box_event ?hg (N := 3) ?hd (cs := #[.bool a1_0, .int .i64 a1_1, .int .i64 a1_2, .slice A1_3 l1_3.length c1_3]) (t := 36) ?hr ?_; (case hd => rfl); (case hg => rfl); (case hr => first | (go_simp; done) | (go_simp; rfl)); intro gb143 hg w23 hbox hb; have n0_ := asd (blk_below (g := gb142) (o := .cells #[.bool a0_0, .int .i64 a0_1, .int .i64 a0_2, .slice A0_3 l0_3.length c0_3] 36 (0, 0)) (skK BK142.out) hb); have n1_ := asd (below_step (skG HB.out GE142.out GE142.out) hb); have n2_ := asd (hbox); have n3_ := asd ((by rw [hg]; exact (below_size (skG HB.out GE142.out GE142.out)) : w.heap.size ≤ gb143)); have n4_ := asd ((by rw [hg]; exact (below_size (skG HB.out GE142.out GE142.out)) : w.heap.size ≤ gb143)); have n5_ := asd ((by rw [hg]; exact Nat.ne_of_lt (blk_lt (g := gb142) (o := .cells #[.bool a0_0, .int .i64 a0_1, .int .i64 a0_2, .slice A0_3 l0_3.length c0_3] 36 (0, 0)) (skK BK142.out)) : gb142 ≠ gb143)); have n6_ := asd ((by rw [hg]; exact Nat.ne_of_gt (blk_lt (g := gb142) (o := .cells #[.bool a0_0, .int .i64 a0_1, .int .i64 a0_2, .slice A0_3 l0_3.length c0_3] 36 (0, 0)) (skK BK142.out)) : gb143 ≠ gb142)); clear BK142; clear HB; have BK142 := n0_; have HB := n1_; have BK143 := n2_; have GW143 := n3_; have GE143 := n4_; have NB142_143 := n5_; have NB143_142 := n6_; clear n0_ n1_ n2_ n3_ n4_ n5_ n6_; clear hb hbox hg; have hnb24 := NB142_143.out; have hnc24 := NB143_142.out; obtain ⟨hcz25_0, hcz25_1, hcz25_2, hcz25_3, hfz25_0, hfz25_1, hfz25_2, hfz25_3⟩ := bk4 BK142.out; obtain ⟨hcz26_0, hcz26_1, hcz26_2, hcz26_3, hfz26_0, hfz26_1, hfz26_2, hfz26_3⟩ := bk4 BK143.out))
  go_ret
  exact ⟨re, skG HB.out GE142.out GE143.out⟩
end Go.Proofs.Ytagdkmcgepidoaa.P
/- F20 -/
namespace Go.Proofs.Ytagdkmcgepidoaa.P
open Go.RowKit Go.Proofs.YtagdkmcgepidoaaW.PrintWords Go.Proofs.YtagdkmcgepidoaaW.PrintLast Go.Proofs.YtagdkmcgepidoaaW.PrintMore
attribute [local go_sem] max2_int min2_int max_two min_two max_three min_three max_four min_four   -- for this text's walks alone
set_option linter.unusedVariables false
set_option linter.unusedSimpArgs false
attribute [local go_sem high] eqA33
mutual
def larchref05_Check.l0 : Nat → List (S67) → List Bool → List (S33) → Int → Option (Int)
 | 0, _, _, _, _ => none
 | k + 1, x0, x3, x4, x5 => if x5 < (x0.length : Int) then (if 0 ≤ x5 then (if ((J67 x0 x5).f0) < 0 then (larchref05_Check.j1 k x0 x3 x4 x5 true ((J67 x0 x5).f0) ((J67 x0 x5).f1) ((J67 x0 x5).f2.f0) ((J67 x0 x5).f2.f1) ((J67 x0 x5).f2.f2) ((J67 x0 x5).f2.f3) ((J67 x0 x5).f3.f0) ((J67 x0 x5).f3.f1) ((J67 x0 x5).f3.f2) ((J67 x0 x5).f3.f3)) else (if ((J67 x0 x5).f0) ≥ 64 then (larchref05_Check.j1 k x0 x3 x4 x5 true ((J67 x0 x5).f0) ((J67 x0 x5).f1) ((J67 x0 x5).f2.f0) ((J67 x0 x5).f2.f1) ((J67 x0 x5).f2.f2) ((J67 x0 x5).f2.f3) ((J67 x0 x5).f3.f0) ((J67 x0 x5).f3.f1) ((J67 x0 x5).f3.f2) ((J67 x0 x5).f3.f3)) else (if ((J67 x0 x5).f2.f0) < 1 then (larchref05_Check.j1 k x0 x3 x4 x5 true ((J67 x0 x5).f0) ((J67 x0 x5).f1) ((J67 x0 x5).f2.f0) ((J67 x0 x5).f2.f1) ((J67 x0 x5).f2.f2) ((J67 x0 x5).f2.f3) ((J67 x0 x5).f3.f0) ((J67 x0 x5).f3.f1) ((J67 x0 x5).f3.f2) ((J67 x0 x5).f3.f3)) else (if ((J67 x0 x5).f2.f0) > 9 then (larchref05_Check.j1 k x0 x3 x4 x5 true ((J67 x0 x5).f0) ((J67 x0 x5).f1) ((J67 x0 x5).f2.f0) ((J67 x0 x5).f2.f1) ((J67 x0 x5).f2.f2) ((J67 x0 x5).f2.f3) ((J67 x0 x5).f3.f0) ((J67 x0 x5).f3.f1) ((J67 x0 x5).f3.f2) ((J67 x0 x5).f3.f3)) else (if 0 ≤ ((J67 x0 x5).f0) then (if ((J67 x0 x5).f0) < (x3.length : Int) then (larchref05_Check.j1 k x0 x3 x4 x5 (((J67 x0 x5).f1) != (rdOf false x3 ((J67 x0 x5).f0))) ((J67 x0 x5).f0) ((J67 x0 x5).f1) ((J67 x0 x5).f2.f0) ((J67 x0 x5).f2.f1) ((J67 x0 x5).f2.f2) ((J67 x0 x5).f2.f3) ((J67 x0 x5).f3.f0) ((J67 x0 x5).f3.f1) ((J67 x0 x5).f3.f2) ((J67 x0 x5).f3.f3)) else (none)) else (none)))))) else (none)) else (some 0)
def larchref05_Check.j1 : Nat → List (S67) → List Bool → List (S33) → Int → Bool → Int → Bool → Int → Int → Int → Int → Bool → Int → Int → List (S70) → Option (Int)
 | 0, _, _, _, _, _, _, _, _, _, _, _, _, _, _, _ => none
 | k + 1, x0, x3, x4, x5, x51, x153000, x153001, x153002, x153003, x153004, x153005, x153006, x153007, x153008, x153009 => if x51 = true then (some 3) else (if x153001 = true then (if 0 ≤ x153000 then (if x153000 < (x4.length : Int) then (if (!(x153002 == ((J33 x4 x153000).f0)) || (!(x153003 == ((J33 x4 x153000).f1)) || (!(x153004 == ((J33 x4 x153000).f2)) || (!(x153005 == ((J33 x4 x153000).f3)))))) = true then (some 3) else (if x153000 < (x3.length : Int) then (larchref05_Check.l0 k x0 (x3.set (x153000 : Int).toNat (!x153001)) (x4.set (x153000 : Int).toNat (⟨x153002, x153003, x153004, x153005⟩ : S33)) (wrap64 (x5 + 1))) else (none))) else (none)) else (none)) else ((larchref05_SameRet.f k x153006 x153007 x153008 x153009 false 0 0 ([] : List (S70))).bind fun t157 => (if t157 = true then (if 0 ≤ x153000 then (if x153000 < (x3.length : Int) then (if x153000 < (x4.length : Int) then (larchref05_Check.l0 k x0 (x3.set (x153000 : Int).toNat (!x153001)) (x4.set (x153000 : Int).toNat (⟨x153002, x153003, x153004, x153005⟩ : S33)) (wrap64 (x5 + 1))) else (none)) else (none)) else (none)) else (some 3))))
end
def larchref05_Check.f (k : Nat) (l0 : List (S67)) : Option (Int) := if (l0.length : Int) > 100000 then (some 2) else (if 64 ≤ 281474976710656 then (if 64 ≤ 8796093022208 then (larchref05_Check.l0 k l0 (List.replicate 64 false) (List.replicate 64 z33) 0) else (none)) else (none))
end Go.Proofs.Ytagdkmcgepidoaa.P
/- F21 -/
namespace Go.Proofs.Ytagdkmcgepidoaa.P
open Go.RowKit Go.Proofs.YtagdkmcgepidoaaW.PrintWords Go.Proofs.YtagdkmcgepidoaaW.PrintLast Go.Proofs.YtagdkmcgepidoaaW.PrintMore
attribute [local go_sem] max2_int min2_int max_two min_two max_three min_three max_four min_four   -- for this text's walks alone
set_option linter.unusedVariables false
set_option linter.unusedSimpArgs false
def larchref05_CopyRet.f (a0_0 : Bool) (a0_1 : Int) (a0_2 : Int) (l0_3 : List (S70)) : Option (Bool × Int × Int × (List (S70))) := (some (([] : List (S70)) : List (S70))).bind fun y162 => (if y162.length + l0_3.length < 8796093022208 then (some (a0_0, a0_1, a0_2, (y162 ++ l0_3))) else (none))
set_option maxHeartbeats 8000000 in
set_option maxRecDepth 100000 in
theorem larchref05_CopyRet.calls (a0_0 : Bool) (a0_1 : Int) (a0_2 : Int) (A0_3 : Option Addr) (c0_3 : Nat) (l0_3 : List (S70)) (r1 : Bool) (r2 : Int) (r3 : Int) (r4 : List (S70)) (w : World) (hr0_3 : Kd.C k70 w A0_3 l0_3.length l0_3) (hc0_3 : l0_3.length ≤ c0_3) (h : larchref05_CopyRet.f a0_0 a0_1 a0_2 l0_3 = some (r1, r2, r3, r4)) :
  Calls Try.prog 65 #[.agg #[.bool a0_0, .int .i64 a0_1, .int .i64 a0_2, .slice A0_3 l0_3.length c0_3]] w fun e w' => ∃ v3_ : Value, e = .returned (.agg #[.bool r1, .int .i64 r2, .int .i64 r3, v3_]) ∧ Kd.R k70 70 w' w.heap.size (fun _ => True) v3_ r4 ∧ Below w.heap.size w w' := by
 have hu36 := Try.underlying36
 have HR0_3 := asd hr0_3
 have HC0_3 := asd hc0_3
 clear hr0_3 hc0_3
 have HB := asd (Below.refl w.heap.size w)
 have H : ((some (([] : List (S70)) : List (S70))).bind fun y162 => (if y162.length + l0_3.length < 8796093022208 then (some (a0_0, a0_1, a0_2, (y162 ++ l0_3))) else (none))) = some (r1, r2, r3, r4) := h
 clear h
 obtain ⟨y162, hy162⟩ : ∃ y_ : List (S70), y_ = (([] : List (S70))) := ⟨_, rfl⟩
 replace H : (if y162.length + l0_3.length < 8796093022208 then (some (a0_0, a0_1, a0_2, (y162 ++ l0_3))) else (none)) = some (r1, r2, r3, r4) := by first | (rw [hy162]; with_reducible exact H) | (have H2_ := (Option.bind_some _ _).symm.trans H; rw [hy162]; with_reducible exact H2_) | (have H2_ := (Option.bind_some _ _).symm.trans H; with_reducible exact H2_) | with_reducible exact H | (rw [hy162]; exact H) | exact H
 have Ny162 := asd hy162
 clear hy162
 by_cases c2 : y162.length + l0_3.length < 8796093022208
 ·
  rw [if_pos c2] at H
  have LMc2 := asd c2
  clear c2
  obtain ⟨y165, hy165⟩ : ∃ y_ : List (S70), y_ = (y162 ++ l0_3) := ⟨_, rfl⟩
  replace H : (some (a0_0, a0_1, a0_2, y165)) = some (r1, r2, r3, r4) := by first | (rw [hy165]; with_reducible exact H) | (have H2_ := (Option.bind_some _ _).symm.trans H; rw [hy165]; with_reducible exact H2_) | (have H2_ := (Option.bind_some _ _).symm.trans H; with_reducible exact H2_) | with_reducible exact H | (rw [hy165]; exact H) | exact H
  have Ny165 := asd hy165
  clear hy165
  simp only [Option.some.injEq, Prod.mk.injEq] at H
  obtain ⟨rfl, rfl, rfl, rfl⟩ := H
  go_enter Try.func65, Try.ntmps65
  go_wp2_with (first | ((with_reducible refine gate_dst (N := 1) rfl ?_); refine box_event ?hg (N := 1) ?hd (cs := #[.bool a0_0, .int .i64 a0_1, .int .i64 a0_2, .slice A0_3 l0_3.length c0_3]) (t := 36) ?hr ?_; (case hd => rfl); (case hg => rfl); (case hr => first | (go_simp; done) | (go_simp; rfl)); intro gb160 hg w3 hbox hb; have n0_ := asd (below_step (skB HB.out) hb); have n1_ := asd (hbox); have n2_ := asd ((by rw [hg]; exact (below_size (skB HB.out)) : w.heap.size ≤ gb160)); have n3_ := asd ((by rw [hg]; exact (below_size (skB HB.out)) : w.heap.size ≤ gb160)); clear HB; have HB := n0_; have BK160 := n1_; have GW160 := n2_; have GE160 := n3_; clear n0_ n1_ n2_ n3_; clear hb hbox hg) | ((with_reducible refine gate_dst (N := 2) rfl ?_); refine box_event ?hg (N := 2) ?hd (cs := #[.bool false, .int .i64 0, .int .i64 0, .slice none 0 0]) (t := 36) ?hr ?_; (case hd => rfl); (case hg => rfl); (case hr => first | (go_simp; done) | (go_simp; rfl)); intro gb161 hg w4 hbox hb; have n0_ := asd (blk_below (g := gb160) (o := .cells #[.bool a0_0, .int .i64 a0_1, .int .i64 a0_2, .slice A0_3 l0_3.length c0_3] 36 (0, 0)) (skK BK160.out) hb); have n1_ := asd (below_step (skG HB.out GE160.out GE160.out) hb); have n2_ := asd (hbox); have n3_ := asd ((by rw [hg]; exact (below_size (skG HB.out GE160.out GE160.out)) : w.heap.size ≤ gb161)); have n4_ := asd ((by rw [hg]; exact (below_size (skG HB.out GE160.out GE160.out)) : w.heap.size ≤ gb161)); have n5_ := asd ((by rw [hg]; exact Nat.ne_of_lt (blk_lt (g := gb160) (o := .cells #[.bool a0_0, .int .i64 a0_1, .int .i64 a0_2, .slice A0_3 l0_3.length c0_3] 36 (0, 0)) (skK BK160.out)) : gb160 ≠ gb161)); have n6_ := asd ((by rw [hg]; exact Nat.ne_of_gt (blk_lt (g := gb160) (o := .cells #[.bool a0_0, .int .i64 a0_1, .int .i64 a0_2, .slice A0_3 l0_3.length c0_3] 36 (0, 0)) (skK BK160.out)) : gb161 ≠ gb160)); clear BK160; clear HB; have BK160 := n0_; have HB := n1_; have BK161 := n2_; have GW161 := n3_; have GE161 := n4_; have NB160_161 := n5_; have NB161_160 := n6_; clear n0_ n1_ n2_ n3_ n4_ n5_ n6_; clear hb hbox hg) | ((with_reducible refine gate_dst (N := 3) rfl ?_); refine Kd.R_lit k70 _ 70 ?hg (N := 3) ?hd (xs := ([] : List (S70))) (inner := []) (ok := fun _ => True) (okp := fun _ => True) ?hr ?hp (fun _ hk => hk) trivial (Below.refl _ _) (Nat.le_refl _) (by simp) ?_; (case hd => rfl); (case hg => rfl); (case hr => first | (go_simp; done) | (go_simp; rfl)); (case hp => exact (Reps.none _ _)); intro v163 w5 ho6 hb hg_ hnew_; clear hg_ hnew_; (first | rw [← Ny162.out] at ho6 | (simp only [Int.reduceToNat] at ho6; rw [← Ny162.out] at ho6)); have n0_ := asd (Kd.R_lower ho6 (below_size (skG HB.out GE160.out GE161.out))); have n1_ := asd (blk_below (g := gb160) (o := .cells #[.bool a0_0, .int .i64 a0_1, .int .i64 a0_2, .slice A0_3 l0_3.length c0_3] 36 (0, 0)) (skK BK160.out) hb); have n2_ := asd (blk_below (g := gb161) (o := .cells #[.bool false, .int .i64 0, .int .i64 0, .slice none 0 0] 36 (0, 0)) (skK BK161.out) hb); have n3_ := asd (below_step (skG HB.out GE160.out GE161.out) hb); clear BK160; clear BK161; clear HB; have HO164 := n0_; have BK160 := n1_; have BK161 := n2_; have HB := n3_; clear n0_ n1_ n2_ n3_; clear hb ho6; have hnb7 := NB160_161.out; have hnc7 := NB161_160.out; obtain ⟨hcz8_0, hcz8_1, hcz8_2, hcz8_3, hfz8_0, hfz8_1, hfz8_2, hfz8_3⟩ := bk4 BK160.out) | ((with_reducible refine gate_builtin (b := .append) (xs := #[.tmp 3, .tmp 5]) rfl ?_); at_builtin; refine Kd.R_append_rows k70 (w0 := w) w.heap.size rfl (.tmp 3) (.tmp 5) 34 70 (.agg #[(.int .i64 0), (.int .i64 0)]) 16 rfl Try.underlying34 info70 rfl (by decide) (by omega) v163 y162 l0_3 _ _ _ (fun _ => True) (fun _ => False) rfl rfl ?aO ?aR (fun _ _ h => h) (fun _ h => h.elim) ?aF ?aB ?aS ?aL ?_; (case aR => exact skC (Kd.C_below HR0_3.out HB.out)); (case aB => exact (skG HB.out GE160.out GE161.out)); (case aF => exact (fun _ _ => trivial)); (case aO => exact (skR HO164.out)); (case aS => exact (below_size (skG HB.out GE160.out GE161.out))); (case aL => have := LMc2.out; omega); intro v166 w9 ho hb hg hat; rw [← Ny165.out] at ho; have n0_ := asd (blk_grown (g := gb160) (o := .cells #[.bool a0_0, .int .i64 a0_1, .int .i64 a0_2, .slice A0_3 l0_3.length c0_3] 36 (0, 0)) (skK BK160.out) hg (Kd.R_ne HO164.out BK160.out (by decide))); have n1_ := asd (blk_grown (g := gb161) (o := .cells #[.bool false, .int .i64 0, .int .i64 0, .slice none 0 0] 36 (0, 0)) (skK BK161.out) hg (Kd.R_ne HO164.out BK161.out (by decide))); have n2_ := asd (hb); have n3_ := asd (ho); clear BK160; clear BK161; clear HB; clear HO164; have BK160 := n0_; have BK161 := n1_; have HB := n2_; have HO167 := n3_; clear n0_ n1_ n2_ n3_; clear ho hb hg hat; obtain ⟨Ao10, co10, eo10⟩ := Kd.R_slice HO167.out; subst eo10; obtain ⟨hcz11_0, hcz11_1, hcz11_2, hcz11_3, hfz11_0, hfz11_1, hfz11_2, hfz11_3⟩ := bk4 BK160.out; obtain ⟨hcz12_0, hcz12_1, hcz12_2, hcz12_3, hfz12_0, hfz12_1, hfz12_2, hfz12_3⟩ := bk4 BK161.out))
  refine bodyPost_ret (results_cell_row rfl _ _ gb161 36 #[.bool a0_0, .int .i64 a0_1, .int .i64 a0_2, .slice Ao10 y165.length co10] (0, 0) _ rfl (by refine skk ?_; refine blk_put (cs := #[.bool a0_0, .int .i64 a0_1, .int .i64 a0_2, .slice none 0 0]) ?_ 3 _ rfl; refine skk ?_; refine blk_put (cs := #[.bool a0_0, .int .i64 a0_1, .int .i64 0, .slice none 0 0]) ?_ 2 _ rfl; refine skk ?_; refine blk_put (cs := #[.bool a0_0, .int .i64 0, .int .i64 0, .slice none 0 0]) ?_ 1 _ rfl; refine skk ?_; refine blk_put (cs := #[.bool false, .int .i64 0, .int .i64 0, .slice none 0 0]) ?_ 0 _ rfl; refine skk ?_; refine blk_far ?_ NB161_160.out _; refine skk ?_; exact BK161.out) Try.underlying36 rfl (by kernel_rfl)) rfl ?_
  exact ⟨_, re, skR (Kd.R_mono (Kd.R_far (p := ⟨gb161, 3, none⟩) (Kd.R_far (p := ⟨gb161, 2, none⟩) (Kd.R_far (p := ⟨gb161, 1, none⟩) (Kd.R_far (p := ⟨gb161, 0, none⟩) (Kd.R_far (p := ⟨gb160, 3, none⟩) (Kd.R_types (Kd.R_types HO167.out BK160.out (by decide)) BK161.out (by decide)) (fun _ hk => hk.1.2) (.slice Ao10 y165.length co10)) (fun _ hk => hk.2) (.bool a0_0)) (fun _ hk => hk.2) (.int .i64 a0_1)) (fun _ hk => hk.2) (.int .i64 a0_2)) (fun _ hk => hk.2) (.slice Ao10 y165.length co10)) (fun _ hk => trivial)), skG HB.out GE160.out GE161.out⟩
 ·
  rw [if_neg c2] at H
  exact absurd H (by simp)
end Go.Proofs.Ytagdkmcgepidoaa.P
/- F22 -/
namespace Go.Proofs.Ytagdkmcgepidoaa.P
open Go.RowKit Go.Proofs.YtagdkmcgepidoaaW.PrintWords Go.Proofs.YtagdkmcgepidoaaW.PrintLast Go.Proofs.YtagdkmcgepidoaaW.PrintMore
attribute [local go_sem] max2_int min2_int max_two min_two max_three min_three max_four min_four   -- for this text's walks alone
set_option linter.unusedVariables false
set_option linter.unusedSimpArgs false
def larchref05_calls.l0 : Nat → List (S67) → List (S76) → List Int → Int → Option ((List (S76)))
 | 0, _, _, _, _ => none
 | k + 1, x0, x3, x4, x5 => if x5 < (x0.length : Int) then (if 0 ≤ x5 then (if ((J67 x0 x5).f1 = true) then (if 0 ≤ ((J67 x0 x5).f0) then (if ((J67 x0 x5).f0) < (x4.length : Int) then (if 0 ≤ (rd x4 ((J67 x0 x5).f0)) then (if (rd x4 ((J67 x0 x5).f0)) < (x3.length : Int) then ((some (x3.set ((rd x4 ((J67 x0 x5).f0)) : Int).toNat (⟨(J76 x3 (rd x4 ((J67 x0 x5).f0))).f0, (⟨(J76 x3 (rd x4 ((J67 x0 x5).f0))).f1.f0, (J76 x3 (rd x4 ((J67 x0 x5).f0))).f1.f1, (J76 x3 (rd x4 ((J67 x0 x5).f0))).f1.f2, (J76 x3 (rd x4 ((J67 x0 x5).f0))).f1.f3⟩ : S33), (⟨(J76 x3 (rd x4 ((J67 x0 x5).f0))).f2.f0, (J76 x3 (rd x4 ((J67 x0 x5).f0))).f2.f1, (J76 x3 (rd x4 ((J67 x0 x5).f0))).f2.f2, (J76 x3 (rd x4 ((J67 x0 x5).f0))).f2.f3⟩ : S36), (J76 x3 (rd x4 ((J67 x0 x5).f0))).f3, x5⟩ : S76) : List (S76))).bind fun y174 => ((larchref05_CopyRet.f ((J67 x0 x5).f3.f0) ((J67 x0 x5).f3.f1) ((J67 x0 x5).f3.f2) ((J67 x0 x5).f3.f3)).bind fun bt176 => (larchref05_calls.l0 k x0 (y174.set ((rd x4 ((J67 x0 x5).f0)) : Int).toNat (⟨(J76 y174 (rd x4 ((J67 x0 x5).f0))).f0, (⟨(J76 y174 (rd x4 ((J67 x0 x5).f0))).f1.f0, (J76 y174 (rd x4 ((J67 x0 x5).f0))).f1.f1, (J76 y174 (rd x4 ((J67 x0 x5).f0))).f1.f2, (J76 y174 (rd x4 ((J67 x0 x5).f0))).f1.f3⟩ : S33), (⟨bt176.1, bt176.2.1, bt176.2.2.1, bt176.2.2.2⟩ : S36), (J76 y174 (rd x4 ((J67 x0 x5).f0))).f3, (J76 y174 (rd x4 ((J67 x0 x5).f0))).f4⟩ : S76)) x4 (wrap64 (x5 + 1))))) else (none)) else (none)) else (none)) else (none)) else (if 0 ≤ ((J67 x0 x5).f0) then (if ((J67 x0 x5).f0) < (x4.length : Int) then (if x3.length < 1353245080339 then (larchref05_calls.l0 k x0 (x3 ++ [(⟨(J67 x0 x5).f0, (⟨(J67 x0 x5).f2.f0, (J67 x0 x5).f2.f1, (J67 x0 x5).f2.f2, (J67 x0 x5).f2.f3⟩ : S33), (⟨false, 0, 0, ([] : List (S70))⟩ : S36), x5, (-1)⟩ : S76)]) (x4.set (((J67 x0 x5).f0) : Int).toNat (x3.length : Int)) (wrap64 (x5 + 1))) else (none)) else (none)) else (none))) else (none)) else (some x3)
def larchref05_calls.f (k : Nat) (l0 : List (S67)) : Option ((List (S76))) := if 64 ≤ 35184372088832 then (larchref05_calls.l0 k l0 ([] : List (S76)) (List.replicate 64 0) 0) else (none)
end Go.Proofs.Ytagdkmcgepidoaa.P
/- F23 -/
namespace Go.Proofs.Ytagdkmcgepidoaa.P
open Go.RowKit Go.Proofs.YtagdkmcgepidoaaW.PrintWords Go.Proofs.YtagdkmcgepidoaaW.PrintLast Go.Proofs.YtagdkmcgepidoaaW.PrintMore
attribute [local go_sem] max2_int min2_int max_two min_two max_three min_three max_four min_four   -- for this text's walks alone
set_option linter.unusedVariables false
set_option linter.unusedSimpArgs false
def larchref05_Calls.f (k : Nat) (l0 : List (S67)) : Option ((List (S76)) × Int) := (larchref05_Check.f k l0).bind fun t190 => (if t190 = 0 then ((larchref05_calls.f k l0).bind fun t191 => (some (t191, 0))) else (some (([] : List (S76)), t190)))
end Go.Proofs.Ytagdkmcgepidoaa.P
/- F52 -/
namespace Go.Proofs.Ytagdkmcgepidoaa.P
open Go.RowKit Go.Proofs.YtagdkmcgepidoaaW.PrintWords Go.Proofs.YtagdkmcgepidoaaW.PrintLast Go.Proofs.YtagdkmcgepidoaaW.PrintMore
attribute [local go_sem] max2_int min2_int max_two min_two max_three min_three max_four min_four   -- for this text's walks alone
set_option linter.unusedVariables false
set_option linter.unusedSimpArgs false
attribute [local go_sem high] eqA70
def api_Pair_71.l0 : Nat → List (S70) → List (S70) → Int → Int → Option (Bool)
 | 0, _, _, _, _ => none
 | k + 1, x0, x1, x12, x13 => if x13 < x12 then (if 0 ≤ x13 then (if x13 < (x0.length : Int) then (if x13 < (x1.length : Int) then (if (!(((J70 x0 x13).f0) == ((J70 x1 x13).f0)) || (!(((J70 x0 x13).f1) == ((J70 x1 x13).f1)))) = true then (some false) else (api_Pair_71.l0 k x0 x1 x12 (wrap64 (x13 + 1)))) else (none)) else (none)) else (none)) else (some true)
def api_Pair_71.f (k : Nat) (l0 : List (S70)) (l1 : List (S70)) : Option (Bool) := if (l0.length : Int) = (l1.length : Int) then (api_Pair_71.l0 k l0 l1 (l0.length : Int) 0) else (some false)
set_option maxHeartbeats 8000000 in
set_option maxRecDepth 100000 in
theorem api_Pair_71.calls (k : Nat) (A0 : Option Addr) (c0 : Nat) (l0 : List (S70)) (A1 : Option Addr) (c1 : Nat) (l1 : List (S70)) (r : Bool) (w : World) (hr0 : Kd.C k70 w A0 l0.length l0) (hc0 : l0.length ≤ c0) (hr1 : Kd.C k70 w A1 l1.length l1) (hc1 : l1.length ≤ c1) (h : api_Pair_71.f k l0 l1 = some r) :
  Calls Try.prog 71 #[.slice A0 l0.length c0, .slice A1 l1.length c1] w fun e w' => e = .returned (.bool r) ∧ Drawn0 w w' := by
 have hu70 := Try.underlying70
 have HR0 := asd hr0
 have HC0 := asd hc0
 clear hr0 hc0
 have HR1 := asd hr1
 have HC1 := asd hc1
 clear hr1 hc1
 have H : (if (l0.length : Int) = (l1.length : Int) then (api_Pair_71.l0 k l0 l1 (l0.length : Int) 0) else (some false)) = some r := h
 clear h
 by_cases c3 : (l0.length : Int) = (l1.length : Int)
 ·
  rw [if_pos c3] at H
  have c3b0 : ((l0.length : Int) == (l1.length : Int)) = true := beq_iff_eq.mpr c3
  have c3b1 : ((l0.length : Int) != (l1.length : Int)) = false := bne_eq_false_iff_eq.mpr c3
  have c3b2 : (l0.length == l1.length) = true := by first | simpa using c3 | (simp at c3 ⊢; omega)
  clear c3
  have H' := asd H
  clear H
  go_enter Try.func71, Try.ntmps71
  go_wp2
  repeat (go_quiet (fail); try go_wp2)
  go_loopg [13] k (fun kq v13 w' => ∃ (x13_1 : Int), v13 = .int .i64 x13_1 ∧ Aside0 (api_Pair_71.l0 kq l0 l1 (l0.length : Int) x13_1 = some r) ∧ Aside0 (kq ≤ k) ∧ Drawn0 w w')
  case atStart => exact ⟨(0), rs, H', ⟨Nat.le_refl _⟩, by repeat (first | exact Drawn0.refl _ | apply Drawn0.step)⟩
  case round =>
   clear H'
   try clear c1
   try clear p2
   try clear c3
   try clear c3b0
   try clear c3b1
   try clear c3b2
   obtain ⟨x13_1, rfl, HA, HK1, ⟨m1, rfl⟩⟩ := hrel
   cases gk with
   | zero => exact absurd HA.out (by simp [api_Pair_71.l0])
   | succ k1 =>
    have H := HA.out
    clear HA
    simp only [api_Pair_71.l0] at H
    by_cases c4 : x13_1 < (l0.length : Int)
    ·
     rw [if_pos c4] at H
     have c4b0 : decide (x13_1 < (l0.length : Int)) = true := decide_eq_true c4
     clear c4
     by_cases c5 : 0 ≤ x13_1
     ·
      rw [if_pos c5] at H
      have c5b0 : decide (0 ≤ x13_1) = true := decide_eq_true c5
      clear c5
      by_cases c6 : x13_1 < (l0.length : Int)
      ·
       rw [if_pos c6] at H
       have c6b0 : decide (x13_1 < (l0.length : Int)) = true := decide_eq_true c6
       clear c6
       by_cases c7 : x13_1 < (l1.length : Int)
       ·
        rw [if_pos c7] at H
        have c7b0 : decide (x13_1 < (l1.length : Int)) = true := decide_eq_true c7
        clear c7
        by_cases c8 : (!(((J70 l0 x13_1).f0) == ((J70 l1 x13_1).f0)) || (!(((J70 l0 x13_1).f1) == ((J70 l1 x13_1).f1)))) = true
        ·
         rw [if_pos c8] at H
         have c8b0 : (!(((J70 l0 x13_1).f0) == ((J70 l1 x13_1).f0)) || (!(((J70 l0 x13_1).f1) == ((J70 l1 x13_1).f1)))) = true := c8
         clear c8
         obtain rfl := Option.some.inj H
         have p372 : 0 ≤ (x13_1 : Int) := dt
         have q372 : x13_1 < (l0.length : Int) := dt
         obtain ⟨ad372, e372, hx372_0, hx372_1⟩ := at_T70 HR0.out x13_1 p372 q372
         cases e372
         replace p372 := eq_true p372
         replace q372 := eq_true q372
         have p373 : 0 ≤ (x13_1 : Int) := dt
         have q373 : x13_1 < (l1.length : Int) := dt
         obtain ⟨ad373, e373, hx373_0, hx373_1⟩ := at_T70 HR1.out x13_1 p373 q373
         cases e373
         replace p373 := eq_true p373
         replace q373 := eq_true q373
         go_wp2
         repeat (go_quiet (fail); try go_wp2)
         go_ret
         exact ⟨by first | rfl | (simp; done) | (simp [*]; done), by repeat (first | exact Drawn0.refl _ | apply Drawn0.step)⟩
        ·
         rw [if_neg c8] at H
         have c8b0 : (!(((J70 l0 x13_1).f0) == ((J70 l1 x13_1).f0)) || (!(((J70 l0 x13_1).f1) == ((J70 l1 x13_1).f1)))) = false := by simpa using c8
         clear c8
         have H' := asd H
         clear H
         have p372 : 0 ≤ (x13_1 : Int) := dt
         have q372 : x13_1 < (l0.length : Int) := dt
         obtain ⟨ad372, e372, hx372_0, hx372_1⟩ := at_T70 HR0.out x13_1 p372 q372
         cases e372
         replace p372 := eq_true p372
         replace q372 := eq_true q372
         have p373 : 0 ≤ (x13_1 : Int) := dt
         have q373 : x13_1 < (l1.length : Int) := dt
         obtain ⟨ad373, e373, hx373_0, hx373_1⟩ := at_T70 HR1.out x13_1 p373 q373
         cases e373
         replace p373 := eq_true p373
         replace q373 := eq_true q373
         go_wp2
         repeat (go_quiet (fail); try go_wp2)
         go_roundg k1
         case measure => have := HK1.out; omega
         case rel => exact ⟨(wrap64 (x13_1 + 1)), rs, H', ⟨by have := HK1.out; omega⟩, by repeat (first | exact Drawn0.refl _ | apply Drawn0.step)⟩
       ·
        rw [if_neg c7] at H
        exact absurd H (by simp)
      ·
       rw [if_neg c6] at H
       exact absurd H (by simp)
     ·
      rw [if_neg c5] at H
      exact absurd H (by simp)
    ·
     rw [if_neg c4] at H
     have c4b0 : decide (x13_1 < (l0.length : Int)) = false := decide_eq_false c4
     clear c4
     obtain rfl := Option.some.inj H
     go_wp2
     repeat (go_quiet (fail); try go_wp2)
     go_ret
     exact ⟨by first | rfl | (simp; done) | (simp [*]; done), by repeat (first | exact Drawn0.refl _ | apply Drawn0.step)⟩
 ·
  rw [if_neg c3] at H
  have c3b0 : ((l0.length : Int) == (l1.length : Int)) = false := beq_eq_false_iff_ne.mpr c3
  have c3b1 : ((l0.length : Int) != (l1.length : Int)) = true := bne_iff_ne.mpr c3
  have c3b2 : (l0.length == l1.length) = false := by first | simpa using c3 | (simp at c3 ⊢; omega)
  obtain rfl := Option.some.inj H
  go_enter Try.func71, Try.ntmps71
  go_wp2
  repeat (go_quiet (fail); try go_wp2)
  go_ret
  exact ⟨by first | rfl | (simp; done) | (simp [*]; done), by repeat (first | exact Drawn0.refl _ | apply Drawn0.step)⟩
end Go.Proofs.Ytagdkmcgepidoaa.P
/- F53 -/
namespace Go.Proofs.Ytagdkmcgepidoaa.P
open Go.RowKit Go.Proofs.YtagdkmcgepidoaaW.PrintWords Go.Proofs.YtagdkmcgepidoaaW.PrintLast Go.Proofs.YtagdkmcgepidoaaW.PrintMore
attribute [local go_sem] max2_int min2_int max_two min_two max_three min_three max_four min_four   -- for this text's walks alone
set_option linter.unusedVariables false
set_option linter.unusedSimpArgs false
def event_sameRet.f (k : Nat) (a0_0 : Bool) (a0_1 : Int) (a0_2 : Int) (l0_3 : List (S70)) (a1_0 : Bool) (a1_1 : Int) (a1_2 : Int) (l1_3 : List (S70)) : Option (Bool) := if (a0_0 == a1_0) = true then (if a0_1 = a1_1 then (if a0_2 = a1_2 then ((api_Pair_71.f k l0_3 l1_3).bind fun t376 => (some t376)) else (some false)) else (some false)) else (some false)
set_option maxHeartbeats 8000000 in
set_option maxRecDepth 100000 in
theorem event_sameRet.calls (k : Nat) (a0_0 : Bool) (a0_1 : Int) (a0_2 : Int) (A0_3 : Option Addr) (c0_3 : Nat) (l0_3 : List (S70)) (a1_0 : Bool) (a1_1 : Int) (a1_2 : Int) (A1_3 : Option Addr) (c1_3 : Nat) (l1_3 : List (S70)) (r : Bool) (w : World) (hr0_3 : Kd.C k70 w A0_3 l0_3.length l0_3) (hc0_3 : l0_3.length ≤ c0_3) (hr1_3 : Kd.C k70 w A1_3 l1_3.length l1_3) (hc1_3 : l1_3.length ≤ c1_3) (h : event_sameRet.f k a0_0 a0_1 a0_2 l0_3 a1_0 a1_1 a1_2 l1_3 = some r) :
  Calls Try.prog 62 #[.agg #[.bool a0_0, .int .i64 a0_1, .int .i64 a0_2, .slice A0_3 l0_3.length c0_3], .agg #[.bool a1_0, .int .i64 a1_1, .int .i64 a1_2, .slice A1_3 l1_3.length c1_3]] w fun e w' => e = .returned (.bool r) ∧ Below w.heap.size w w' := by
 have hu36 := Try.underlying36
 have HR0_3 := asd hr0_3
 have HC0_3 := asd hc0_3
 clear hr0_3 hc0_3
 have HR1_3 := asd hr1_3
 have HC1_3 := asd hc1_3
 clear hr1_3 hc1_3
 have HB := asd (Below.refl w.heap.size w)
 have H : (if (a0_0 == a1_0) = true then (if a0_1 = a1_1 then (if a0_2 = a1_2 then ((api_Pair_71.f k l0_3 l1_3).bind fun t376 => (some t376)) else (some false)) else (some false)) else (some false)) = some r := h
 clear h
 by_cases c3 : (a0_0 == a1_0) = true
 ·
  rw [if_pos c3] at H
  have c3b0 : (a0_0 == a1_0) = true := c3
  (try (have c3b1 : decide (a0_0 = a1_0) = true := by simpa using c3))
  (try (have c3b2 : (a0_0 == a1_0) = true := by simpa using c3))
  clear c3
  by_cases c4 : a0_1 = a1_1
  ·
   rw [if_pos c4] at H
   have c4b0 : (a0_1 == a1_1) = true := beq_iff_eq.mpr c4
   have c4b1 : (a0_1 != a1_1) = false := bne_eq_false_iff_eq.mpr c4
   clear c4
   by_cases c5 : a0_2 = a1_2
   ·
    rw [if_pos c5] at H
    have c5b0 : (a0_2 == a1_2) = true := beq_iff_eq.mpr c5
    have c5b1 : (a0_2 != a1_2) = false := bne_eq_false_iff_eq.mpr c5
    clear c5
    replace H := Option.bind_eq_some_iff.mp H
    obtain ⟨t376, A60, H⟩ := H
    replace H : (some t376) = some r := H
    have A6 := asd A60
    clear A60
    obtain rfl := Option.some.inj H
    go_enter Try.func62, Try.ntmps62
    go_wp2_with (first | ((with_reducible refine gate_dst (N := 2) rfl ?_); refine box_event ?hg (N := 2) ?hd (cs := #[.bool a0_0, .int .i64 a0_1, .int .i64 a0_2, .slice A0_3 l0_3.length c0_3]) (t := 36) ?hr ?_; (case hd => rfl); (case hg => rfl); (case hr => first | (go_simp; done) | (go_simp; rfl)); intro gb374 hg w7 hbox hb; have n0_ := asd (below_step (skB HB.out) hb); have n1_ := asd (hbox); have n2_ := asd ((by rw [hg]; exact (below_size (skB HB.out)) : w.heap.size ≤ gb374)); have n3_ := asd ((by rw [hg]; exact (below_size (skB HB.out)) : w.heap.size ≤ gb374)); clear HB; have HB := n0_; have BK374 := n1_; have GW374 := n2_; have GE374 := n3_; clear n0_ n1_ n2_ n3_; clear hb hbox hg) | ((with_reducible refine gate_dst (N := 3) rfl ?_); refine box_event ?hg (N := 3) ?hd (cs := #[.bool a1_0, .int .i64 a1_1, .int .i64 a1_2, .slice A1_3 l1_3.length c1_3]) (t := 36) ?hr ?_; (case hd => rfl); (case hg => rfl); (case hr => first | (go_simp; done) | (go_simp; rfl)); intro gb375 hg w8 hbox hb; have n0_ := asd (blk_below (g := gb374) (o := .cells #[.bool a0_0, .int .i64 a0_1, .int .i64 a0_2, .slice A0_3 l0_3.length c0_3] 36 (0, 0)) (skK BK374.out) hb); have n1_ := asd (below_step (skG HB.out GE374.out GE374.out) hb); have n2_ := asd (hbox); have n3_ := asd ((by rw [hg]; exact (below_size (skG HB.out GE374.out GE374.out)) : w.heap.size ≤ gb375)); have n4_ := asd ((by rw [hg]; exact (below_size (skG HB.out GE374.out GE374.out)) : w.heap.size ≤ gb375)); have n5_ := asd ((by rw [hg]; exact Nat.ne_of_lt (blk_lt (g := gb374) (o := .cells #[.bool a0_0, .int .i64 a0_1, .int .i64 a0_2, .slice A0_3 l0_3.length c0_3] 36 (0, 0)) (skK BK374.out)) : gb374 ≠ gb375)); have n6_ := asd ((by rw [hg]; exact Nat.ne_of_gt (blk_lt (g := gb374) (o := .cells #[.bool a0_0, .int .i64 a0_1, .int .i64 a0_2, .slice A0_3 l0_3.length c0_3] 36 (0, 0)) (skK BK374.out)) : gb375 ≠ gb374)); clear BK374; clear HB; have BK374 := n0_; have HB := n1_; have BK375 := n2_; have GW375 := n3_; have GE375 := n4_; have NB374_375 := n5_; have NB375_374 := n6_; clear n0_ n1_ n2_ n3_ n4_ n5_ n6_; clear hb hbox hg; have hnb9 := NB374_375.out; have hnc9 := NB375_374.out; obtain ⟨hcz10_0, hcz10_1, hcz10_2, hcz10_3, hfz10_0, hfz10_1, hfz10_2, hfz10_3⟩ := bk4 BK374.out; obtain ⟨hcz11_0, hcz11_1, hcz11_2, hcz11_3, hfz11_0, hfz11_1, hfz11_2, hfz11_3⟩ := bk4 BK375.out) | (go_at_call 71; (with_reducible refine (api_Pair_71.calls k _ _ l0_3 _ _ l1_3 t376 _ ?side1 ?side2 ?side3 ?side4 A6.out).mono ?_); (case side1 => exact skC (Kd.C_below HR0_3.out HB.out)); (case side2 => exact HC0_3.out); (case side3 => exact skC (Kd.C_below HR1_3.out HB.out)); (case side4 => exact HC1_3.out); rintro e w' ⟨rfl, ⟨nd, rfl⟩⟩))
    go_ret
    exact ⟨re, skG HB.out GE374.out GE375.out⟩
   ·
    rw [if_neg c5] at H
    have c5b0 : (a0_2 == a1_2) = false := beq_eq_false_iff_ne.mpr c5
    have c5b1 : (a0_2 != a1_2) = true := bne_iff_ne.mpr c5
    obtain rfl := Option.some.inj H
    go_enter Try.func62, Try.ntmps62
    go_wp2_with (first | ((with_reducible refine gate_dst (N := 2) rfl ?_); refine box_event ?hg (N := 2) ?hd (cs := #[.bool a0_0, .int .i64 a0_1, .int .i64 a0_2, .slice A0_3 l0_3.length c0_3]) (t := 36) ?hr ?_; (case hd => rfl); (case hg => rfl); (case hr => first | (go_simp; done) | (go_simp; rfl)); intro gb374 hg w12 hbox hb; have n0_ := asd (below_step (skB HB.out) hb); have n1_ := asd (hbox); have n2_ := asd ((by rw [hg]; exact (below_size (skB HB.out)) : w.heap.size ≤ gb374)); have n3_ := asd ((by rw [hg]; exact (below_size (skB HB.out)) : w.heap.size ≤ gb374)); clear HB; have HB := n0_; have BK374 := n1_; have GW374 := n2_; have GE374 := n3_; clear n0_ n1_ n2_ n3_; clear hb hbox hg) | ((with_reducible refine gate_dst (N := 3) rfl ?_); refine box_event ?hg (N := 3) ?hd (cs := #[.bool a1_0, .int .i64 a1_1, .int .i64 a1_2, .slice A1_3 l1_3.length c1_3]) (t := 36) ?hr ?_; (case hd => rfl); (case hg => rfl); (case hr => first | (go_simp; done) | (go_simp; rfl)); intro gb375 hg w13 hbox hb; have n0_ := asd (blk_below (g := gb374) (o := .cells #[.bool a0_0, .int .i64 a0_1, .int .i64 a0_2, .slice A0_3 l0_3.length c0_3] 36 (0, 0)) (skK BK374.out) hb); have n1_ := asd (below_step (skG HB.out GE374.out GE374.out) hb); have n2_ := asd (hbox); have n3_ := asd ((by rw [hg]; exact (below_size (skG HB.out GE374.out GE374.out)) : w.heap.size ≤ gb375)); have n4_ := asd ((by rw [hg]; exact (below_size (skG HB.out GE374.out GE374.out)) : w.heap.size ≤ gb375)); have n5_ := asd ((by rw [hg]; exact Nat.ne_of_lt (blk_lt (g := gb374) (o := .cells #[.bool a0_0, .int .i64 a0_1, .int .i64 a0_2, .slice A0_3 l0_3.length c0_3] 36 (0, 0)) (skK BK374.out)) : gb374 ≠ gb375)); have n6_ := asd ((by rw [hg]; exact Nat.ne_of_gt (blk_lt (g := gb374) (o := .cells #[.bool a0_0, .int .i64 a0_1, .int .i64 a0_2, .slice A0_3 l0_3.length c0_3] 36 (0, 0)) (skK BK374.out)) : gb375 ≠ gb374)); clear BK374; clear HB; have BK374 := n0_; have HB := n1_; have BK375 := n2_; have GW375 := n3_; have GE375 := n4_; have NB374_375 := n5_; have NB375_374 := n6_; clear n0_ n1_ n2_ n3_ n4_ n5_ n6_; clear hb hbox hg; have hnb14 := NB374_375.out; have hnc14 := NB375_374.out; obtain ⟨hcz15_0, hcz15_1, hcz15_2, hcz15_3, hfz15_0, hfz15_1, hfz15_2, hfz15_3⟩ := bk4 BK374.out; obtain ⟨hcz16_0, hcz16_1, hcz16_2, hcz16_3, hfz16_0, hfz16_1, hfz16_2, hfz16_3⟩ := bk4 BK375.out))
    go_ret
    exact ⟨re, skG HB.out GE374.out GE375.out⟩
  ·
   rw [if_neg c4] at H
   have c4b0 : (a0_1 == a1_1) = false := beq_eq_false_iff_ne.mpr c4
   have c4b1 : (a0_1 != a1_1) = true := bne_iff_ne.mpr c4
   obtain rfl := Option.some.inj H
   go_enter Try.func62, Try.ntmps62
   go_wp2_with (first | ((with_reducible refine gate_dst (N := 2) rfl ?_); refine box_event ?hg (N := 2) ?hd (cs := #[.bool a0_0, .int .i64 a0_1, .int .i64 a0_2, .slice A0_3 l0_3.length c0_3]) (t := 36) ?hr ?_; (case hd => rfl); (case hg => rfl); (case hr => first | (go_simp; done) | (go_simp; rfl)); intro gb374 hg w17 hbox hb; have n0_ := asd (below_step (skB HB.out) hb); have n1_ := asd (hbox); have n2_ := asd ((by rw [hg]; exact (below_size (skB HB.out)) : w.heap.size ≤ gb374)); have n3_ := asd ((by rw [hg]; exact (below_size (skB HB.out)) : w.heap.size ≤ gb374)); clear HB; have HB := n0_; have BK374 := n1_; have GW374 := n2_; have GE374 := n3_; clear n0_ n1_ n2_ n3_; clear hb hbox hg) | ((with_reducible refine gate_dst (N := 3) rfl ?_); refine box_event ?hg (N := 3) ?hd (cs := #[.bool a1_0, .int .i64 a1_1, .int .i64 a1_2, .slice A1_3 l1_3.length c1_3]) (t := 36) ?hr ?_; (case hd => rfl); (case hg => rfl); (case hr => first | (go_simp; done) | (go_simp; rfl)); intro gb375 hg w18 hbox hb; have n0_ := asd (blk_below (g := gb374) (o := .cells #[.bool a0_0, .int .i64 a0_1, .int .i64 a0_2, .slice A0_3 l0_3.length c0_3] 36 (0, 0)) (skK BK374.out) hb); have n1_ := asd (below_step (skG HB.out GE374.out GE374.out) hb); have n2_ := asd (hbox); have n3_ := asd ((by rw [hg]; exact (below_size (skG HB.out GE374.out GE374.out)) : w.heap.size ≤ gb375)); have n4_ := asd ((by rw [hg]; exact (below_size (skG HB.out GE374.out GE374.out)) : w.heap.size ≤ gb375)); have n5_ := asd ((by rw [hg]; exact Nat.ne_of_lt (blk_lt (g := gb374) (o := .cells #[.bool a0_0, .int .i64 a0_1, .int .i64 a0_2, .slice A0_3 l0_3.length c0_3] 36 (0, 0)) (skK BK374.out)) : gb374 ≠ gb375)); have n6_ := asd ((by rw [hg]; exact Nat.ne_of_gt (blk_lt (g := gb374) (o := .cells #[.bool a0_0, .int .i64 a0_1, .int .i64 a0_2, .slice A0_3 l0_3.length c0_3] 36 (0, 0)) (skK BK374.out)) : gb375 ≠ gb374)); clear BK374; clear HB; have BK374 := n0_; have HB := n1_; have BK375 := n2_; have GW375 := n3_; have GE375 := n4_; have NB374_375 := n5_; have NB375_374 := n6_; clear n0_ n1_ n2_ n3_ n4_ n5_ n6_; clear hb hbox hg; have hnb19 := NB374_375.out; have hnc19 := NB375_374.out; obtain ⟨hcz20_0, hcz20_1, hcz20_2, hcz20_3, hfz20_0, hfz20_1, hfz20_2, hfz20_3⟩ := bk4 BK374.out; obtain ⟨hcz21_0, hcz21_1, hcz21_2, hcz21_3, hfz21_0, hfz21_1, hfz21_2, hfz21_3⟩ := bk4 BK375.out))
   go_ret
   exact ⟨re, skG HB.out GE374.out GE375.out⟩
 ·
  rw [if_neg c3] at H
  have c3b0 : (a0_0 == a1_0) = false := by simpa using c3
  (try (have c3b1 : decide (a0_0 = a1_0) = false := by simpa using c3))
  (try (have c3b2 : (a0_0 == a1_0) = false := by simpa using c3))
  (try (have c3b3 : ¬ (a0_0 = a1_0) := by simpa using c3))
  clear c3
  obtain rfl := Option.some.inj H
  go_enter Try.func62, Try.ntmps62
  go_wp2_with (first | ((with_reducible refine gate_dst (N := 2) rfl ?_); refine box_event ?hg (N := 2) ?hd (cs := #[.bool a0_0, .int .i64 a0_1, .int .i64 a0_2, .slice A0_3 l0_3.length c0_3]) (t := 36) ?hr ?_; (case hd => rfl); (case hg => rfl); (case hr => first | (go_simp; done) | (go_simp; rfl)); intro gb374 hg w22 hbox hb; have n0_ := asd (below_step (skB HB.out) hb); have n1_ := asd (hbox); have n2_ := asd ((by rw [hg]; exact (below_size (skB HB.out)) : w.heap.size ≤ gb374)); have n3_ := asd ((by rw [hg]; exact (below_size (skB HB.out)) : w.heap.size ≤ gb374)); clear HB; have HB := n0_; have BK374 := n1_; have GW374 := n2_; have GE374 := n3_; clear n0_ n1_ n2_ n3_; clear hb hbox hg) | ((with_reducible refine gate_dst (N := 3) rfl ?_); refine box_event ?hg (N := 3) ?hd (cs := #[.bool a1_0, .int .i64 a1_1, .int .i64 a1_2, .slice A1_3 l1_3.length c1_3]) (t := 36) ?hr ?_; (case hd => rfl); (case hg => rfl); (case hr => first | (go_simp; done) | (go_simp; rfl)); intro gb375 hg w23 hbox hb; have n0_ := asd (blk_below (g := gb374) (o := .cells #[.bool a0_0, .int .i64 a0_1, .int .i64 a0_2, .slice A0_3 l0_3.length c0_3] 36 (0, 0)) (skK BK374.out) hb); have n1_ := asd (below_step (skG HB.out GE374.out GE374.out) hb); have n2_ := asd (hbox); have n3_ := asd ((by rw [hg]; exact (below_size (skG HB.out GE374.out GE374.out)) : w.heap.size ≤ gb375)); have n4_ := asd ((by rw [hg]; exact (below_size (skG HB.out GE374.out GE374.out)) : w.heap.size ≤ gb375)); have n5_ := asd ((by rw [hg]; exact Nat.ne_of_lt (blk_lt (g := gb374) (o := .cells #[.bool a0_0, .int .i64 a0_1, .int .i64 a0_2, .slice A0_3 l0_3.length c0_3] 36 (0, 0)) (skK BK374.out)) : gb374 ≠ gb375)); have n6_ := asd ((by rw [hg]; exact Nat.ne_of_gt (blk_lt (g := gb374) (o := .cells #[.bool a0_0, .int .i64 a0_1, .int .i64 a0_2, .slice A0_3 l0_3.length c0_3] 36 (0, 0)) (skK BK374.out)) : gb375 ≠ gb374)); clear BK374; clear HB; have BK374 := n0_; have HB := n1_; have BK375 := n2_; have GW375 := n3_; have GE375 := n4_; have NB374_375 := n5_; have NB375_374 := n6_; clear n0_ n1_ n2_ n3_ n4_ n5_ n6_; clear hb hbox hg; have hnb24 := NB374_375.out; have hnc24 := NB375_374.out; obtain ⟨hcz25_0, hcz25_1, hcz25_2, hcz25_3, hfz25_0, hfz25_1, hfz25_2, hfz25_3⟩ := bk4 BK374.out; obtain ⟨hcz26_0, hcz26_1, hcz26_2, hcz26_3, hfz26_0, hfz26_1, hfz26_2, hfz26_3⟩ := bk4 BK375.out))
  go_ret
  exact ⟨re, skG HB.out GE374.out GE375.out⟩
end Go.Proofs.Ytagdkmcgepidoaa.P
/- F9 -/
namespace Go.Proofs.Ytagdkmcgepidoaa.P
open Go.RowKit Go.Proofs.YtagdkmcgepidoaaW.PrintWords Go.Proofs.YtagdkmcgepidoaaW.PrintLast Go.Proofs.YtagdkmcgepidoaaW.PrintMore
attribute [local go_sem] max2_int min2_int max_two min_two max_three min_three max_four min_four   -- for this text's walks alone
set_option linter.unusedVariables false
set_option linter.unusedSimpArgs false
def event_ahead.f (a0_0 : Int) (a0_1 : Int) (a0_2 : Int) (a0_3 : Int) (a0_4 : Int) (a0_5 : Bool) (a0_6 : Int) (a0_7 : Int) (l0_8 : List (S70)) (a0_9 : Int) (a0_10 : Int) (a1_0 : Int) (a1_1 : Int) (a1_2 : Int) (a1_3 : Int) (a1_4 : Int) (a1_5 : Bool) (a1_6 : Int) (a1_7 : Int) (l1_8 : List (S70)) (a1_9 : Int) (a1_10 : Int) : Option (Bool) := if a0_10 ≥ 0 then (some (decide (a0_10 < a1_9))) else (some false)
set_option maxHeartbeats 8000000 in
set_option maxRecDepth 100000 in
theorem event_ahead.calls (a0_0 : Int) (a0_1 : Int) (a0_2 : Int) (a0_3 : Int) (a0_4 : Int) (a0_5 : Bool) (a0_6 : Int) (a0_7 : Int) (A0_8 : Option Addr) (c0_8 : Nat) (l0_8 : List (S70)) (a0_9 : Int) (a0_10 : Int) (a1_0 : Int) (a1_1 : Int) (a1_2 : Int) (a1_3 : Int) (a1_4 : Int) (a1_5 : Bool) (a1_6 : Int) (a1_7 : Int) (A1_8 : Option Addr) (c1_8 : Nat) (l1_8 : List (S70)) (a1_9 : Int) (a1_10 : Int) (r : Bool) (w : World) (hr0_8 : Kd.C k70 w A0_8 l0_8.length l0_8) (hc0_8 : l0_8.length ≤ c0_8) (hr1_8 : Kd.C k70 w A1_8 l1_8.length l1_8) (hc1_8 : l1_8.length ≤ c1_8) (h : event_ahead.f a0_0 a0_1 a0_2 a0_3 a0_4 a0_5 a0_6 a0_7 l0_8 a0_9 a0_10 a1_0 a1_1 a1_2 a1_3 a1_4 a1_5 a1_6 a1_7 l1_8 a1_9 a1_10 = some r) :
  Calls Try.prog 47 #[.agg #[.int .i64 a0_0, .int .i64 a0_1, .int .i64 a0_2, .int .i64 a0_3, .int .i64 a0_4, .bool a0_5, .int .i64 a0_6, .int .i64 a0_7, .slice A0_8 l0_8.length c0_8, .int .i64 a0_9, .int .i64 a0_10], .agg #[.int .i64 a1_0, .int .i64 a1_1, .int .i64 a1_2, .int .i64 a1_3, .int .i64 a1_4, .bool a1_5, .int .i64 a1_6, .int .i64 a1_7, .slice A1_8 l1_8.length c1_8, .int .i64 a1_9, .int .i64 a1_10]] w fun e w' => e = .returned (.bool r) ∧ Below w.heap.size w w' := by
 have hu38 := Try.underlying38
 have HR0_8 := asd hr0_8
 have HC0_8 := asd hc0_8
 clear hr0_8 hc0_8
 have HR1_8 := asd hr1_8
 have HC1_8 := asd hc1_8
 clear hr1_8 hc1_8
 have HB := asd (Below.refl w.heap.size w)
 have H : (if a0_10 ≥ 0 then (some (decide (a0_10 < a1_9))) else (some false)) = some r := h
 clear h
 by_cases c3 : a0_10 ≥ 0
 ·
  rw [if_pos c3] at H
  have c3b0 : decide (0 ≤ a0_10) = true := decide_eq_true c3
  clear c3
  obtain rfl := Option.some.inj H
  go_enter Try.func47, Try.ntmps47
  go_wp2_with (first | ((with_reducible refine gate_dst (N := 2) rfl ?_); refine box_event ?hg (N := 2) ?hd (cs := #[.int .i64 a0_0, .int .i64 a0_1, .int .i64 a0_2, .int .i64 a0_3, .int .i64 a0_4, .bool a0_5, .int .i64 a0_6, .int .i64 a0_7, .slice A0_8 l0_8.length c0_8, .int .i64 a0_9, .int .i64 a0_10]) (t := 38) ?hr ?_; (case hd => rfl); (case hg => rfl); (case hr => first | (go_simp; done) | (go_simp; rfl)); intro gb111 hg w4 hbox hb; have n0_ := asd (below_step (skB HB.out) hb); have n1_ := asd (hbox); have n2_ := asd ((by rw [hg]; exact (below_size (skB HB.out)) : w.heap.size ≤ gb111)); have n3_ := asd ((by rw [hg]; exact (below_size (skB HB.out)) : w.heap.size ≤ gb111)); clear HB; have HB := n0_; have BK111 := n1_; have GW111 := n2_; have GE111 := n3_; clear n0_ n1_ n2_ n3_; clear hb hbox hg) | ((with_reducible refine gate_dst (N := 3) rfl ?_); refine box_event ?hg (N := 3) ?hd (cs := #[.int .i64 a1_0, .int .i64 a1_1, .int .i64 a1_2, .int .i64 a1_3, .int .i64 a1_4, .bool a1_5, .int .i64 a1_6, .int .i64 a1_7, .slice A1_8 l1_8.length c1_8, .int .i64 a1_9, .int .i64 a1_10]) (t := 38) ?hr ?_; (case hd => rfl); (case hg => rfl); (case hr => first | (go_simp; done) | (go_simp; rfl)); intro gb112 hg w5 hbox hb; have n0_ := asd (blk_below (g := gb111) (o := .cells #[.int .i64 a0_0, .int .i64 a0_1, .int .i64 a0_2, .int .i64 a0_3, .int .i64 a0_4, .bool a0_5, .int .i64 a0_6, .int .i64 a0_7, .slice A0_8 l0_8.length c0_8, .int .i64 a0_9, .int .i64 a0_10] 38 (0, 0)) (skK BK111.out) hb); have n1_ := asd (below_step (skG HB.out GE111.out GE111.out) hb); have n2_ := asd (hbox); have n3_ := asd ((by rw [hg]; exact (below_size (skG HB.out GE111.out GE111.out)) : w.heap.size ≤ gb112)); have n4_ := asd ((by rw [hg]; exact (below_size (skG HB.out GE111.out GE111.out)) : w.heap.size ≤ gb112)); have n5_ := asd ((by rw [hg]; exact Nat.ne_of_lt (blk_lt (g := gb111) (o := .cells #[.int .i64 a0_0, .int .i64 a0_1, .int .i64 a0_2, .int .i64 a0_3, .int .i64 a0_4, .bool a0_5, .int .i64 a0_6, .int .i64 a0_7, .slice A0_8 l0_8.length c0_8, .int .i64 a0_9, .int .i64 a0_10] 38 (0, 0)) (skK BK111.out)) : gb111 ≠ gb112)); have n6_ := asd ((by rw [hg]; exact Nat.ne_of_gt (blk_lt (g := gb111) (o := .cells #[.int .i64 a0_0, .int .i64 a0_1, .int .i64 a0_2, .int .i64 a0_3, .int .i64 a0_4, .bool a0_5, .int .i64 a0_6, .int .i64 a0_7, .slice A0_8 l0_8.length c0_8, .int .i64 a0_9, .int .i64 a0_10] 38 (0, 0)) (skK BK111.out)) : gb112 ≠ gb111)); clear BK111; clear HB; have BK111 := n0_; have HB := n1_; have BK112 := n2_; have GW112 := n3_; have GE112 := n4_; have NB111_112 := n5_; have NB112_111 := n6_; clear n0_ n1_ n2_ n3_ n4_ n5_ n6_; clear hb hbox hg; have hnb6 := NB111_112.out; have hnc6 := NB112_111.out; have hcz7_0 : w5.cell? ⟨gb111, 0, none⟩ = some (.int .i64 a0_0) := (blk_cell BK111.out 0).trans rfl; have hcz7_1 : w5.cell? ⟨gb111, 1, none⟩ = some (.int .i64 a0_1) := (blk_cell BK111.out 1).trans rfl; have hcz7_2 : w5.cell? ⟨gb111, 2, none⟩ = some (.int .i64 a0_2) := (blk_cell BK111.out 2).trans rfl; have hcz7_3 : w5.cell? ⟨gb111, 3, none⟩ = some (.int .i64 a0_3) := (blk_cell BK111.out 3).trans rfl; have hcz7_4 : w5.cell? ⟨gb111, 4, none⟩ = some (.int .i64 a0_4) := (blk_cell BK111.out 4).trans rfl; have hcz7_5 : w5.cell? ⟨gb111, 5, none⟩ = some (.bool a0_5) := (blk_cell BK111.out 5).trans rfl; have hcz7_6 : w5.cell? ⟨gb111, 6, none⟩ = some (.int .i64 a0_6) := (blk_cell BK111.out 6).trans rfl; have hcz7_7 : w5.cell? ⟨gb111, 7, none⟩ = some (.int .i64 a0_7) := (blk_cell BK111.out 7).trans rfl; have hcz7_8 : w5.cell? ⟨gb111, 8, none⟩ = some (.slice A0_8 l0_8.length c0_8) := (blk_cell BK111.out 8).trans rfl; have hcz7_9 : w5.cell? ⟨gb111, 9, none⟩ = some (.int .i64 a0_9) := (blk_cell BK111.out 9).trans rfl; have hcz7_10 : w5.cell? ⟨gb111, 10, none⟩ = some (.int .i64 a0_10) := (blk_cell BK111.out 10).trans rfl; have hfz7_0 := blk_frozen BK111.out 0; have hfz7_1 := blk_frozen BK111.out 1; have hfz7_2 := blk_frozen BK111.out 2; have hfz7_3 := blk_frozen BK111.out 3; have hfz7_4 := blk_frozen BK111.out 4; have hfz7_5 := blk_frozen BK111.out 5; have hfz7_6 := blk_frozen BK111.out 6; have hfz7_7 := blk_frozen BK111.out 7; have hfz7_8 := blk_frozen BK111.out 8; have hfz7_9 := blk_frozen BK111.out 9; have hfz7_10 := blk_frozen BK111.out 10; have hcz8_0 : w5.cell? ⟨gb112, 0, none⟩ = some (.int .i64 a1_0) := (blk_cell BK112.out 0).trans rfl; have hcz8_1 : w5.cell? ⟨gb112, 1, none⟩ = some (.int .i64 a1_1) := (blk_cell BK112.out 1).trans rfl; have hcz8_2 : w5.cell? ⟨gb112, 2, none⟩ = some (.int .i64 a1_2) := (blk_cell BK112.out 2).trans rfl; have hcz8_3 : w5.cell? ⟨gb112, 3, none⟩ = some (.int .i64 a1_3) := (blk_cell BK112.out 3).trans rfl; have hcz8_4 : w5.cell? ⟨gb112, 4, none⟩ = some (.int .i64 a1_4) := (blk_cell BK112.out 4).trans rfl; have hcz8_5 : w5.cell? ⟨gb112, 5, none⟩ = some (.bool a1_5) := (blk_cell BK112.out 5).trans rfl; have hcz8_6 : w5.cell? ⟨gb112, 6, none⟩ = some (.int .i64 a1_6) := (blk_cell BK112.out 6).trans rfl; have hcz8_7 : w5.cell? ⟨gb112, 7, none⟩ = some (.int .i64 a1_7) := (blk_cell BK112.out 7).trans rfl; have hcz8_8 : w5.cell? ⟨gb112, 8, none⟩ = some (.slice A1_8 l1_8.length c1_8) := (blk_cell BK112.out 8).trans rfl; have hcz8_9 : w5.cell? ⟨gb112, 9, none⟩ = some (.int .i64 a1_9) := (blk_cell BK112.out 9).trans rfl; have hcz8_10 : w5.cell? ⟨gb112, 10, none⟩ = some (.int .i64 a1_10) := (blk_cell BK112.out 10).trans rfl; have hfz8_0 := blk_frozen BK112.out 0; have hfz8_1 := blk_frozen BK112.out 1; have hfz8_2 := blk_frozen BK112.out 2; have hfz8_3 := blk_frozen BK112.out 3; have hfz8_4 := blk_frozen BK112.out 4; have hfz8_5 := blk_frozen BK112.out 5; have hfz8_6 := blk_frozen BK112.out 6; have hfz8_7 := blk_frozen BK112.out 7; have hfz8_8 := blk_frozen BK112.out 8; have hfz8_9 := blk_frozen BK112.out 9; have hfz8_10 := blk_frozen BK112.out 10))
  go_ret
  exact ⟨re, skG HB.out GE111.out GE112.out⟩
 ·
  rw [if_neg c3] at H
  have c3b0 : decide (0 ≤ a0_10) = false := decide_eq_false c3
  clear c3
  obtain rfl := Option.some.inj H
  go_enter Try.func47, Try.ntmps47
  go_wp2_with (first | ((with_reducible refine gate_dst (N := 2) rfl ?_); refine box_event ?hg (N := 2) ?hd (cs := #[.int .i64 a0_0, .int .i64 a0_1, .int .i64 a0_2, .int .i64 a0_3, .int .i64 a0_4, .bool a0_5, .int .i64 a0_6, .int .i64 a0_7, .slice A0_8 l0_8.length c0_8, .int .i64 a0_9, .int .i64 a0_10]) (t := 38) ?hr ?_; (case hd => rfl); (case hg => rfl); (case hr => first | (go_simp; done) | (go_simp; rfl)); intro gb111 hg w9 hbox hb; have n0_ := asd (below_step (skB HB.out) hb); have n1_ := asd (hbox); have n2_ := asd ((by rw [hg]; exact (below_size (skB HB.out)) : w.heap.size ≤ gb111)); have n3_ := asd ((by rw [hg]; exact (below_size (skB HB.out)) : w.heap.size ≤ gb111)); clear HB; have HB := n0_; have BK111 := n1_; have GW111 := n2_; have GE111 := n3_; clear n0_ n1_ n2_ n3_; clear hb hbox hg) | ((with_reducible refine gate_dst (N := 3) rfl ?_); refine box_event ?hg (N := 3) ?hd (cs := #[.int .i64 a1_0, .int .i64 a1_1, .int .i64 a1_2, .int .i64 a1_3, .int .i64 a1_4, .bool a1_5, .int .i64 a1_6, .int .i64 a1_7, .slice A1_8 l1_8.length c1_8, .int .i64 a1_9, .int .i64 a1_10]) (t := 38) ?hr ?_; (case hd => rfl); (case hg => rfl); (case hr => first | (go_simp; done) | (go_simp; rfl)); intro gb112 hg w10 hbox hb; have n0_ := asd (blk_below (g := gb111) (o := .cells #[.int .i64 a0_0, .int .i64 a0_1, .int .i64 a0_2, .int .i64 a0_3, .int .i64 a0_4, .bool a0_5, .int .i64 a0_6, .int .i64 a0_7, .slice A0_8 l0_8.length c0_8, .int .i64 a0_9, .int .i64 a0_10] 38 (0, 0)) (skK BK111.out) hb); have n1_ := asd (below_step (skG HB.out GE111.out GE111.out) hb); have n2_ := asd (hbox); have n3_ := asd ((by rw [hg]; exact (below_size (skG HB.out GE111.out GE111.out)) : w.heap.size ≤ gb112)); have n4_ := asd ((by rw [hg]; exact (below_size (skG HB.out GE111.out GE111.out)) : w.heap.size ≤ gb112)); have n5_ := asd ((by rw [hg]; exact Nat.ne_of_lt (blk_lt (g := gb111) (o := .cells #[.int .i64 a0_0, .int .i64 a0_1, .int .i64 a0_2, .int .i64 a0_3, .int .i64 a0_4, .bool a0_5, .int .i64 a0_6, .int .i64 a0_7, .slice A0_8 l0_8.length c0_8, .int .i64 a0_9, .int .i64 a0_10] 38 (0, 0)) (skK BK111.out)) : gb111 ≠ gb112)); have n6_ := asd ((by rw [hg]; exact Nat.ne_of_gt (blk_lt (g := gb111) (o := .cells #[.int .i64 a0_0, .int .i64 a0_1, .int .i64 a0_2, .int .i64 a0_3, .int .i64 a0_4, .bool a0_5, .int .i64 a0_6, .int .i64 a0_7, .slice A0_8 l0_8.length c0_8, .int .i64 a0_9, .int .i64 a0_10] 38 (0, 0)) (skK BK111.out)) : gb112 ≠ gb111)); clear BK111; clear HB; have BK111 := n0_; have HB := n1_; have BK112 := n2_; have GW112 := n3_; have GE112 := n4_; have NB111_112 := n5_; have NB112_111 := n6_; clear n0_ n1_ n2_ n3_ n4_ n5_ n6_; clear hb hbox hg; have hnb11 := NB111_112.out; have hnc11 := NB112_111.out; have hcz12_0 : w10.cell? ⟨gb111, 0, none⟩ = some (.int .i64 a0_0) := (blk_cell BK111.out 0).trans rfl; have hcz12_1 : w10.cell? ⟨gb111, 1, none⟩ = some (.int .i64 a0_1) := (blk_cell BK111.out 1).trans rfl; have hcz12_2 : w10.cell? ⟨gb111, 2, none⟩ = some (.int .i64 a0_2) := (blk_cell BK111.out 2).trans rfl; have hcz12_3 : w10.cell? ⟨gb111, 3, none⟩ = some (.int .i64 a0_3) := (blk_cell BK111.out 3).trans rfl; have hcz12_4 : w10.cell? ⟨gb111, 4, none⟩ = some (.int .i64 a0_4) := (blk_cell BK111.out 4).trans rfl; have hcz12_5 : w10.cell? ⟨gb111, 5, none⟩ = some (.bool a0_5) := (blk_cell BK111.out 5).trans rfl; have hcz12_6 : w10.cell? ⟨gb111, 6, none⟩ = some (.int .i64 a0_6) := (blk_cell BK111.out 6).trans rfl; have hcz12_7 : w10.cell? ⟨gb111, 7, none⟩ = some (.int .i64 a0_7) := (blk_cell BK111.out 7).trans rfl; have hcz12_8 : w10.cell? ⟨gb111, 8, none⟩ = some (.slice A0_8 l0_8.length c0_8) := (blk_cell BK111.out 8).trans rfl; have hcz12_9 : w10.cell? ⟨gb111, 9, none⟩ = some (.int .i64 a0_9) := (blk_cell BK111.out 9).trans rfl; have hcz12_10 : w10.cell? ⟨gb111, 10, none⟩ = some (.int .i64 a0_10) := (blk_cell BK111.out 10).trans rfl; have hfz12_0 := blk_frozen BK111.out 0; have hfz12_1 := blk_frozen BK111.out 1; have hfz12_2 := blk_frozen BK111.out 2; have hfz12_3 := blk_frozen BK111.out 3; have hfz12_4 := blk_frozen BK111.out 4; have hfz12_5 := blk_frozen BK111.out 5; have hfz12_6 := blk_frozen BK111.out 6; have hfz12_7 := blk_frozen BK111.out 7; have hfz12_8 := blk_frozen BK111.out 8; have hfz12_9 := blk_frozen BK111.out 9; have hfz12_10 := blk_frozen BK111.out 10))
  go_ret
  exact ⟨re, skG HB.out GE111.out GE112.out⟩
end Go.Proofs.Ytagdkmcgepidoaa.P
/- F14 -/
namespace Go.Proofs.Ytagdkmcgepidoaa.P
open Go.RowKit Go.Proofs.YtagdkmcgepidoaaW.PrintWords Go.Proofs.YtagdkmcgepidoaaW.PrintLast Go.Proofs.YtagdkmcgepidoaaW.PrintMore
attribute [local go_sem] max2_int min2_int max_two min_two max_three min_three max_four min_four   -- for this text's walks alone
set_option linter.unusedVariables false
set_option linter.unusedSimpArgs false
def larchlaw05_sample.f  : Option ((List (S67))) := some (([(⟨0, false, (⟨1, 5, 0, 0⟩ : S33), (⟨false, 0, 0, ([] : List (S70))⟩ : S36)⟩ : S67), (⟨1, false, (⟨2, 5, 7, 0⟩ : S33), (⟨false, 0, 0, ([] : List (S70))⟩ : S36)⟩ : S67), (⟨1, true, (⟨2, 5, 7, 0⟩ : S33), (⟨false, 0, 0, ([] : List (S70))⟩ : S36)⟩ : S67), (⟨0, true, (⟨1, 5, 0, 0⟩ : S33), (⟨true, 0, 7, ([] : List (S70))⟩ : S36)⟩ : S67)] : List (S67)))
set_option maxHeartbeats 8000000 in
set_option maxRecDepth 100000 in
theorem larchlaw05_sample.calls  (r : List (S67)) (w : World) (h : larchlaw05_sample.f  = some r) :
  Calls Try.prog 45 #[] w fun e w' => ∃ v0_ : Value, e = .returned (v0_) ∧ Kd.S k67 67 w' w.heap.size (fun _ => True) v0_ r ∧ Below w.heap.size w w' := by
 have hu33 := Try.underlying33
 have hu67 := Try.underlying67
 have hu36 := Try.underlying36
 have HB := asd (Below.refl w.heap.size w)
 have H : (some (([(⟨0, false, (⟨1, 5, 0, 0⟩ : S33), (⟨false, 0, 0, ([] : List (S70))⟩ : S36)⟩ : S67), (⟨1, false, (⟨2, 5, 7, 0⟩ : S33), (⟨false, 0, 0, ([] : List (S70))⟩ : S36)⟩ : S67), (⟨1, true, (⟨2, 5, 7, 0⟩ : S33), (⟨false, 0, 0, ([] : List (S70))⟩ : S36)⟩ : S67), (⟨0, true, (⟨1, 5, 0, 0⟩ : S33), (⟨true, 0, 7, ([] : List (S70))⟩ : S36)⟩ : S67)] : List (S67)))) = some r := h
 clear h
 obtain ⟨y122, hy122⟩ : ∃ y_ : List (S67), y_ = (([(⟨0, false, (⟨1, 5, 0, 0⟩ : S33), (⟨false, 0, 0, ([] : List (S70))⟩ : S36)⟩ : S67), (⟨1, false, (⟨2, 5, 7, 0⟩ : S33), (⟨false, 0, 0, ([] : List (S70))⟩ : S36)⟩ : S67), (⟨1, true, (⟨2, 5, 7, 0⟩ : S33), (⟨false, 0, 0, ([] : List (S70))⟩ : S36)⟩ : S67), (⟨0, true, (⟨1, 5, 0, 0⟩ : S33), (⟨true, 0, 7, ([] : List (S70))⟩ : S36)⟩ : S67)] : List (S67))) := ⟨_, rfl⟩
 replace H : (some y122) = some r := by first | (rw [hy122]; with_reducible exact H) | (have H2_ := (Option.bind_some _ _).symm.trans H; rw [hy122]; with_reducible exact H2_) | (have H2_ := (Option.bind_some _ _).symm.trans H; with_reducible exact H2_) | with_reducible exact H | (rw [hy122]; exact H) | exact H
 have Ny122 := asd hy122
 clear hy122
 obtain rfl := Option.some.inj H
 go_enter Try.func45, Try.ntmps45
 go_wp2_with (first | ((with_reducible refine gate_dst (N := 1) rfl ?_); refine box_event ?hg (N := 1) ?hd (cs := #[.int .i64 0, .int .i64 0, .int .i64 0, .int .i64 0]) (t := 33) ?hr ?_; (case hd => rfl); (case hg => rfl); (case hr => first | (go_simp; done) | (go_simp; rfl)); intro gb120 hg w1 hbox hb; have n0_ := asd (below_step (skB HB.out) hb); have n1_ := asd (hbox); have n2_ := asd ((by rw [hg]; exact (below_size (skB HB.out)) : w.heap.size ≤ gb120)); have n3_ := asd ((by rw [hg]; exact (below_size (skB HB.out)) : w.heap.size ≤ gb120)); clear HB; have HB := n0_; have BK120 := n1_; have GW120 := n2_; have GE120 := n3_; clear n0_ n1_ n2_ n3_; clear hb hbox hg) | ((with_reducible refine gate_dst (N := 2) rfl ?_); refine box_event ?hg (N := 2) ?hd (cs := #[.int .i64 0, .int .i64 0, .int .i64 0, .int .i64 0]) (t := 33) ?hr ?_; (case hd => rfl); (case hg => rfl); (case hr => first | (go_simp; done) | (go_simp; rfl)); intro gb121 hg w2 hbox hb; have n0_ := asd (blk_below (g := gb120) (o := .cells #[.int .i64 0, .int .i64 0, .int .i64 0, .int .i64 0] 33 (0, 0)) (skK BK120.out) hb); have n1_ := asd (below_step (skG HB.out GE120.out GE120.out) hb); have n2_ := asd (hbox); have n3_ := asd ((by rw [hg]; exact (below_size (skG HB.out GE120.out GE120.out)) : w.heap.size ≤ gb121)); have n4_ := asd ((by rw [hg]; exact (below_size (skG HB.out GE120.out GE120.out)) : w.heap.size ≤ gb121)); have n5_ := asd ((by rw [hg]; exact Nat.ne_of_lt (blk_lt (g := gb120) (o := .cells #[.int .i64 0, .int .i64 0, .int .i64 0, .int .i64 0] 33 (0, 0)) (skK BK120.out)) : gb120 ≠ gb121)); have n6_ := asd ((by rw [hg]; exact Nat.ne_of_gt (blk_lt (g := gb120) (o := .cells #[.int .i64 0, .int .i64 0, .int .i64 0, .int .i64 0] 33 (0, 0)) (skK BK120.out)) : gb121 ≠ gb120)); clear BK120; clear HB; have BK120 := n0_; have HB := n1_; have BK121 := n2_; have GW121 := n3_; have GE121 := n4_; have NB120_121 := n5_; have NB121_120 := n6_; clear n0_ n1_ n2_ n3_ n4_ n5_ n6_; clear hb hbox hg; have hnb3 := NB120_121.out; have hnc3 := NB121_120.out; obtain ⟨hcz4_0, hcz4_1, hcz4_2, hcz4_3, hfz4_0, hfz4_1, hfz4_2, hfz4_3⟩ := bk4 BK120.out; obtain ⟨hcz5_0, hcz5_1, hcz5_2, hcz5_3, hfz5_0, hfz5_1, hfz5_2, hfz5_3⟩ := bk4 BK121.out) | ((with_reducible refine gate_dst (N := 14) rfl ?_); refine Kd.S_lit k67 _ 67 ?hg (N := 14) ?hd (xs := ([(⟨0, false, (⟨1, 5, 0, 0⟩ : S33), (⟨false, 0, 0, ([] : List (S70))⟩ : S36)⟩ : S67), (⟨1, false, (⟨2, 5, 7, 0⟩ : S33), (⟨false, 0, 0, ([] : List (S70))⟩ : S36)⟩ : S67), (⟨1, true, (⟨2, 5, 7, 0⟩ : S33), (⟨false, 0, 0, ([] : List (S70))⟩ : S36)⟩ : S67), (⟨0, true, (⟨1, 5, 0, 0⟩ : S33), (⟨true, 0, 7, ([] : List (S70))⟩ : S36)⟩ : S67)] : List (S67))) (inner := [.int .i64 0, .bool false, .int .i64 1, .int .i64 5, .int .i64 0, .int .i64 0, .bool false, .int .i64 0, .int .i64 0, .slice none 0 0, .int .i64 1, .bool false, .int .i64 2, .int .i64 5, .int .i64 7, .int .i64 0, .bool false, .int .i64 0, .int .i64 0, .slice none 0 0, .int .i64 1, .bool true, .int .i64 2, .int .i64 5, .int .i64 7, .int .i64 0, .bool false, .int .i64 0, .int .i64 0, .slice none 0 0, .int .i64 0, .bool true, .int .i64 1, .int .i64 5, .int .i64 0, .int .i64 0, .bool true, .int .i64 0, .int .i64 7, .slice none 0 0]) (ok := fun _ => True) (okp := fun _ => True) ?hr ?hp (fun _ hk => hk) trivial (Below.refl _ _) (Nat.le_refl _) (by simp) ?_; (case hd => rfl); (case hg => rfl); (case hr => first | (go_simp; done) | (go_simp; rfl)); (case hp => exact (Reps.c10 (show Kd.M k67 _ _ _ (⟨0, false, (⟨1, 5, 0, 0⟩ : S33), (⟨false, 0, 0, ([] : List (S70))⟩ : S36)⟩ : S67) [.int .i64 0, .bool false, .int .i64 1, .int .i64 5, .int .i64 0, .int .i64 0, .bool false, .int .i64 0, .int .i64 0, .slice none 0 0] from (k67_mkM _ _ _ (⟨0, false, (⟨1, 5, 0, 0⟩ : S33), (⟨false, 0, 0, ([] : List (S70))⟩ : S36)⟩ : S67) (Kd.R_nil _ _ _ _ _))) (Reps.c10 (show Kd.M k67 _ _ _ (⟨1, false, (⟨2, 5, 7, 0⟩ : S33), (⟨false, 0, 0, ([] : List (S70))⟩ : S36)⟩ : S67) [.int .i64 1, .bool false, .int .i64 2, .int .i64 5, .int .i64 7, .int .i64 0, .bool false, .int .i64 0, .int .i64 0, .slice none 0 0] from (k67_mkM _ _ _ (⟨1, false, (⟨2, 5, 7, 0⟩ : S33), (⟨false, 0, 0, ([] : List (S70))⟩ : S36)⟩ : S67) (Kd.R_nil _ _ _ _ _))) (Reps.c10 (show Kd.M k67 _ _ _ (⟨1, true, (⟨2, 5, 7, 0⟩ : S33), (⟨false, 0, 0, ([] : List (S70))⟩ : S36)⟩ : S67) [.int .i64 1, .bool true, .int .i64 2, .int .i64 5, .int .i64 7, .int .i64 0, .bool false, .int .i64 0, .int .i64 0, .slice none 0 0] from (k67_mkM _ _ _ (⟨1, true, (⟨2, 5, 7, 0⟩ : S33), (⟨false, 0, 0, ([] : List (S70))⟩ : S36)⟩ : S67) (Kd.R_nil _ _ _ _ _))) (Reps.c10 (show Kd.M k67 _ _ _ (⟨0, true, (⟨1, 5, 0, 0⟩ : S33), (⟨true, 0, 7, ([] : List (S70))⟩ : S36)⟩ : S67) [.int .i64 0, .bool true, .int .i64 1, .int .i64 5, .int .i64 0, .int .i64 0, .bool true, .int .i64 0, .int .i64 7, .slice none 0 0] from (k67_mkM _ _ _ (⟨0, true, (⟨1, 5, 0, 0⟩ : S33), (⟨true, 0, 7, ([] : List (S70))⟩ : S36)⟩ : S67) (Kd.R_nil _ _ _ _ _))) (Reps.none _ _)))))); intro v123 w6 ho7 hb hg_ hnew_; clear hg_ hnew_; (first | rw [← Ny122.out] at ho7 | (simp only [Int.reduceToNat] at ho7; rw [← Ny122.out] at ho7)); have n0_ := asd (Kd.S_lower ho7 (below_size (skG HB.out GE120.out GE121.out))); have n1_ := asd (blk_below (g := gb120) (o := .cells #[.int .i64 1, .int .i64 5, .int .i64 0, .int .i64 0] 33 (0, 0)) (by refine skk ?_; refine blk_far ?_ NB120_121.out _; refine skk ?_; refine blk_far ?_ NB120_121.out _; refine skk ?_; refine blk_far ?_ NB120_121.out _; refine skk ?_; refine blk_far ?_ NB120_121.out _; refine skk ?_; refine blk_put (cs := #[.int .i64 1, .int .i64 5, .int .i64 0, .int .i64 0]) ?_ 3 _ rfl; refine skk ?_; refine blk_put (cs := #[.int .i64 1, .int .i64 5, .int .i64 0, .int .i64 0]) ?_ 2 _ rfl; refine skk ?_; refine blk_put (cs := #[.int .i64 1, .int .i64 0, .int .i64 0, .int .i64 0]) ?_ 1 _ rfl; refine skk ?_; refine blk_put (cs := #[.int .i64 0, .int .i64 0, .int .i64 0, .int .i64 0]) ?_ 0 _ rfl; refine skk ?_; exact BK120.out) hb); have n2_ := asd (blk_below (g := gb121) (o := .cells #[.int .i64 2, .int .i64 5, .int .i64 7, .int .i64 0] 33 (0, 0)) (by refine skk ?_; refine blk_put (cs := #[.int .i64 2, .int .i64 5, .int .i64 7, .int .i64 0]) ?_ 3 _ rfl; refine skk ?_; refine blk_put (cs := #[.int .i64 2, .int .i64 5, .int .i64 0, .int .i64 0]) ?_ 2 _ rfl; refine skk ?_; refine blk_put (cs := #[.int .i64 2, .int .i64 0, .int .i64 0, .int .i64 0]) ?_ 1 _ rfl; refine skk ?_; refine blk_put (cs := #[.int .i64 0, .int .i64 0, .int .i64 0, .int .i64 0]) ?_ 0 _ rfl; refine skk ?_; refine blk_far ?_ NB121_120.out _; refine skk ?_; refine blk_far ?_ NB121_120.out _; refine skk ?_; refine blk_far ?_ NB121_120.out _; refine skk ?_; refine blk_far ?_ NB121_120.out _; refine skk ?_; exact BK121.out) hb); have n3_ := asd (below_step (skG HB.out GE120.out GE121.out) hb); clear BK120; clear BK121; clear HB; have HO124 := n0_; have BK120 := n1_; have BK121 := n2_; have HB := n3_; clear n0_ n1_ n2_ n3_; clear hb ho7))
 go_ret
 exact ⟨_, re, by (with_reducible repeat (first | apply Kd.S_alloc | apply Kd.S_drewN | apply Kd.S_drew)); exact HO124.out, skG HB.out GE120.out GE121.out⟩
end Go.Proofs.Ytagdkmcgepidoaa.P
/- F32 -/
namespace Go.Proofs.Ytagdkmcgepidoaa.P
open Go.RowKit Go.Proofs.YtagdkmcgepidoaaW.PrintWords Go.Proofs.YtagdkmcgepidoaaW.PrintLast Go.Proofs.YtagdkmcgepidoaaW.PrintMore
attribute [local go_sem] max2_int min2_int max_two min_two max_three min_three max_four min_four   -- for this text's walks alone
set_option linter.unusedVariables false
set_option linter.unusedSimpArgs false
def larchref05_CopyEvents.l0 : Nat → List (S67) → List (S67) → Int → Option ((List (S67)))
 | 0, _, _, _ => none
 | k + 1, x0, x3, x4 => if x4 < (x0.length : Int) then (if 0 ≤ x4 then ((larchref05_CopyRet.f ((J67 x0 x4).f3.f0) ((J67 x0 x4).f3.f1) ((J67 x0 x4).f3.f2) ((J67 x0 x4).f3.f3)).bind fun bt249 => (if x3.length < 1466015503701 then (larchref05_CopyEvents.l0 k x0 (x3 ++ [(⟨(J67 x0 x4).f0, (J67 x0 x4).f1, (⟨(J67 x0 x4).f2.f0, (J67 x0 x4).f2.f1, (J67 x0 x4).f2.f2, (J67 x0 x4).f2.f3⟩ : S33), (⟨bt249.1, bt249.2.1, bt249.2.2.1, bt249.2.2.2⟩ : S36)⟩ : S67)]) (wrap64 (x4 + 1))) else (none))) else (none)) else (some x3)
def larchref05_CopyEvents.f (k : Nat) (l0 : List (S67)) : Option ((List (S67))) := larchref05_CopyEvents.l0 k l0 ([] : List (S67)) 0
set_option maxHeartbeats 8000000 in
set_option maxRecDepth 100000 in
theorem larchref05_CopyEvents.calls (k : Nat) (A0 : Option Addr) (c0 : Nat) (l0 : List (S67)) (r : List (S67)) (w : World) (hr0 : Kd.C k67 w A0 l0.length l0) (hc0 : l0.length ≤ c0) (h : larchref05_CopyEvents.f k l0 = some r) :
  Calls Try.prog 43 #[.slice A0 l0.length c0] w fun e w' => ∃ v0_ : Value, e = .returned (v0_) ∧ Kd.S k67 67 w' w.heap.size (fun _ => True) v0_ r ∧ Below w.heap.size w w' := by
 have hu67 := Try.underlying67
 have hu36 := Try.underlying36
 have HR0 := asd hr0
 have HC0 := asd hc0
 clear hr0 hc0
 have HB := asd (Below.refl w.heap.size w)
 have H : (larchref05_CopyEvents.l0 k l0 ([] : List (S67)) 0) = some r := h
 clear h
 have H' := asd H
 clear H
 go_enter Try.func43, Try.ntmps43
 go_wp2
 go_loopg [3, 4] k (fun kq v3 v4 w' => ∃ (x3_1 : List (S67)) (x4_1 : Int), v4 = .int .i64 x4_1 ∧ Aside0 (larchref05_CopyEvents.l0 kq l0 x3_1 x4_1 = some r) ∧ Aside0 (kq ≤ k) ∧ Aside0 (Kd.S k67 67 w' w.heap.size (fun _ => True) v3 x3_1) ∧ Aside0 (Below w.heap.size w w'))
 case atStart => exact ⟨(([] : List (S67))), (0), rs, H', ⟨Nat.le_refl _⟩, ⟨by first | exact Kd.S_nil _ _ _ _ _ | exact Kd.N_nil _ _ _ _ _ | exact Kd.V_nil _ _ _ _ _ | exact Kd.Q_nil _ _ _ _ _ | exact Kd.R_nil _ _ _ _ _⟩, ⟨skB HB.out⟩⟩
 case round =>
  clear H'
  obtain ⟨x3_1, x4_1, rfl, HA, HK1, HO_3, HB⟩ := hrel
  cases gk with
  | zero => exact absurd HA.out (by simp [larchref05_CopyEvents.l0])
  | succ k1 =>
   have H := HA.out
   clear HA
   simp only [larchref05_CopyEvents.l0] at H
   by_cases c2 : x4_1 < (l0.length : Int)
   ·
    rw [if_pos c2] at H
    have c2b0 : decide (x4_1 < (l0.length : Int)) = true := decide_eq_true c2
    clear c2
    by_cases c3 : 0 ≤ x4_1
    ·
     rw [if_pos c3] at H
     have c3b0 : decide (0 ≤ x4_1) = true := decide_eq_true c3
     clear c3
     replace H := Option.bind_eq_some_iff.mp H
     obtain ⟨⟨t249, t250, t251, t252⟩, A40, H⟩ := H
     replace H : (if x3_1.length < 1466015503701 then (larchref05_CopyEvents.l0 k1 l0 (x3_1 ++ [(⟨(J67 l0 x4_1).f0, (J67 l0 x4_1).f1, (⟨(J67 l0 x4_1).f2.f0, (J67 l0 x4_1).f2.f1, (J67 l0 x4_1).f2.f2, (J67 l0 x4_1).f2.f3⟩ : S33), (⟨t249, t250, t251, t252⟩ : S36)⟩ : S67)]) (wrap64 (x4_1 + 1))) else (none)) = some r := H
     have A4 := asd A40
     clear A40
     by_cases c5 : x3_1.length < 1466015503701
     ·
      rw [if_pos c5] at H
      have LMc5 := asd c5
      clear c5
      obtain ⟨y255, hy255⟩ : ∃ y_ : List (S67), y_ = (x3_1 ++ [(⟨(J67 l0 x4_1).f0, (J67 l0 x4_1).f1, (⟨(J67 l0 x4_1).f2.f0, (J67 l0 x4_1).f2.f1, (J67 l0 x4_1).f2.f2, (J67 l0 x4_1).f2.f3⟩ : S33), (⟨t249, t250, t251, t252⟩ : S36)⟩ : S67)]) := ⟨_, rfl⟩
      replace H : (larchref05_CopyEvents.l0 k1 l0 y255 (wrap64 (x4_1 + 1))) = some r := by first | (rw [hy255]; with_reducible exact H) | (have H2_ := (Option.bind_some _ _).symm.trans H; rw [hy255]; with_reducible exact H2_) | (have H2_ := (Option.bind_some _ _).symm.trans H; with_reducible exact H2_) | with_reducible exact H | (rw [hy255]; exact H) | exact H
      have Ny255 := asd hy255
      clear hy255
      have H' := asd H
      clear H
      have p247 : 0 ≤ (x4_1 : Int) := dt
      have q247 : x4_1 < (l0.length : Int) := dt
      obtain ⟨ad247, A247_9, c247_9, e247, hx247_0, hx247_1, hx247_2, hx247_3, hx247_4, hx247_5, hx247_6, hx247_7, hx247_8, hx247_9, hl247_9, hi247_9⟩ := at_T67 HR0.out x4_1 p247 q247
      cases e247
      replace hx247_0 := skc HB.out hx247_0
      replace hx247_1 := skc HB.out hx247_1
      replace hx247_2 := skc HB.out hx247_2
      replace hx247_3 := skc HB.out hx247_3
      replace hx247_4 := skc HB.out hx247_4
      replace hx247_5 := skc HB.out hx247_5
      replace hx247_6 := skc HB.out hx247_6
      replace hx247_7 := skc HB.out hx247_7
      replace hx247_8 := skc HB.out hx247_8
      replace hx247_9 := skc HB.out hx247_9
      have HR247_9 := asd hi247_9
      have HC247_9 := asd hl247_9
      clear hi247_9 hl247_9
      replace p247 := eq_true p247
      replace q247 := eq_true q247
      go_wp2_with (first | ((with_reducible refine gate_dst (N := 5) rfl ?_); refine box_event ?hg (N := 5) ?hd (cs := #[.int .i64 0, .bool false, .int .i64 0, .int .i64 0, .int .i64 0, .int .i64 0, .bool false, .int .i64 0, .int .i64 0, .slice none 0 0]) (t := 67) ?hr ?_; (case hd => rfl); (case hg => rfl); (case hr => first | (go_simp; done) | (go_simp; rfl)); intro gb248 hg w6 hbox hb; have n0_ := asd (Kd.S_below (Kd.S_elderB (by (with_reducible repeat (first | apply Kd.S_alloc | apply Kd.S_drewN | apply Kd.S_drew)); exact HO_3.out) gb248 (Nat.le_of_eq hg.symm)) hb); have n1_ := asd (below_step (skB HB.out) hb); have n2_ := asd (hbox); have n3_ := asd ((by rw [hg]; exact (below_size (skB HB.out)) : w.heap.size ≤ gb248)); have n4_ := asd ((by rw [hg]; exact (below_size (skB HB.out)) : w.heap.size ≤ gb248)); clear HO_3; clear HB; have HO_3 := n0_; have HB := n1_; have BK248 := n2_; have GW248 := n3_; have GE248 := n4_; clear n0_ n1_ n2_ n3_ n4_; clear hb hbox hg; have hcz7_0 : w6.cell? ⟨gb248, 0, none⟩ = some (.int .i64 0) := (blk_cell BK248.out 0).trans rfl; have hcz7_1 : w6.cell? ⟨gb248, 1, none⟩ = some (.bool false) := (blk_cell BK248.out 1).trans rfl; have hcz7_2 : w6.cell? ⟨gb248, 2, none⟩ = some (.int .i64 0) := (blk_cell BK248.out 2).trans rfl; have hcz7_3 : w6.cell? ⟨gb248, 3, none⟩ = some (.int .i64 0) := (blk_cell BK248.out 3).trans rfl; have hcz7_4 : w6.cell? ⟨gb248, 4, none⟩ = some (.int .i64 0) := (blk_cell BK248.out 4).trans rfl; have hcz7_5 : w6.cell? ⟨gb248, 5, none⟩ = some (.int .i64 0) := (blk_cell BK248.out 5).trans rfl; have hcz7_6 : w6.cell? ⟨gb248, 6, none⟩ = some (.bool false) := (blk_cell BK248.out 6).trans rfl; have hcz7_7 : w6.cell? ⟨gb248, 7, none⟩ = some (.int .i64 0) := (blk_cell BK248.out 7).trans rfl; have hcz7_8 : w6.cell? ⟨gb248, 8, none⟩ = some (.int .i64 0) := (blk_cell BK248.out 8).trans rfl; have hcz7_9 : w6.cell? ⟨gb248, 9, none⟩ = some (.slice none 0 0) := (blk_cell BK248.out 9).trans rfl; have hfz7_0 := blk_frozen BK248.out 0; have hfz7_1 := blk_frozen BK248.out 1; have hfz7_2 := blk_frozen BK248.out 2; have hfz7_3 := blk_frozen BK248.out 3; have hfz7_4 := blk_frozen BK248.out 4; have hfz7_5 := blk_frozen BK248.out 5; have hfz7_6 := blk_frozen BK248.out 6; have hfz7_7 := blk_frozen BK248.out 7; have hfz7_8 := blk_frozen BK248.out 8; have hfz7_9 := blk_frozen BK248.out 9) | ((with_reducible refine gate_callee (f := 65) rfl ?_); refine goesL_ (some 18) rfl rfl Try.func65 (by kernel_rfl) rfl #[.agg #[.bool ((J67 l0 x4_1).f3.f0), .int .i64 ((J67 l0 x4_1).f3.f1), .int .i64 ((J67 l0 x4_1).f3.f2), .slice A247_9 ((J67 l0 x4_1).f3.f3).length c247_9]] rfl ags ?_; (with_reducible refine (larchref05_CopyRet.calls ((J67 l0 x4_1).f3.f0) ((J67 l0 x4_1).f3.f1) ((J67 l0 x4_1).f3.f2) _ _ ((J67 l0 x4_1).f3.f3) t249 t250 t251 t252 _ ?side1 ?side2 A4.out).mono ?_); (case side1 => exact Kd.C_below HR247_9.out (skG HB.out GE248.out GE248.out)); (case side2 => exact HC247_9.out); rintro e w8 ⟨v253, rfl, ho0, hb⟩; refine ⟨_, rfl, ?_⟩; have n0_ := asd (Kd.S_elder' (by (with_reducible repeat (first | apply Kd.S_alloc | apply Kd.S_drewN | apply Kd.S_drew)); exact (Kd.S_mono (Kd.S_far (p := ⟨gb248, 9, none⟩) (Kd.S_far (p := ⟨gb248, 8, none⟩) (Kd.S_far (p := ⟨gb248, 7, none⟩) (Kd.S_far (p := ⟨gb248, 6, none⟩) (Kd.S_far (p := ⟨gb248, 5, none⟩) (Kd.S_far (p := ⟨gb248, 4, none⟩) (Kd.S_far (p := ⟨gb248, 3, none⟩) (Kd.S_far (p := ⟨gb248, 2, none⟩) (Kd.S_far (p := ⟨gb248, 1, none⟩) (Kd.S_far (p := ⟨gb248, 0, none⟩) (Kd.S_mono HO_3.out (fun k_ hk => (⟨hk, hk.2⟩ : _ ∧ k_ ≠ gb248))) (fun _ hk => hk.2) (.int .i64 ((J67 l0 x4_1).f0))) (fun _ hk => hk.2) (.bool ((J67 l0 x4_1).f1))) (fun _ hk => hk.2) (.int .i64 ((J67 l0 x4_1).f2.f0))) (fun _ hk => hk.2) (.int .i64 ((J67 l0 x4_1).f2.f1))) (fun _ hk => hk.2) (.int .i64 ((J67 l0 x4_1).f2.f2))) (fun _ hk => hk.2) (.int .i64 ((J67 l0 x4_1).f2.f3))) (fun _ hk => hk.2) (.bool ((J67 l0 x4_1).f3.f0))) (fun _ hk => hk.2) (.int .i64 ((J67 l0 x4_1).f3.f1))) (fun _ hk => hk.2) (.int .i64 ((J67 l0 x4_1).f3.f2))) (fun _ hk => hk.2) (.slice A247_9 ((J67 l0 x4_1).f3.f3).length c247_9)) (fun _ h_ => h_.1))) (Kd.R_base ho0) hb); have n1_ := asd (Kd.R_lower ho0 (below_size (skG HB.out GE248.out GE248.out))); have n2_ := asd (blk_below (g := gb248) (o := .cells #[.int .i64 ((J67 l0 x4_1).f0), .bool ((J67 l0 x4_1).f1), .int .i64 ((J67 l0 x4_1).f2.f0), .int .i64 ((J67 l0 x4_1).f2.f1), .int .i64 ((J67 l0 x4_1).f2.f2), .int .i64 ((J67 l0 x4_1).f2.f3), .bool ((J67 l0 x4_1).f3.f0), .int .i64 ((J67 l0 x4_1).f3.f1), .int .i64 ((J67 l0 x4_1).f3.f2), .slice A247_9 ((J67 l0 x4_1).f3.f3).length c247_9] 67 (0, 0)) (by refine skk ?_; refine blk_put (cs := #[.int .i64 ((J67 l0 x4_1).f0), .bool ((J67 l0 x4_1).f1), .int .i64 ((J67 l0 x4_1).f2.f0), .int .i64 ((J67 l0 x4_1).f2.f1), .int .i64 ((J67 l0 x4_1).f2.f2), .int .i64 ((J67 l0 x4_1).f2.f3), .bool ((J67 l0 x4_1).f3.f0), .int .i64 ((J67 l0 x4_1).f3.f1), .int .i64 ((J67 l0 x4_1).f3.f2), .slice none 0 0]) ?_ 9 _ rfl; refine skk ?_; refine blk_put (cs := #[.int .i64 ((J67 l0 x4_1).f0), .bool ((J67 l0 x4_1).f1), .int .i64 ((J67 l0 x4_1).f2.f0), .int .i64 ((J67 l0 x4_1).f2.f1), .int .i64 ((J67 l0 x4_1).f2.f2), .int .i64 ((J67 l0 x4_1).f2.f3), .bool ((J67 l0 x4_1).f3.f0), .int .i64 ((J67 l0 x4_1).f3.f1), .int .i64 0, .slice none 0 0]) ?_ 8 _ rfl; refine skk ?_; refine blk_put (cs := #[.int .i64 ((J67 l0 x4_1).f0), .bool ((J67 l0 x4_1).f1), .int .i64 ((J67 l0 x4_1).f2.f0), .int .i64 ((J67 l0 x4_1).f2.f1), .int .i64 ((J67 l0 x4_1).f2.f2), .int .i64 ((J67 l0 x4_1).f2.f3), .bool ((J67 l0 x4_1).f3.f0), .int .i64 0, .int .i64 0, .slice none 0 0]) ?_ 7 _ rfl; refine skk ?_; refine blk_put (cs := #[.int .i64 ((J67 l0 x4_1).f0), .bool ((J67 l0 x4_1).f1), .int .i64 ((J67 l0 x4_1).f2.f0), .int .i64 ((J67 l0 x4_1).f2.f1), .int .i64 ((J67 l0 x4_1).f2.f2), .int .i64 ((J67 l0 x4_1).f2.f3), .bool false, .int .i64 0, .int .i64 0, .slice none 0 0]) ?_ 6 _ rfl; refine skk ?_; refine blk_put (cs := #[.int .i64 ((J67 l0 x4_1).f0), .bool ((J67 l0 x4_1).f1), .int .i64 ((J67 l0 x4_1).f2.f0), .int .i64 ((J67 l0 x4_1).f2.f1), .int .i64 ((J67 l0 x4_1).f2.f2), .int .i64 0, .bool false, .int .i64 0, .int .i64 0, .slice none 0 0]) ?_ 5 _ rfl; refine skk ?_; refine blk_put (cs := #[.int .i64 ((J67 l0 x4_1).f0), .bool ((J67 l0 x4_1).f1), .int .i64 ((J67 l0 x4_1).f2.f0), .int .i64 ((J67 l0 x4_1).f2.f1), .int .i64 0, .int .i64 0, .bool false, .int .i64 0, .int .i64 0, .slice none 0 0]) ?_ 4 _ rfl; refine skk ?_; refine blk_put (cs := #[.int .i64 ((J67 l0 x4_1).f0), .bool ((J67 l0 x4_1).f1), .int .i64 ((J67 l0 x4_1).f2.f0), .int .i64 0, .int .i64 0, .int .i64 0, .bool false, .int .i64 0, .int .i64 0, .slice none 0 0]) ?_ 3 _ rfl; refine skk ?_; refine blk_put (cs := #[.int .i64 ((J67 l0 x4_1).f0), .bool ((J67 l0 x4_1).f1), .int .i64 0, .int .i64 0, .int .i64 0, .int .i64 0, .bool false, .int .i64 0, .int .i64 0, .slice none 0 0]) ?_ 2 _ rfl; refine skk ?_; refine blk_put (cs := #[.int .i64 ((J67 l0 x4_1).f0), .bool false, .int .i64 0, .int .i64 0, .int .i64 0, .int .i64 0, .bool false, .int .i64 0, .int .i64 0, .slice none 0 0]) ?_ 1 _ rfl; refine skk ?_; refine blk_put (cs := #[.int .i64 0, .bool false, .int .i64 0, .int .i64 0, .int .i64 0, .int .i64 0, .bool false, .int .i64 0, .int .i64 0, .slice none 0 0]) ?_ 0 _ rfl; refine skk ?_; exact BK248.out) hb); have n3_ := asd (below_step (skG HB.out GE248.out GE248.out) hb); clear HO_3; clear BK248; clear HB; have HO_3 := n0_; have HO254 := n1_; have BK248 := n2_; have HB := n3_; clear n0_ n1_ n2_ n3_; (try clear hb); (try clear hb2); (try clear hk); (try clear hi); (try clear ho0); have hcz9_0 : w8.cell? ⟨gb248, 0, none⟩ = some (.int .i64 ((J67 l0 x4_1).f0)) := (blk_cell BK248.out 0).trans rfl; have hcz9_1 : w8.cell? ⟨gb248, 1, none⟩ = some (.bool ((J67 l0 x4_1).f1)) := (blk_cell BK248.out 1).trans rfl; have hcz9_2 : w8.cell? ⟨gb248, 2, none⟩ = some (.int .i64 ((J67 l0 x4_1).f2.f0)) := (blk_cell BK248.out 2).trans rfl; have hcz9_3 : w8.cell? ⟨gb248, 3, none⟩ = some (.int .i64 ((J67 l0 x4_1).f2.f1)) := (blk_cell BK248.out 3).trans rfl; have hcz9_4 : w8.cell? ⟨gb248, 4, none⟩ = some (.int .i64 ((J67 l0 x4_1).f2.f2)) := (blk_cell BK248.out 4).trans rfl; have hcz9_5 : w8.cell? ⟨gb248, 5, none⟩ = some (.int .i64 ((J67 l0 x4_1).f2.f3)) := (blk_cell BK248.out 5).trans rfl; have hcz9_6 : w8.cell? ⟨gb248, 6, none⟩ = some (.bool ((J67 l0 x4_1).f3.f0)) := (blk_cell BK248.out 6).trans rfl; have hcz9_7 : w8.cell? ⟨gb248, 7, none⟩ = some (.int .i64 ((J67 l0 x4_1).f3.f1)) := (blk_cell BK248.out 7).trans rfl; have hcz9_8 : w8.cell? ⟨gb248, 8, none⟩ = some (.int .i64 ((J67 l0 x4_1).f3.f2)) := (blk_cell BK248.out 8).trans rfl; have hcz9_9 : w8.cell? ⟨gb248, 9, none⟩ = some (.slice A247_9 ((J67 l0 x4_1).f3.f3).length c247_9) := (blk_cell BK248.out 9).trans rfl; have hfz9_0 := blk_frozen BK248.out 0; have hfz9_1 := blk_frozen BK248.out 1; have hfz9_2 := blk_frozen BK248.out 2; have hfz9_3 := blk_frozen BK248.out 3; have hfz9_4 := blk_frozen BK248.out 4; have hfz9_5 := blk_frozen BK248.out 5; have hfz9_6 := blk_frozen BK248.out 6; have hfz9_7 := blk_frozen BK248.out 7; have hfz9_8 := blk_frozen BK248.out 8; have hfz9_9 := blk_frozen BK248.out 9; obtain ⟨Ao10, co10, eo10⟩ := Kd.R_slice HO254.out; subst eo10) | ((with_reducible refine gate_store (t := 36) (p := 19) rfl ?_); refine store_event (t := 36) (p := 19) (v := ?vo_w11) (w1 := ((((w8.setCell ⟨gb248, 6, none⟩ (.bool t249)).setCell ⟨gb248, 7, none⟩ (.int .i64 t250)).setCell ⟨gb248, 8, none⟩ (.int .i64 t251)).setCell ⟨gb248, 9, none⟩ (.slice Ao10 t252.length co10))) ?hg ?ho ?hn ?hr ?_; (case ho => rfl); (case hg => rfl); (case hn => rfl); (case hr => first | (go_simp; done) | (go_simp; rfl)); intro w11 hw; have n0_ : Aside0 (Kd.S k67 67 w11 w.heap.size (fun k_ => some k_ ≠ (.slice Ao10 t252.length co10 : Value).ownBlock ∧ k_ ≠ gb248) u3 x3_1) := ⟨(by rw [hw]; exact (by (with_reducible repeat (first | apply Kd.S_alloc | apply Kd.S_drewN | apply Kd.S_drew)); exact Kd.S_mono (Kd.S_far (p := ⟨gb248, 9, none⟩) (Kd.S_far (p := ⟨gb248, 8, none⟩) (Kd.S_far (p := ⟨gb248, 7, none⟩) (Kd.S_far (p := ⟨gb248, 6, none⟩) (Kd.S_mono HO_3.out (fun k_ hk => (⟨hk, hk.1.2⟩ : _ ∧ k_ ≠ gb248))) (fun _ hk => hk.2) (.bool t249)) (fun _ hk => hk.2) (.int .i64 t250)) (fun _ hk => hk.2) (.int .i64 t251)) (fun _ hk => hk.2) (.slice Ao10 t252.length co10)) (fun _ hk => ⟨hk.1.2, hk.1.1.2⟩)))⟩; have n1_ : Aside0 (Kd.R k70 70 w11 w.heap.size (fun _ => True) (.slice Ao10 t252.length co10) t252) := ⟨(by rw [hw]; exact (skR (Kd.R_mono (Kd.R_far (p := ⟨gb248, 9, none⟩) (Kd.R_far (p := ⟨gb248, 8, none⟩) (Kd.R_far (p := ⟨gb248, 7, none⟩) (Kd.R_far (p := ⟨gb248, 6, none⟩) (Kd.R_types HO254.out BK248.out (by decide)) (fun _ hk => hk.2) (.bool t249)) (fun _ hk => hk.2) (.int .i64 t250)) (fun _ hk => hk.2) (.int .i64 t251)) (fun _ hk => hk.2) (.slice Ao10 t252.length co10)) (fun _ hk => trivial))))⟩; have n2_ : Aside0 (w11.heap[gb248]? = some (.cells #[.int .i64 ((J67 l0 x4_1).f0), .bool ((J67 l0 x4_1).f1), .int .i64 ((J67 l0 x4_1).f2.f0), .int .i64 ((J67 l0 x4_1).f2.f1), .int .i64 ((J67 l0 x4_1).f2.f2), .int .i64 ((J67 l0 x4_1).f2.f3), .bool t249, .int .i64 t250, .int .i64 t251, .slice Ao10 t252.length co10] 67 (0, 0))) := ⟨(by rw [hw]; exact (by refine skk ?_; refine blk_put (cs := #[.int .i64 ((J67 l0 x4_1).f0), .bool ((J67 l0 x4_1).f1), .int .i64 ((J67 l0 x4_1).f2.f0), .int .i64 ((J67 l0 x4_1).f2.f1), .int .i64 ((J67 l0 x4_1).f2.f2), .int .i64 ((J67 l0 x4_1).f2.f3), .bool t249, .int .i64 t250, .int .i64 t251, .slice A247_9 ((J67 l0 x4_1).f3.f3).length c247_9]) ?_ 9 _ rfl; refine skk ?_; refine blk_put (cs := #[.int .i64 ((J67 l0 x4_1).f0), .bool ((J67 l0 x4_1).f1), .int .i64 ((J67 l0 x4_1).f2.f0), .int .i64 ((J67 l0 x4_1).f2.f1), .int .i64 ((J67 l0 x4_1).f2.f2), .int .i64 ((J67 l0 x4_1).f2.f3), .bool t249, .int .i64 t250, .int .i64 ((J67 l0 x4_1).f3.f2), .slice A247_9 ((J67 l0 x4_1).f3.f3).length c247_9]) ?_ 8 _ rfl; refine skk ?_; refine blk_put (cs := #[.int .i64 ((J67 l0 x4_1).f0), .bool ((J67 l0 x4_1).f1), .int .i64 ((J67 l0 x4_1).f2.f0), .int .i64 ((J67 l0 x4_1).f2.f1), .int .i64 ((J67 l0 x4_1).f2.f2), .int .i64 ((J67 l0 x4_1).f2.f3), .bool t249, .int .i64 ((J67 l0 x4_1).f3.f1), .int .i64 ((J67 l0 x4_1).f3.f2), .slice A247_9 ((J67 l0 x4_1).f3.f3).length c247_9]) ?_ 7 _ rfl; refine skk ?_; refine blk_put (cs := #[.int .i64 ((J67 l0 x4_1).f0), .bool ((J67 l0 x4_1).f1), .int .i64 ((J67 l0 x4_1).f2.f0), .int .i64 ((J67 l0 x4_1).f2.f1), .int .i64 ((J67 l0 x4_1).f2.f2), .int .i64 ((J67 l0 x4_1).f2.f3), .bool ((J67 l0 x4_1).f3.f0), .int .i64 ((J67 l0 x4_1).f3.f1), .int .i64 ((J67 l0 x4_1).f3.f2), .slice A247_9 ((J67 l0 x4_1).f3.f3).length c247_9]) ?_ 6 _ rfl; refine skk ?_; exact BK248.out))⟩; have n3_ : Aside0 (Below w.heap.size w w11) := ⟨(by rw [hw]; exact (skG HB.out GE248.out GE248.out))⟩; clear hw; clear HO_3; clear HO254; clear BK248; clear HB; have HO_3 := n0_; have HO254 := n1_; have BK248 := n2_; have HB := n3_; clear n0_ n1_ n2_ n3_; have hcz12_0 : w11.cell? ⟨gb248, 0, none⟩ = some (.int .i64 ((J67 l0 x4_1).f0)) := (blk_cell BK248.out 0).trans rfl; have hcz12_1 : w11.cell? ⟨gb248, 1, none⟩ = some (.bool ((J67 l0 x4_1).f1)) := (blk_cell BK248.out 1).trans rfl; have hcz12_2 : w11.cell? ⟨gb248, 2, none⟩ = some (.int .i64 ((J67 l0 x4_1).f2.f0)) := (blk_cell BK248.out 2).trans rfl; have hcz12_3 : w11.cell? ⟨gb248, 3, none⟩ = some (.int .i64 ((J67 l0 x4_1).f2.f1)) := (blk_cell BK248.out 3).trans rfl; have hcz12_4 : w11.cell? ⟨gb248, 4, none⟩ = some (.int .i64 ((J67 l0 x4_1).f2.f2)) := (blk_cell BK248.out 4).trans rfl; have hcz12_5 : w11.cell? ⟨gb248, 5, none⟩ = some (.int .i64 ((J67 l0 x4_1).f2.f3)) := (blk_cell BK248.out 5).trans rfl; have hcz12_6 : w11.cell? ⟨gb248, 6, none⟩ = some (.bool t249) := (blk_cell BK248.out 6).trans rfl; have hcz12_7 : w11.cell? ⟨gb248, 7, none⟩ = some (.int .i64 t250) := (blk_cell BK248.out 7).trans rfl; have hcz12_8 : w11.cell? ⟨gb248, 8, none⟩ = some (.int .i64 t251) := (blk_cell BK248.out 8).trans rfl; have hcz12_9 : w11.cell? ⟨gb248, 9, none⟩ = some (.slice Ao10 t252.length co10) := (blk_cell BK248.out 9).trans rfl; have hfz12_0 := blk_frozen BK248.out 0; have hfz12_1 := blk_frozen BK248.out 1; have hfz12_2 := blk_frozen BK248.out 2; have hfz12_3 := blk_frozen BK248.out 3; have hfz12_4 := blk_frozen BK248.out 4; have hfz12_5 := blk_frozen BK248.out 5; have hfz12_6 := blk_frozen BK248.out 6; have hfz12_7 := blk_frozen BK248.out 7; have hfz12_8 := blk_frozen BK248.out 8; have hfz12_9 := blk_frozen BK248.out 9) | ((with_reducible refine gate_builtin (b := .append) (xs := #[.tmp 20, .tmp 22]) rfl ?_); at_builtin; refine Kd.S_append k67 (w0 := w) w.heap.size rfl (.tmp 20) (.tmp 22) 22 67 (.agg #[(.int .i64 0), (.bool false), (.int .i64 0), (.int .i64 0), (.int .i64 0), (.int .i64 0), (.bool false), (.int .i64 0), (.int .i64 0), (.slice none 0 0)]) 96 rfl Try.underlying22 info67 rfl (by decide) (by omega) u3 x3_1 (⟨(J67 l0 x4_1).f0, (J67 l0 x4_1).f1, (⟨(J67 l0 x4_1).f2.f0, (J67 l0 x4_1).f2.f1, (J67 l0 x4_1).f2.f2, (J67 l0 x4_1).f2.f3⟩ : S33), (⟨t249, t250, t251, t252⟩ : S36)⟩ : S67) [.int .i64 ((J67 l0 x4_1).f0), .bool ((J67 l0 x4_1).f1), .int .i64 ((J67 l0 x4_1).f2.f0), .int .i64 ((J67 l0 x4_1).f2.f1), .int .i64 ((J67 l0 x4_1).f2.f2), .int .i64 ((J67 l0 x4_1).f2.f3), .bool t249, .int .i64 t250, .int .i64 t251, .slice Ao10 t252.length co10] (fun k_ => k_ ≠ gb248) (fun k_ => some k_ = (.slice Ao10 t252.length co10 : Value).ownBlock) rfl rfl ?aP (fun k_ hk_ => ((Kd.R_mono (ok' := fun k_ => ((fun k_ => k_ ≠ gb248)) k_ ∧ some k_ ≠ (u3 : Value).ownBlock) (Kd.R_types (Kd.R_apart' (HO254.out) (Kd.S_typed HO_3.out) (by decide)) BK248.out (by decide)) (fun k_ hk => ⟨hk.2, hk.1.2⟩))).1 k_ hk_.symm) ?aF ?aO ?aB ?aS ?aL ?_; (case aP => exact k67_mkM _ _ _ (⟨(J67 l0 x4_1).f0, (J67 l0 x4_1).f1, (⟨(J67 l0 x4_1).f2.f0, (J67 l0 x4_1).f2.f1, (J67 l0 x4_1).f2.f2, (J67 l0 x4_1).f2.f3⟩ : S33), (⟨t249, t250, t251, t252⟩ : S36)⟩ : S67) (Kd.R_mono (Kd.R_tight rfl (Kd.R_mono (ok' := fun k_ => ((fun k_ => k_ ≠ gb248)) k_ ∧ some k_ ≠ (u3 : Value).ownBlock) (Kd.R_types (Kd.R_apart' (HO254.out) (Kd.S_typed HO_3.out) (by decide)) BK248.out (by decide)) (fun k_ hk => ⟨hk.2, hk.1.2⟩))) (fun _ h_ => h_))); (case aB => exact (skG HB.out GE248.out GE248.out)); (case aF => exact (fun k_ hk => Kd.freshB (g := gb248) (o := .cells #[.int .i64 ((J67 l0 x4_1).f0), .bool ((J67 l0 x4_1).f1), .int .i64 ((J67 l0 x4_1).f2.f0), .int .i64 ((J67 l0 x4_1).f2.f1), .int .i64 ((J67 l0 x4_1).f2.f2), .int .i64 ((J67 l0 x4_1).f2.f3), .bool t249, .int .i64 t250, .int .i64 t251, .slice Ao10 t252.length co10] 67 (0, 0)) (skK BK248.out) k_ hk)); (case aO => exact (by (with_reducible repeat (first | apply Kd.S_alloc | apply Kd.S_drewN | apply Kd.S_drew)); exact Kd.S_mono HO_3.out (fun k_ hk => ⟨hk.2, fun e_ => hk.1 e_⟩))); (case aS => exact (below_size (skG HB.out GE248.out GE248.out))); (case aL => have := LMc5.out; omega); intro v256 w13 ho hb hg hat; rw [← Ny255.out] at ho; have n0_ := asd (blk_grown (g := gb248) (o := .cells #[.int .i64 ((J67 l0 x4_1).f0), .bool ((J67 l0 x4_1).f1), .int .i64 ((J67 l0 x4_1).f2.f0), .int .i64 ((J67 l0 x4_1).f2.f1), .int .i64 ((J67 l0 x4_1).f2.f2), .int .i64 ((J67 l0 x4_1).f2.f3), .bool t249, .int .i64 t250, .int .i64 t251, .slice Ao10 t252.length co10] 67 (0, 0)) (skK BK248.out) hg (Kd.S_away HO_3.out (fun _ hk => hk.2))); have n1_ := asd (hb); have n2_ := asd (ho); clear BK248; clear HB; clear HO_3; clear HO254; have BK248 := n0_; have HB := n1_; have HO257 := n2_; clear n0_ n1_ n2_; clear ho hb hg hat))
      go_roundg k1
      case measure => have := HK1.out; omega
      case rel => exact ⟨(y255), (wrap64 (x4_1 + 1)), rs, H', ⟨by have := HK1.out; omega⟩, ⟨by (with_reducible repeat (first | apply Kd.S_alloc | apply Kd.S_drewN | apply Kd.S_drew)); exact Kd.S_mono HO257.out (fun _ hk => trivial)⟩, ⟨skG HB.out GE248.out GE248.out⟩⟩
     ·
      rw [if_neg c5] at H
      exact absurd H (by simp)
    ·
     rw [if_neg c3] at H
     exact absurd H (by simp)
   ·
    rw [if_neg c2] at H
    have c2b0 : decide (x4_1 < (l0.length : Int)) = false := decide_eq_false c2
    clear c2
    obtain rfl := Option.some.inj H
    go_wp2
    go_ret
    exact ⟨_, re, by (with_reducible repeat (first | apply Kd.S_alloc | apply Kd.S_drewN | apply Kd.S_drew)); exact HO_3.out, skB HB.out⟩
end Go.Proofs.Ytagdkmcgepidoaa.P
/- F33 -/
namespace Go.Proofs.Ytagdkmcgepidoaa.P
open Go.RowKit Go.Proofs.YtagdkmcgepidoaaW.PrintWords Go.Proofs.YtagdkmcgepidoaaW.PrintLast Go.Proofs.YtagdkmcgepidoaaW.PrintMore
attribute [local go_sem] max2_int min2_int max_two min_two max_three min_three max_four min_four   -- for this text's walks alone
set_option linter.unusedVariables false
set_option linter.unusedSimpArgs false
end Go.Proofs.Ytagdkmcgepidoaa.P
/- F34 -/
namespace Go.Proofs.Ytagdkmcgepidoaa.P
open Go.RowKit Go.Proofs.YtagdkmcgepidoaaW.PrintWords Go.Proofs.YtagdkmcgepidoaaW.PrintLast Go.Proofs.YtagdkmcgepidoaaW.PrintMore
attribute [local go_sem] max2_int min2_int max_two min_two max_three min_three max_four min_four   -- for this text's walks alone
set_option linter.unusedVariables false
set_option linter.unusedSimpArgs false
attribute [local go_sem high] eqA33
def larchref05_sameEvent.f (k : Nat) (a0_0 : Int) (a0_1 : Bool) (a0_2 : Int) (a0_3 : Int) (a0_4 : Int) (a0_5 : Int) (a0_6 : Bool) (a0_7 : Int) (a0_8 : Int) (l0_9 : List (S70)) (a1_0 : Int) (a1_1 : Bool) (a1_2 : Int) (a1_3 : Int) (a1_4 : Int) (a1_5 : Int) (a1_6 : Bool) (a1_7 : Int) (a1_8 : Int) (l1_9 : List (S70)) : Option (Bool) := if a0_0 = a1_0 then (if (a0_1 == a1_1) = true then (if (a0_2 == a1_2 && (a0_3 == a1_3 && (a0_4 == a1_4 && (a0_5 == a1_5)))) = true then ((larchref05_SameRet.f k a0_6 a0_7 a0_8 l0_9 a1_6 a1_7 a1_8 l1_9).bind fun t269 => (some t269)) else (some false)) else (some false)) else (some false)
set_option maxHeartbeats 8000000 in
set_option maxRecDepth 100000 in
theorem larchref05_sameEvent.calls (k : Nat) (a0_0 : Int) (a0_1 : Bool) (a0_2 : Int) (a0_3 : Int) (a0_4 : Int) (a0_5 : Int) (a0_6 : Bool) (a0_7 : Int) (a0_8 : Int) (A0_9 : Option Addr) (c0_9 : Nat) (l0_9 : List (S70)) (a1_0 : Int) (a1_1 : Bool) (a1_2 : Int) (a1_3 : Int) (a1_4 : Int) (a1_5 : Int) (a1_6 : Bool) (a1_7 : Int) (a1_8 : Int) (A1_9 : Option Addr) (c1_9 : Nat) (l1_9 : List (S70)) (r : Bool) (w : World) (hr0_9 : Kd.C k70 w A0_9 l0_9.length l0_9) (hc0_9 : l0_9.length ≤ c0_9) (hr1_9 : Kd.C k70 w A1_9 l1_9.length l1_9) (hc1_9 : l1_9.length ≤ c1_9) (h : larchref05_sameEvent.f k a0_0 a0_1 a0_2 a0_3 a0_4 a0_5 a0_6 a0_7 a0_8 l0_9 a1_0 a1_1 a1_2 a1_3 a1_4 a1_5 a1_6 a1_7 a1_8 l1_9 = some r) :
  Calls Try.prog 54 #[.agg #[.int .i64 a0_0, .bool a0_1, .int .i64 a0_2, .int .i64 a0_3, .int .i64 a0_4, .int .i64 a0_5, .bool a0_6, .int .i64 a0_7, .int .i64 a0_8, .slice A0_9 l0_9.length c0_9], .agg #[.int .i64 a1_0, .bool a1_1, .int .i64 a1_2, .int .i64 a1_3, .int .i64 a1_4, .int .i64 a1_5, .bool a1_6, .int .i64 a1_7, .int .i64 a1_8, .slice A1_9 l1_9.length c1_9]] w fun e w' => e = .returned (.bool r) ∧ Below w.heap.size w w' := by
 have hu67 := Try.underlying67
 have hu33 := Try.underlying33
 have hu36 := Try.underlying36
 have HR0_9 := asd hr0_9
 have HC0_9 := asd hc0_9
 clear hr0_9 hc0_9
 have HR1_9 := asd hr1_9
 have HC1_9 := asd hc1_9
 clear hr1_9 hc1_9
 have HB := asd (Below.refl w.heap.size w)
 have H : (if a0_0 = a1_0 then (if (a0_1 == a1_1) = true then (if (a0_2 == a1_2 && (a0_3 == a1_3 && (a0_4 == a1_4 && (a0_5 == a1_5)))) = true then ((larchref05_SameRet.f k a0_6 a0_7 a0_8 l0_9 a1_6 a1_7 a1_8 l1_9).bind fun t269 => (some t269)) else (some false)) else (some false)) else (some false)) = some r := h
 clear h
 by_cases c3 : a0_0 = a1_0
 ·
  rw [if_pos c3] at H
  have c3b0 : (a0_0 == a1_0) = true := beq_iff_eq.mpr c3
  have c3b1 : (a0_0 != a1_0) = false := bne_eq_false_iff_eq.mpr c3
  clear c3
  by_cases c4 : (a0_1 == a1_1) = true
  ·
   rw [if_pos c4] at H
   have c4b0 : (a0_1 == a1_1) = true := c4
   (try (have c4b1 : decide (a0_1 = a1_1) = true := by simpa using c4))
   (try (have c4b2 : (a0_1 == a1_1) = true := by simpa using c4))
   clear c4
   by_cases c5 : (a0_2 == a1_2 && (a0_3 == a1_3 && (a0_4 == a1_4 && (a0_5 == a1_5)))) = true
   ·
    rw [if_pos c5] at H
    have c5b0 : (a0_2 == a1_2 && (a0_3 == a1_3 && (a0_4 == a1_4 && (a0_5 == a1_5)))) = true := c5
    (try (have c5b1 : decide (a0_2 = a1_2 && (a0_3 == a1_3 && (a0_4 == a1_4 && (a0_5 == a1_5)))) = true := by simpa using c5))
    (try (have c5b2 : (a0_2 == a1_2 && (a0_3 == a1_3 && (a0_4 == a1_4 && (a0_5 == a1_5)))) = true := by simpa using c5))
    clear c5
    replace H := Option.bind_eq_some_iff.mp H
    obtain ⟨t269, A60, H⟩ := H
    replace H : (some t269) = some r := H
    have A6 := asd A60
    clear A60
    obtain rfl := Option.some.inj H
    go_enter Try.func54, Try.ntmps54
    go_wp2_with (first | ((with_reducible refine gate_dst (N := 2) rfl ?_); refine box_event ?hg (N := 2) ?hd (cs := #[.int .i64 a0_0, .bool a0_1, .int .i64 a0_2, .int .i64 a0_3, .int .i64 a0_4, .int .i64 a0_5, .bool a0_6, .int .i64 a0_7, .int .i64 a0_8, .slice A0_9 l0_9.length c0_9]) (t := 67) ?hr ?_; (case hd => rfl); (case hg => rfl); (case hr => first | (go_simp; done) | (go_simp; rfl)); intro gb267 hg w7 hbox hb; have n0_ := asd (below_step (skB HB.out) hb); have n1_ := asd (hbox); have n2_ := asd ((by rw [hg]; exact (below_size (skB HB.out)) : w.heap.size ≤ gb267)); have n3_ := asd ((by rw [hg]; exact (below_size (skB HB.out)) : w.heap.size ≤ gb267)); clear HB; have HB := n0_; have BK267 := n1_; have GW267 := n2_; have GE267 := n3_; clear n0_ n1_ n2_ n3_; clear hb hbox hg) | ((with_reducible refine gate_dst (N := 3) rfl ?_); refine box_event ?hg (N := 3) ?hd (cs := #[.int .i64 a1_0, .bool a1_1, .int .i64 a1_2, .int .i64 a1_3, .int .i64 a1_4, .int .i64 a1_5, .bool a1_6, .int .i64 a1_7, .int .i64 a1_8, .slice A1_9 l1_9.length c1_9]) (t := 67) ?hr ?_; (case hd => rfl); (case hg => rfl); (case hr => first | (go_simp; done) | (go_simp; rfl)); intro gb268 hg w8 hbox hb; have n0_ := asd (blk_below (g := gb267) (o := .cells #[.int .i64 a0_0, .bool a0_1, .int .i64 a0_2, .int .i64 a0_3, .int .i64 a0_4, .int .i64 a0_5, .bool a0_6, .int .i64 a0_7, .int .i64 a0_8, .slice A0_9 l0_9.length c0_9] 67 (0, 0)) (skK BK267.out) hb); have n1_ := asd (below_step (skG HB.out GE267.out GE267.out) hb); have n2_ := asd (hbox); have n3_ := asd ((by rw [hg]; exact (below_size (skG HB.out GE267.out GE267.out)) : w.heap.size ≤ gb268)); have n4_ := asd ((by rw [hg]; exact (below_size (skG HB.out GE267.out GE267.out)) : w.heap.size ≤ gb268)); have n5_ := asd ((by rw [hg]; exact Nat.ne_of_lt (blk_lt (g := gb267) (o := .cells #[.int .i64 a0_0, .bool a0_1, .int .i64 a0_2, .int .i64 a0_3, .int .i64 a0_4, .int .i64 a0_5, .bool a0_6, .int .i64 a0_7, .int .i64 a0_8, .slice A0_9 l0_9.length c0_9] 67 (0, 0)) (skK BK267.out)) : gb267 ≠ gb268)); have n6_ := asd ((by rw [hg]; exact Nat.ne_of_gt (blk_lt (g := gb267) (o := .cells #[.int .i64 a0_0, .bool a0_1, .int .i64 a0_2, .int .i64 a0_3, .int .i64 a0_4, .int .i64 a0_5, .bool a0_6, .int .i64 a0_7, .int .i64 a0_8, .slice A0_9 l0_9.length c0_9] 67 (0, 0)) (skK BK267.out)) : gb268 ≠ gb267)); clear BK267; clear HB; have BK267 := n0_; have HB := n1_; have BK268 := n2_; have GW268 := n3_; have GE268 := n4_; have NB267_268 := n5_; have NB268_267 := n6_; clear n0_ n1_ n2_ n3_ n4_ n5_ n6_; clear hb hbox hg; have hnb9 := NB267_268.out; have hnc9 := NB268_267.out; have hcz10_0 : w8.cell? ⟨gb267, 0, none⟩ = some (.int .i64 a0_0) := (blk_cell BK267.out 0).trans rfl; have hcz10_1 : w8.cell? ⟨gb267, 1, none⟩ = some (.bool a0_1) := (blk_cell BK267.out 1).trans rfl; have hcz10_2 : w8.cell? ⟨gb267, 2, none⟩ = some (.int .i64 a0_2) := (blk_cell BK267.out 2).trans rfl; have hcz10_3 : w8.cell? ⟨gb267, 3, none⟩ = some (.int .i64 a0_3) := (blk_cell BK267.out 3).trans rfl; have hcz10_4 : w8.cell? ⟨gb267, 4, none⟩ = some (.int .i64 a0_4) := (blk_cell BK267.out 4).trans rfl; have hcz10_5 : w8.cell? ⟨gb267, 5, none⟩ = some (.int .i64 a0_5) := (blk_cell BK267.out 5).trans rfl; have hcz10_6 : w8.cell? ⟨gb267, 6, none⟩ = some (.bool a0_6) := (blk_cell BK267.out 6).trans rfl; have hcz10_7 : w8.cell? ⟨gb267, 7, none⟩ = some (.int .i64 a0_7) := (blk_cell BK267.out 7).trans rfl; have hcz10_8 : w8.cell? ⟨gb267, 8, none⟩ = some (.int .i64 a0_8) := (blk_cell BK267.out 8).trans rfl; have hcz10_9 : w8.cell? ⟨gb267, 9, none⟩ = some (.slice A0_9 l0_9.length c0_9) := (blk_cell BK267.out 9).trans rfl; have hfz10_0 := blk_frozen BK267.out 0; have hfz10_1 := blk_frozen BK267.out 1; have hfz10_2 := blk_frozen BK267.out 2; have hfz10_3 := blk_frozen BK267.out 3; have hfz10_4 := blk_frozen BK267.out 4; have hfz10_5 := blk_frozen BK267.out 5; have hfz10_6 := blk_frozen BK267.out 6; have hfz10_7 := blk_frozen BK267.out 7; have hfz10_8 := blk_frozen BK267.out 8; have hfz10_9 := blk_frozen BK267.out 9; have hcz11_0 : w8.cell? ⟨gb268, 0, none⟩ = some (.int .i64 a1_0) := (blk_cell BK268.out 0).trans rfl; have hcz11_1 : w8.cell? ⟨gb268, 1, none⟩ = some (.bool a1_1) := (blk_cell BK268.out 1).trans rfl; have hcz11_2 : w8.cell? ⟨gb268, 2, none⟩ = some (.int .i64 a1_2) := (blk_cell BK268.out 2).trans rfl; have hcz11_3 : w8.cell? ⟨gb268, 3, none⟩ = some (.int .i64 a1_3) := (blk_cell BK268.out 3).trans rfl; have hcz11_4 : w8.cell? ⟨gb268, 4, none⟩ = some (.int .i64 a1_4) := (blk_cell BK268.out 4).trans rfl; have hcz11_5 : w8.cell? ⟨gb268, 5, none⟩ = some (.int .i64 a1_5) := (blk_cell BK268.out 5).trans rfl; have hcz11_6 : w8.cell? ⟨gb268, 6, none⟩ = some (.bool a1_6) := (blk_cell BK268.out 6).trans rfl; have hcz11_7 : w8.cell? ⟨gb268, 7, none⟩ = some (.int .i64 a1_7) := (blk_cell BK268.out 7).trans rfl; have hcz11_8 : w8.cell? ⟨gb268, 8, none⟩ = some (.int .i64 a1_8) := (blk_cell BK268.out 8).trans rfl; have hcz11_9 : w8.cell? ⟨gb268, 9, none⟩ = some (.slice A1_9 l1_9.length c1_9) := (blk_cell BK268.out 9).trans rfl; have hfz11_0 := blk_frozen BK268.out 0; have hfz11_1 := blk_frozen BK268.out 1; have hfz11_2 := blk_frozen BK268.out 2; have hfz11_3 := blk_frozen BK268.out 3; have hfz11_4 := blk_frozen BK268.out 4; have hfz11_5 := blk_frozen BK268.out 5; have hfz11_6 := blk_frozen BK268.out 6; have hfz11_7 := blk_frozen BK268.out 7; have hfz11_8 := blk_frozen BK268.out 8; have hfz11_9 := blk_frozen BK268.out 9) | (go_at_call 63; (with_reducible refine (larchref05_SameRet.calls k a0_6 a0_7 a0_8 _ _ l0_9 a1_6 a1_7 a1_8 _ _ l1_9 t269 _ ?side1 ?side2 ?side3 ?side4 A6.out).mono ?_); (case side1 => exact skC (Kd.C_below HR0_9.out HB.out)); (case side2 => exact HC0_9.out); (case side3 => exact skC (Kd.C_below HR1_9.out HB.out)); (case side4 => exact HC1_9.out); rintro e w12 ⟨rfl, hb⟩; have n0_ := asd (blk_below (g := gb267) (o := .cells #[.int .i64 a0_0, .bool a0_1, .int .i64 a0_2, .int .i64 a0_3, .int .i64 a0_4, .int .i64 a0_5, .bool a0_6, .int .i64 a0_7, .int .i64 a0_8, .slice A0_9 l0_9.length c0_9] 67 (0, 0)) (skK BK267.out) hb); have n1_ := asd (blk_below (g := gb268) (o := .cells #[.int .i64 a1_0, .bool a1_1, .int .i64 a1_2, .int .i64 a1_3, .int .i64 a1_4, .int .i64 a1_5, .bool a1_6, .int .i64 a1_7, .int .i64 a1_8, .slice A1_9 l1_9.length c1_9] 67 (0, 0)) (skK BK268.out) hb); have n2_ := asd (below_step (skG HB.out GE267.out GE268.out) hb); clear BK267; clear BK268; clear HB; have BK267 := n0_; have BK268 := n1_; have HB := n2_; clear n0_ n1_ n2_; (try clear hb); (try clear hb2); (try clear hk); (try clear hi)))
    go_ret
    exact ⟨re, skG HB.out GE267.out GE268.out⟩
   ·
    rw [if_neg c5] at H
    have c5b0 : (a0_2 == a1_2 && (a0_3 == a1_3 && (a0_4 == a1_4 && (a0_5 == a1_5)))) = false := by simpa using c5
    (try (have c5b1 : decide (a0_2 = a1_2 && (a0_3 == a1_3 && (a0_4 == a1_4 && (a0_5 == a1_5)))) = false := by simpa using c5))
    (try (have c5b2 : (a0_2 == a1_2 && (a0_3 == a1_3 && (a0_4 == a1_4 && (a0_5 == a1_5)))) = false := by simpa using c5))
    (try (have c5b3 : ¬ (a0_2 = a1_2 && (a0_3 == a1_3 && (a0_4 == a1_4 && (a0_5 == a1_5)))) := by simpa using c5))
    clear c5
    obtain rfl := Option.some.inj H
    go_enter Try.func54, Try.ntmps54
    go_wp2_with (first | ((with_reducible refine gate_dst (N := 2) rfl ?_); refine box_event ?hg (N := 2) ?hd (cs := #[.int .i64 a0_0, .bool a0_1, .int .i64 a0_2, .int .i64 a0_3, .int .i64 a0_4, .int .i64 a0_5, .bool a0_6, .int .i64 a0_7, .int .i64 a0_8, .slice A0_9 l0_9.length c0_9]) (t := 67) ?hr ?_; (case hd => rfl); (case hg => rfl); (case hr => first | (go_simp; done) | (go_simp; rfl)); intro gb267 hg w13 hbox hb; have n0_ := asd (below_step (skB HB.out) hb); have n1_ := asd (hbox); have n2_ := asd ((by rw [hg]; exact (below_size (skB HB.out)) : w.heap.size ≤ gb267)); have n3_ := asd ((by rw [hg]; exact (below_size (skB HB.out)) : w.heap.size ≤ gb267)); clear HB; have HB := n0_; have BK267 := n1_; have GW267 := n2_; have GE267 := n3_; clear n0_ n1_ n2_ n3_; clear hb hbox hg) | ((with_reducible refine gate_dst (N := 3) rfl ?_); refine box_event ?hg (N := 3) ?hd (cs := #[.int .i64 a1_0, .bool a1_1, .int .i64 a1_2, .int .i64 a1_3, .int .i64 a1_4, .int .i64 a1_5, .bool a1_6, .int .i64 a1_7, .int .i64 a1_8, .slice A1_9 l1_9.length c1_9]) (t := 67) ?hr ?_; (case hd => rfl); (case hg => rfl); (case hr => first | (go_simp; done) | (go_simp; rfl)); intro gb268 hg w14 hbox hb; have n0_ := asd (blk_below (g := gb267) (o := .cells #[.int .i64 a0_0, .bool a0_1, .int .i64 a0_2, .int .i64 a0_3, .int .i64 a0_4, .int .i64 a0_5, .bool a0_6, .int .i64 a0_7, .int .i64 a0_8, .slice A0_9 l0_9.length c0_9] 67 (0, 0)) (skK BK267.out) hb); have n1_ := asd (below_step (skG HB.out GE267.out GE267.out) hb); have n2_ := asd (hbox); have n3_ := asd ((by rw [hg]; exact (below_size (skG HB.out GE267.out GE267.out)) : w.heap.size ≤ gb268)); have n4_ := asd ((by rw [hg]; exact (below_size (skG HB.out GE267.out GE267.out)) : w.heap.size ≤ gb268)); have n5_ := asd ((by rw [hg]; exact Nat.ne_of_lt (blk_lt (g := gb267) (o := .cells #[.int .i64 a0_0, .bool a0_1, .int .i64 a0_2, .int .i64 a0_3, .int .i64 a0_4, .int .i64 a0_5, .bool a0_6, .int .i64 a0_7, .int .i64 a0_8, .slice A0_9 l0_9.length c0_9] 67 (0, 0)) (skK BK267.out)) : gb267 ≠ gb268)); have n6_ := asd ((by rw [hg]; exact Nat.ne_of_gt (blk_lt (g := gb267) (o := .cells #[.int .i64 a0_0, .bool a0_1, .int .i64 a0_2, .int .i64 a0_3, .int .i64 a0_4, .int .i64 a0_5, .bool a0_6, .int .i64 a0_7, .int .i64 a0_8, .slice A0_9 l0_9.length c0_9] 67 (0, 0)) (skK BK267.out)) : gb268 ≠ gb267)); clear BK267; clear HB; have BK267 := n0_; have HB := n1_; have BK268 := n2_; have GW268 := n3_; have GE268 := n4_; have NB267_268 := n5_; have NB268_267 := n6_; clear n0_ n1_ n2_ n3_ n4_ n5_ n6_; clear hb hbox hg; have hnb15 := NB267_268.out; have hnc15 := NB268_267.out; have hcz16_0 : w14.cell? ⟨gb267, 0, none⟩ = some (.int .i64 a0_0) := (blk_cell BK267.out 0).trans rfl; have hcz16_1 : w14.cell? ⟨gb267, 1, none⟩ = some (.bool a0_1) := (blk_cell BK267.out 1).trans rfl; have hcz16_2 : w14.cell? ⟨gb267, 2, none⟩ = some (.int .i64 a0_2) := (blk_cell BK267.out 2).trans rfl; have hcz16_3 : w14.cell? ⟨gb267, 3, none⟩ = some (.int .i64 a0_3) := (blk_cell BK267.out 3).trans rfl; have hcz16_4 : w14.cell? ⟨gb267, 4, none⟩ = some (.int .i64 a0_4) := (blk_cell BK267.out 4).trans rfl; have hcz16_5 : w14.cell? ⟨gb267, 5, none⟩ = some (.int .i64 a0_5) := (blk_cell BK267.out 5).trans rfl; have hcz16_6 : w14.cell? ⟨gb267, 6, none⟩ = some (.bool a0_6) := (blk_cell BK267.out 6).trans rfl; have hcz16_7 : w14.cell? ⟨gb267, 7, none⟩ = some (.int .i64 a0_7) := (blk_cell BK267.out 7).trans rfl; have hcz16_8 : w14.cell? ⟨gb267, 8, none⟩ = some (.int .i64 a0_8) := (blk_cell BK267.out 8).trans rfl; have hcz16_9 : w14.cell? ⟨gb267, 9, none⟩ = some (.slice A0_9 l0_9.length c0_9) := (blk_cell BK267.out 9).trans rfl; have hfz16_0 := blk_frozen BK267.out 0; have hfz16_1 := blk_frozen BK267.out 1; have hfz16_2 := blk_frozen BK267.out 2; have hfz16_3 := blk_frozen BK267.out 3; have hfz16_4 := blk_frozen BK267.out 4; have hfz16_5 := blk_frozen BK267.out 5; have hfz16_6 := blk_frozen BK267.out 6; have hfz16_7 := blk_frozen BK267.out 7; have hfz16_8 := blk_frozen BK267.out 8; have hfz16_9 := blk_frozen BK267.out 9; have hcz17_0 : w14.cell? ⟨gb268, 0, none⟩ = some (.int .i64 a1_0) := (blk_cell BK268.out 0).trans rfl; have hcz17_1 : w14.cell? ⟨gb268, 1, none⟩ = some (.bool a1_1) := (blk_cell BK268.out 1).trans rfl; have hcz17_2 : w14.cell? ⟨gb268, 2, none⟩ = some (.int .i64 a1_2) := (blk_cell BK268.out 2).trans rfl; have hcz17_3 : w14.cell? ⟨gb268, 3, none⟩ = some (.int .i64 a1_3) := (blk_cell BK268.out 3).trans rfl; have hcz17_4 : w14.cell? ⟨gb268, 4, none⟩ = some (.int .i64 a1_4) := (blk_cell BK268.out 4).trans rfl; have hcz17_5 : w14.cell? ⟨gb268, 5, none⟩ = some (.int .i64 a1_5) := (blk_cell BK268.out 5).trans rfl; have hcz17_6 : w14.cell? ⟨gb268, 6, none⟩ = some (.bool a1_6) := (blk_cell BK268.out 6).trans rfl; have hcz17_7 : w14.cell? ⟨gb268, 7, none⟩ = some (.int .i64 a1_7) := (blk_cell BK268.out 7).trans rfl; have hcz17_8 : w14.cell? ⟨gb268, 8, none⟩ = some (.int .i64 a1_8) := (blk_cell BK268.out 8).trans rfl; have hcz17_9 : w14.cell? ⟨gb268, 9, none⟩ = some (.slice A1_9 l1_9.length c1_9) := (blk_cell BK268.out 9).trans rfl; have hfz17_0 := blk_frozen BK268.out 0; have hfz17_1 := blk_frozen BK268.out 1; have hfz17_2 := blk_frozen BK268.out 2; have hfz17_3 := blk_frozen BK268.out 3; have hfz17_4 := blk_frozen BK268.out 4; have hfz17_5 := blk_frozen BK268.out 5; have hfz17_6 := blk_frozen BK268.out 6; have hfz17_7 := blk_frozen BK268.out 7; have hfz17_8 := blk_frozen BK268.out 8; have hfz17_9 := blk_frozen BK268.out 9))
    go_ret
    exact ⟨re, skG HB.out GE267.out GE268.out⟩
  ·
   rw [if_neg c4] at H
   have c4b0 : (a0_1 == a1_1) = false := by simpa using c4
   (try (have c4b1 : decide (a0_1 = a1_1) = false := by simpa using c4))
   (try (have c4b2 : (a0_1 == a1_1) = false := by simpa using c4))
   (try (have c4b3 : ¬ (a0_1 = a1_1) := by simpa using c4))
   clear c4
   obtain rfl := Option.some.inj H
   go_enter Try.func54, Try.ntmps54
   go_wp2_with (first | ((with_reducible refine gate_dst (N := 2) rfl ?_); refine box_event ?hg (N := 2) ?hd (cs := #[.int .i64 a0_0, .bool a0_1, .int .i64 a0_2, .int .i64 a0_3, .int .i64 a0_4, .int .i64 a0_5, .bool a0_6, .int .i64 a0_7, .int .i64 a0_8, .slice A0_9 l0_9.length c0_9]) (t := 67) ?hr ?_; (case hd => rfl); (case hg => rfl); (case hr => first | (go_simp; done) | (go_simp; rfl)); intro gb267 hg w18 hbox hb; have n0_ := asd (below_step (skB HB.out) hb); have n1_ := asd (hbox); have n2_ := asd ((by rw [hg]; exact (below_size (skB HB.out)) : w.heap.size ≤ gb267)); have n3_ := asd ((by rw [hg]; exact (below_size (skB HB.out)) : w.heap.size ≤ gb267)); clear HB; have HB := n0_; have BK267 := n1_; have GW267 := n2_; have GE267 := n3_; clear n0_ n1_ n2_ n3_; clear hb hbox hg) | ((with_reducible refine gate_dst (N := 3) rfl ?_); refine box_event ?hg (N := 3) ?hd (cs := #[.int .i64 a1_0, .bool a1_1, .int .i64 a1_2, .int .i64 a1_3, .int .i64 a1_4, .int .i64 a1_5, .bool a1_6, .int .i64 a1_7, .int .i64 a1_8, .slice A1_9 l1_9.length c1_9]) (t := 67) ?hr ?_; (case hd => rfl); (case hg => rfl); (case hr => first | (go_simp; done) | (go_simp; rfl)); intro gb268 hg w19 hbox hb; have n0_ := asd (blk_below (g := gb267) (o := .cells #[.int .i64 a0_0, .bool a0_1, .int .i64 a0_2, .int .i64 a0_3, .int .i64 a0_4, .int .i64 a0_5, .bool a0_6, .int .i64 a0_7, .int .i64 a0_8, .slice A0_9 l0_9.length c0_9] 67 (0, 0)) (skK BK267.out) hb); have n1_ := asd (below_step (skG HB.out GE267.out GE267.out) hb); have n2_ := asd (hbox); have n3_ := asd ((by rw [hg]; exact (below_size (skG HB.out GE267.out GE267.out)) : w.heap.size ≤ gb268)); have n4_ := asd ((by rw [hg]; exact (below_size (skG HB.out GE267.out GE267.out)) : w.heap.size ≤ gb268)); have n5_ := asd ((by rw [hg]; exact Nat.ne_of_lt (blk_lt (g := gb267) (o := .cells #[.int .i64 a0_0, .bool a0_1, .int .i64 a0_2, .int .i64 a0_3, .int .i64 a0_4, .int .i64 a0_5, .bool a0_6, .int .i64 a0_7, .int .i64 a0_8, .slice A0_9 l0_9.length c0_9] 67 (0, 0)) (skK BK267.out)) : gb267 ≠ gb268)); have n6_ := asd ((by rw [hg]; exact Nat.ne_of_gt (blk_lt (g := gb267) (o := .cells #[.int .i64 a0_0, .bool a0_1, .int .i64 a0_2, .int .i64 a0_3, .int .i64 a0_4, .int .i64 a0_5, .bool a0_6, .int .i64 a0_7, .int .i64 a0_8, .slice A0_9 l0_9.length c0_9] 67 (0, 0)) (skK BK267.out)) : gb268 ≠ gb267)); clear BK267; clear HB; have BK267 := n0_; have HB := n1_; have BK268 := n2_; have GW268 := n3_; have GE268 := n4_; have NB267_268 := n5_; have NB268_267 := n6_; clear n0_ n1_ n2_ n3_ n4_ n5_ n6_; clear hb hbox hg; have hnb20 := NB267_268.out; have hnc20 := NB268_267.out; have hcz21_0 : w19.cell? ⟨gb267, 0, none⟩ = some (.int .i64 a0_0) := (blk_cell BK267.out 0).trans rfl; have hcz21_1 : w19.cell? ⟨gb267, 1, none⟩ = some (.bool a0_1) := (blk_cell BK267.out 1).trans rfl; have hcz21_2 : w19.cell? ⟨gb267, 2, none⟩ = some (.int .i64 a0_2) := (blk_cell BK267.out 2).trans rfl; have hcz21_3 : w19.cell? ⟨gb267, 3, none⟩ = some (.int .i64 a0_3) := (blk_cell BK267.out 3).trans rfl; have hcz21_4 : w19.cell? ⟨gb267, 4, none⟩ = some (.int .i64 a0_4) := (blk_cell BK267.out 4).trans rfl; have hcz21_5 : w19.cell? ⟨gb267, 5, none⟩ = some (.int .i64 a0_5) := (blk_cell BK267.out 5).trans rfl; have hcz21_6 : w19.cell? ⟨gb267, 6, none⟩ = some (.bool a0_6) := (blk_cell BK267.out 6).trans rfl; have hcz21_7 : w19.cell? ⟨gb267, 7, none⟩ = some (.int .i64 a0_7) := (blk_cell BK267.out 7).trans rfl; have hcz21_8 : w19.cell? ⟨gb267, 8, none⟩ = some (.int .i64 a0_8) := (blk_cell BK267.out 8).trans rfl; have hcz21_9 : w19.cell? ⟨gb267, 9, none⟩ = some (.slice A0_9 l0_9.length c0_9) := (blk_cell BK267.out 9).trans rfl; have hfz21_0 := blk_frozen BK267.out 0; have hfz21_1 := blk_frozen BK267.out 1; have hfz21_2 := blk_frozen BK267.out 2; have hfz21_3 := blk_frozen BK267.out 3; have hfz21_4 := blk_frozen BK267.out 4; have hfz21_5 := blk_frozen BK267.out 5; have hfz21_6 := blk_frozen BK267.out 6; have hfz21_7 := blk_frozen BK267.out 7; have hfz21_8 := blk_frozen BK267.out 8; have hfz21_9 := blk_frozen BK267.out 9; have hcz22_0 : w19.cell? ⟨gb268, 0, none⟩ = some (.int .i64 a1_0) := (blk_cell BK268.out 0).trans rfl; have hcz22_1 : w19.cell? ⟨gb268, 1, none⟩ = some (.bool a1_1) := (blk_cell BK268.out 1).trans rfl; have hcz22_2 : w19.cell? ⟨gb268, 2, none⟩ = some (.int .i64 a1_2) := (blk_cell BK268.out 2).trans rfl; have hcz22_3 : w19.cell? ⟨gb268, 3, none⟩ = some (.int .i64 a1_3) := (blk_cell BK268.out 3).trans rfl; have hcz22_4 : w19.cell? ⟨gb268, 4, none⟩ = some (.int .i64 a1_4) := (blk_cell BK268.out 4).trans rfl; have hcz22_5 : w19.cell? ⟨gb268, 5, none⟩ = some (.int .i64 a1_5) := (blk_cell BK268.out 5).trans rfl; have hcz22_6 : w19.cell? ⟨gb268, 6, none⟩ = some (.bool a1_6) := (blk_cell BK268.out 6).trans rfl; have hcz22_7 : w19.cell? ⟨gb268, 7, none⟩ = some (.int .i64 a1_7) := (blk_cell BK268.out 7).trans rfl; have hcz22_8 : w19.cell? ⟨gb268, 8, none⟩ = some (.int .i64 a1_8) := (blk_cell BK268.out 8).trans rfl; have hcz22_9 : w19.cell? ⟨gb268, 9, none⟩ = some (.slice A1_9 l1_9.length c1_9) := (blk_cell BK268.out 9).trans rfl; have hfz22_0 := blk_frozen BK268.out 0; have hfz22_1 := blk_frozen BK268.out 1; have hfz22_2 := blk_frozen BK268.out 2; have hfz22_3 := blk_frozen BK268.out 3; have hfz22_4 := blk_frozen BK268.out 4; have hfz22_5 := blk_frozen BK268.out 5; have hfz22_6 := blk_frozen BK268.out 6; have hfz22_7 := blk_frozen BK268.out 7; have hfz22_8 := blk_frozen BK268.out 8; have hfz22_9 := blk_frozen BK268.out 9))
   go_ret
   exact ⟨re, skG HB.out GE267.out GE268.out⟩
 ·
  rw [if_neg c3] at H
  have c3b0 : (a0_0 == a1_0) = false := beq_eq_false_iff_ne.mpr c3
  have c3b1 : (a0_0 != a1_0) = true := bne_iff_ne.mpr c3
  obtain rfl := Option.some.inj H
  go_enter Try.func54, Try.ntmps54
  go_wp2_with (first | ((with_reducible refine gate_dst (N := 2) rfl ?_); refine box_event ?hg (N := 2) ?hd (cs := #[.int .i64 a0_0, .bool a0_1, .int .i64 a0_2, .int .i64 a0_3, .int .i64 a0_4, .int .i64 a0_5, .bool a0_6, .int .i64 a0_7, .int .i64 a0_8, .slice A0_9 l0_9.length c0_9]) (t := 67) ?hr ?_; (case hd => rfl); (case hg => rfl); (case hr => first | (go_simp; done) | (go_simp; rfl)); intro gb267 hg w23 hbox hb; have n0_ := asd (below_step (skB HB.out) hb); have n1_ := asd (hbox); have n2_ := asd ((by rw [hg]; exact (below_size (skB HB.out)) : w.heap.size ≤ gb267)); have n3_ := asd ((by rw [hg]; exact (below_size (skB HB.out)) : w.heap.size ≤ gb267)); clear HB; have HB := n0_; have BK267 := n1_; have GW267 := n2_; have GE267 := n3_; clear n0_ n1_ n2_ n3_; clear hb hbox hg) | ((with_reducible refine gate_dst (N := 3) rfl ?_); refine box_event ?hg (N := 3) ?hd (cs := #[.int .i64 a1_0, .bool a1_1, .int .i64 a1_2, .int .i64 a1_3, .int .i64 a1_4, .int .i64 a1_5, .bool a1_6, .int .i64 a1_7, .int .i64 a1_8, .slice A1_9 l1_9.length c1_9]) (t := 67) ?hr ?_; (case hd => rfl); (case hg => rfl); (case hr => first | (go_simp; done) | (go_simp; rfl)); intro gb268 hg w24 hbox hb; have n0_ := asd (blk_below (g := gb267) (o := .cells #[.int .i64 a0_0, .bool a0_1, .int .i64 a0_2, .int .i64 a0_3, .int .i64 a0_4, .int .i64 a0_5, .bool a0_6, .int .i64 a0_7, .int .i64 a0_8, .slice A0_9 l0_9.length c0_9] 67 (0, 0)) (skK BK267.out) hb); have n1_ := asd (below_step (skG HB.out GE267.out GE267.out) hb); have n2_ := asd (hbox); have n3_ := asd ((by rw [hg]; exact (below_size (skG HB.out GE267.out GE267.out)) : w.heap.size ≤ gb268)); have n4_ := asd ((by rw [hg]; exact (below_size (skG HB.out GE267.out GE267.out)) : w.heap.size ≤ gb268)); have n5_ := asd ((by rw [hg]; exact Nat.ne_of_lt (blk_lt (g := gb267) (o := .cells #[.int .i64 a0_0, .bool a0_1, .int .i64 a0_2, .int .i64 a0_3, .int .i64 a0_4, .int .i64 a0_5, .bool a0_6, .int .i64 a0_7, .int .i64 a0_8, .slice A0_9 l0_9.length c0_9] 67 (0, 0)) (skK BK267.out)) : gb267 ≠ gb268)); have n6_ := asd ((by rw [hg]; exact Nat.ne_of_gt (blk_lt (g := gb267) (o := .cells #[.int .i64 a0_0, .bool a0_1, .int .i64 a0_2, .int .i64 a0_3, .int .i64 a0_4, .int .i64 a0_5, .bool a0_6, .int .i64 a0_7, .int .i64 a0_8, .slice A0_9 l0_9.length c0_9] 67 (0, 0)) (skK BK267.out)) : gb268 ≠ gb267)); clear BK267; clear HB; have BK267 := n0_; have HB := n1_; have BK268 := n2_; have GW268 := n3_; have GE268 := n4_; have NB267_268 := n5_; have NB268_267 := n6_; clear n0_ n1_ n2_ n3_ n4_ n5_ n6_; clear hb hbox hg; have hnb25 := NB267_268.out; have hnc25 := NB268_267.out; have hcz26_0 : w24.cell? ⟨gb267, 0, none⟩ = some (.int .i64 a0_0) := (blk_cell BK267.out 0).trans rfl; have hcz26_1 : w24.cell? ⟨gb267, 1, none⟩ = some (.bool a0_1) := (blk_cell BK267.out 1).trans rfl; have hcz26_2 : w24.cell? ⟨gb267, 2, none⟩ = some (.int .i64 a0_2) := (blk_cell BK267.out 2).trans rfl; have hcz26_3 : w24.cell? ⟨gb267, 3, none⟩ = some (.int .i64 a0_3) := (blk_cell BK267.out 3).trans rfl; have hcz26_4 : w24.cell? ⟨gb267, 4, none⟩ = some (.int .i64 a0_4) := (blk_cell BK267.out 4).trans rfl; have hcz26_5 : w24.cell? ⟨gb267, 5, none⟩ = some (.int .i64 a0_5) := (blk_cell BK267.out 5).trans rfl; have hcz26_6 : w24.cell? ⟨gb267, 6, none⟩ = some (.bool a0_6) := (blk_cell BK267.out 6).trans rfl; have hcz26_7 : w24.cell? ⟨gb267, 7, none⟩ = some (.int .i64 a0_7) := (blk_cell BK267.out 7).trans rfl; have hcz26_8 : w24.cell? ⟨gb267, 8, none⟩ = some (.int .i64 a0_8) := (blk_cell BK267.out 8).trans rfl; have hcz26_9 : w24.cell? ⟨gb267, 9, none⟩ = some (.slice A0_9 l0_9.length c0_9) := (blk_cell BK267.out 9).trans rfl; have hfz26_0 := blk_frozen BK267.out 0; have hfz26_1 := blk_frozen BK267.out 1; have hfz26_2 := blk_frozen BK267.out 2; have hfz26_3 := blk_frozen BK267.out 3; have hfz26_4 := blk_frozen BK267.out 4; have hfz26_5 := blk_frozen BK267.out 5; have hfz26_6 := blk_frozen BK267.out 6; have hfz26_7 := blk_frozen BK267.out 7; have hfz26_8 := blk_frozen BK267.out 8; have hfz26_9 := blk_frozen BK267.out 9; have hcz27_0 : w24.cell? ⟨gb268, 0, none⟩ = some (.int .i64 a1_0) := (blk_cell BK268.out 0).trans rfl; have hcz27_1 : w24.cell? ⟨gb268, 1, none⟩ = some (.bool a1_1) := (blk_cell BK268.out 1).trans rfl; have hcz27_2 : w24.cell? ⟨gb268, 2, none⟩ = some (.int .i64 a1_2) := (blk_cell BK268.out 2).trans rfl; have hcz27_3 : w24.cell? ⟨gb268, 3, none⟩ = some (.int .i64 a1_3) := (blk_cell BK268.out 3).trans rfl; have hcz27_4 : w24.cell? ⟨gb268, 4, none⟩ = some (.int .i64 a1_4) := (blk_cell BK268.out 4).trans rfl; have hcz27_5 : w24.cell? ⟨gb268, 5, none⟩ = some (.int .i64 a1_5) := (blk_cell BK268.out 5).trans rfl; have hcz27_6 : w24.cell? ⟨gb268, 6, none⟩ = some (.bool a1_6) := (blk_cell BK268.out 6).trans rfl; have hcz27_7 : w24.cell? ⟨gb268, 7, none⟩ = some (.int .i64 a1_7) := (blk_cell BK268.out 7).trans rfl; have hcz27_8 : w24.cell? ⟨gb268, 8, none⟩ = some (.int .i64 a1_8) := (blk_cell BK268.out 8).trans rfl; have hcz27_9 : w24.cell? ⟨gb268, 9, none⟩ = some (.slice A1_9 l1_9.length c1_9) := (blk_cell BK268.out 9).trans rfl; have hfz27_0 := blk_frozen BK268.out 0; have hfz27_1 := blk_frozen BK268.out 1; have hfz27_2 := blk_frozen BK268.out 2; have hfz27_3 := blk_frozen BK268.out 3; have hfz27_4 := blk_frozen BK268.out 4; have hfz27_5 := blk_frozen BK268.out 5; have hfz27_6 := blk_frozen BK268.out 6; have hfz27_7 := blk_frozen BK268.out 7; have hfz27_8 := blk_frozen BK268.out 8; have hfz27_9 := blk_frozen BK268.out 9))
  go_ret
  exact ⟨re, skG HB.out GE267.out GE268.out⟩
end Go.Proofs.Ytagdkmcgepidoaa.P
/- F35 -/
namespace Go.Proofs.Ytagdkmcgepidoaa.P
open Go.RowKit Go.Proofs.YtagdkmcgepidoaaW.PrintWords Go.Proofs.YtagdkmcgepidoaaW.PrintLast Go.Proofs.YtagdkmcgepidoaaW.PrintMore
attribute [local go_sem] max2_int min2_int max_two min_two max_three min_three max_four min_four   -- for this text's walks alone
set_option linter.unusedVariables false
set_option linter.unusedSimpArgs false
def larchref05_SameEvents.l0 : Nat → List (S67) → List (S67) → Int → Option (Bool)
 | 0, _, _, _ => none
 | k + 1, x0, x1, x5 => if x5 < (x0.length : Int) then (if 0 ≤ x5 then (if x5 < (x1.length : Int) then ((larchref05_sameEvent.f k ((J67 x0 x5).f0) ((J67 x0 x5).f1) ((J67 x0 x5).f2.f0) ((J67 x0 x5).f2.f1) ((J67 x0 x5).f2.f2) ((J67 x0 x5).f2.f3) ((J67 x0 x5).f3.f0) ((J67 x0 x5).f3.f1) ((J67 x0 x5).f3.f2) ((J67 x0 x5).f3.f3) ((J67 x1 x5).f0) ((J67 x1 x5).f1) ((J67 x1 x5).f2.f0) ((J67 x1 x5).f2.f1) ((J67 x1 x5).f2.f2) ((J67 x1 x5).f2.f3) ((J67 x1 x5).f3.f0) ((J67 x1 x5).f3.f1) ((J67 x1 x5).f3.f2) ((J67 x1 x5).f3.f3)).bind fun t272 => (if t272 = true then (larchref05_SameEvents.l0 k x0 x1 (wrap64 (x5 + 1))) else (some false))) else (none)) else (none)) else (some true)
def larchref05_SameEvents.f (k : Nat) (l0 : List (S67)) (l1 : List (S67)) : Option (Bool) := if (l0.length : Int) = (l1.length : Int) then (larchref05_SameEvents.l0 k l0 l1 0) else (some false)
def larchref05_SameEvents.T6 : Bool × List (List Nat × List Nat) := (true, [([], []), ([], []), ([0, 1], [0, 1]), ([2], [2]), ([], []), ([], []), ([4, 5], [4, 5]), ([6], [6]), ([3, 7], [3, 7]), ([8], [8])])
def larchref05_SameEvents.B6 : List Nat := [0, 0, 3, 7, 0, 0, 48, 112, 255, 511]
theorem larchref05_SameEvents.tab6 : rtab .any (opsOf Try.f29 6) = larchref05_SameEvents.T6 := by kernel_rfl
theorem larchref05_SameEvents.bits6 : waitsOk larchref05_SameEvents.T6.2 larchref05_SameEvents.B6 = true := by kernel_rfl
set_option maxHeartbeats 8000000 in
set_option maxRecDepth 100000 in
theorem larchref05_SameEvents.calls (k : Nat) (A0 : Option Addr) (c0 : Nat) (l0 : List (S67)) (A1 : Option Addr) (c1 : Nat) (l1 : List (S67)) (r : Bool) (w : World) (hr0 : Kd.C k67 w A0 l0.length l0) (hc0 : l0.length ≤ c0) (hr1 : Kd.C k67 w A1 l1.length l1) (hc1 : l1.length ≤ c1) (h : larchref05_SameEvents.f k l0 l1 = some r) :
  Calls Try.prog 29 #[.slice A0 l0.length c0, .slice A1 l1.length c1] w fun e w' => e = .returned (.bool r) ∧ Below w.heap.size w w' := by
 have hu67 := Try.underlying67
 have HR0 := asd hr0
 have HC0 := asd hc0
 clear hr0 hc0
 have HR1 := asd hr1
 have HC1 := asd hc1
 clear hr1 hc1
 have HB := asd (Below.refl w.heap.size w)
 have H : (if (l0.length : Int) = (l1.length : Int) then (larchref05_SameEvents.l0 k l0 l1 0) else (some false)) = some r := h
 clear h
 by_cases c3 : (l0.length : Int) = (l1.length : Int)
 ·
  rw [if_pos c3] at H
  have c3b0 : ((l0.length : Int) == (l1.length : Int)) = true := beq_iff_eq.mpr c3
  have c3b1 : ((l0.length : Int) != (l1.length : Int)) = false := bne_eq_false_iff_eq.mpr c3
  have c3b2 : (l0.length == l1.length) = true := by first | simpa using c3 | (simp at c3 ⊢; omega)
  clear c3
  have H' := asd H
  clear H
  go_enter Try.func29, Try.ntmps29
  go_wp2
  go_loopg [5] k (fun kq v5 w' => ∃ (x5_1 : Int), v5 = .int .i64 x5_1 ∧ Aside0 (larchref05_SameEvents.l0 kq l0 l1 x5_1 = some r) ∧ Aside0 (kq ≤ k) ∧ Aside0 (Below w.heap.size w w'))
  case atStart => exact ⟨(0), rs, H', ⟨Nat.le_refl _⟩, ⟨skB HB.out⟩⟩
  case round =>
   clear H'
   try clear c1
   try clear c2
   try clear p2
   try clear c3
   try clear c3b0
   try clear c3b1
   try clear c3b2
   obtain ⟨x5_1, rfl, HA, HK1, HB⟩ := hrel
   cases gk with
   | zero => exact absurd HA.out (by simp [larchref05_SameEvents.l0])
   | succ k1 =>
    have H := HA.out
    clear HA
    simp only [larchref05_SameEvents.l0] at H
    by_cases c4 : x5_1 < (l0.length : Int)
    ·
     rw [if_pos c4] at H
     have c4b0 : decide (x5_1 < (l0.length : Int)) = true := decide_eq_true c4
     clear c4
     by_cases c5 : 0 ≤ x5_1
     ·
      rw [if_pos c5] at H
      have c5b0 : decide (0 ≤ x5_1) = true := decide_eq_true c5
      clear c5
      by_cases c6 : x5_1 < (l1.length : Int)
      ·
       rw [if_pos c6] at H
       have c6b0 : decide (x5_1 < (l1.length : Int)) = true := decide_eq_true c6
       clear c6
       replace H := Option.bind_eq_some_iff.mp H
       obtain ⟨t272, A70, H⟩ := H
       replace H : (if t272 = true then (larchref05_SameEvents.l0 k1 l0 l1 (wrap64 (x5_1 + 1))) else (some false)) = some r := H
       have A7 := asd A70
       clear A70
       by_cases c8 : t272 = true
       ·
        subst c8
        have H1 : (larchref05_SameEvents.l0 k1 l0 l1 (wrap64 (x5_1 + 1))) = some r := by rw [if_pos rfl] at H; exact H
        clear H
        have H := H1
        clear H1
        have H' := asd H
        clear H
        try go_wp2
        have n0_ := asd (below_drew1 HB.out)
        clear HB
        have HB := n0_
        clear n0_
        have p270 : 0 ≤ (x5_1 : Int) := dt
        have q270 : x5_1 < (l0.length : Int) := dt
        obtain ⟨ad270, A270_9, c270_9, e270, hx270_0, hx270_1, hx270_2, hx270_3, hx270_4, hx270_5, hx270_6, hx270_7, hx270_8, hx270_9, hl270_9, hi270_9⟩ := at_T67 HR0.out x5_1 p270 q270
        have hw270_9 := hx270_9
        have hw270_8 := hx270_8
        have hw270_7 := hx270_7
        have hw270_6 := hx270_6
        have hw270_5 := hx270_5
        have hw270_4 := hx270_4
        have hw270_3 := hx270_3
        have hw270_2 := hx270_2
        have hw270_1 := hx270_1
        have hw270_0 := hx270_0
        cases e270
        replace hx270_0 := skc HB.out hx270_0
        replace hx270_1 := skc HB.out hx270_1
        replace hx270_2 := skc HB.out hx270_2
        replace hx270_3 := skc HB.out hx270_3
        replace hx270_4 := skc HB.out hx270_4
        replace hx270_5 := skc HB.out hx270_5
        replace hx270_6 := skc HB.out hx270_6
        replace hx270_7 := skc HB.out hx270_7
        replace hx270_8 := skc HB.out hx270_8
        replace hx270_9 := skc HB.out hx270_9
        have HR270_9 := asd hi270_9
        have HC270_9 := asd hl270_9
        clear hi270_9 hl270_9
        replace p270 := eq_true p270
        replace q270 := eq_true q270
        have p271 : 0 ≤ (x5_1 : Int) := dt
        have q271 : x5_1 < (l1.length : Int) := dt
        obtain ⟨ad271, A271_9, c271_9, e271, hx271_0, hx271_1, hx271_2, hx271_3, hx271_4, hx271_5, hx271_6, hx271_7, hx271_8, hx271_9, hl271_9, hi271_9⟩ := at_T67 HR1.out x5_1 p271 q271
        have hw271_9 := hx271_9
        have hw271_8 := hx271_8
        have hw271_7 := hx271_7
        have hw271_6 := hx271_6
        have hw271_5 := hx271_5
        have hw271_4 := hx271_4
        have hw271_3 := hx271_3
        have hw271_2 := hx271_2
        have hw271_1 := hx271_1
        have hw271_0 := hx271_0
        cases e271
        replace hx271_0 := skc HB.out hx271_0
        replace hx271_1 := skc HB.out hx271_1
        replace hx271_2 := skc HB.out hx271_2
        replace hx271_3 := skc HB.out hx271_3
        replace hx271_4 := skc HB.out hx271_4
        replace hx271_5 := skc HB.out hx271_5
        replace hx271_6 := skc HB.out hx271_6
        replace hx271_7 := skc HB.out hx271_7
        replace hx271_8 := skc HB.out hx271_8
        replace hx271_9 := skc HB.out hx271_9
        have HR271_9 := asd hi271_9
        have HC271_9 := asd hl271_9
        clear hi271_9 hl271_9
        replace p271 := eq_true p271
        replace q271 := eq_true q271
        refine start_ (n := 10) (S := fun w' => w'.cell? (ad270.add ((x5_1).toNat * 10)) = some (.int .i64 ((J67 l0 x5_1).f0)) ∧ w'.cell? ⟨(ad270.add ((x5_1).toNat * 10)).block, (ad270.add ((x5_1).toNat * 10)).off + 1, none⟩ = some (.bool ((J67 l0 x5_1).f1)) ∧ w'.cell? ⟨(ad270.add ((x5_1).toNat * 10)).block, (ad270.add ((x5_1).toNat * 10)).off + 2, none⟩ = some (.int .i64 ((J67 l0 x5_1).f2.f0)) ∧ w'.cell? ⟨(ad270.add ((x5_1).toNat * 10)).block, (ad270.add ((x5_1).toNat * 10)).off + 3, none⟩ = some (.int .i64 ((J67 l0 x5_1).f2.f1)) ∧ w'.cell? ⟨(ad270.add ((x5_1).toNat * 10)).block, (ad270.add ((x5_1).toNat * 10)).off + 4, none⟩ = some (.int .i64 ((J67 l0 x5_1).f2.f2)) ∧ w'.cell? ⟨(ad270.add ((x5_1).toNat * 10)).block, (ad270.add ((x5_1).toNat * 10)).off + 5, none⟩ = some (.int .i64 ((J67 l0 x5_1).f2.f3)) ∧ w'.cell? ⟨(ad270.add ((x5_1).toNat * 10)).block, (ad270.add ((x5_1).toNat * 10)).off + 6, none⟩ = some (.bool ((J67 l0 x5_1).f3.f0)) ∧ w'.cell? ⟨(ad270.add ((x5_1).toNat * 10)).block, (ad270.add ((x5_1).toNat * 10)).off + 7, none⟩ = some (.int .i64 ((J67 l0 x5_1).f3.f1)) ∧ w'.cell? ⟨(ad270.add ((x5_1).toNat * 10)).block, (ad270.add ((x5_1).toNat * 10)).off + 8, none⟩ = some (.int .i64 ((J67 l0 x5_1).f3.f2)) ∧ w'.cell? ⟨(ad270.add ((x5_1).toNat * 10)).block, (ad270.add ((x5_1).toNat * 10)).off + 9, none⟩ = some (.slice A270_9 ((J67 l0 x5_1).f3.f3).length c270_9) ∧ w'.cell? (ad271.add ((x5_1).toNat * 10)) = some (.int .i64 ((J67 l1 x5_1).f0)) ∧ w'.cell? ⟨(ad271.add ((x5_1).toNat * 10)).block, (ad271.add ((x5_1).toNat * 10)).off + 1, none⟩ = some (.bool ((J67 l1 x5_1).f1)) ∧ w'.cell? ⟨(ad271.add ((x5_1).toNat * 10)).block, (ad271.add ((x5_1).toNat * 10)).off + 2, none⟩ = some (.int .i64 ((J67 l1 x5_1).f2.f0)) ∧ w'.cell? ⟨(ad271.add ((x5_1).toNat * 10)).block, (ad271.add ((x5_1).toNat * 10)).off + 3, none⟩ = some (.int .i64 ((J67 l1 x5_1).f2.f1)) ∧ w'.cell? ⟨(ad271.add ((x5_1).toNat * 10)).block, (ad271.add ((x5_1).toNat * 10)).off + 4, none⟩ = some (.int .i64 ((J67 l1 x5_1).f2.f2)) ∧ w'.cell? ⟨(ad271.add ((x5_1).toNat * 10)).block, (ad271.add ((x5_1).toNat * 10)).off + 5, none⟩ = some (.int .i64 ((J67 l1 x5_1).f2.f3)) ∧ w'.cell? ⟨(ad271.add ((x5_1).toNat * 10)).block, (ad271.add ((x5_1).toNat * 10)).off + 6, none⟩ = some (.bool ((J67 l1 x5_1).f3.f0)) ∧ w'.cell? ⟨(ad271.add ((x5_1).toNat * 10)).block, (ad271.add ((x5_1).toNat * 10)).off + 7, none⟩ = some (.int .i64 ((J67 l1 x5_1).f3.f1)) ∧ w'.cell? ⟨(ad271.add ((x5_1).toNat * 10)).block, (ad271.add ((x5_1).toNat * 10)).off + 8, none⟩ = some (.int .i64 ((J67 l1 x5_1).f3.f2)) ∧ w'.cell? ⟨(ad271.add ((x5_1).toNat * 10)).block, (ad271.add ((x5_1).toNat * 10)).off + 9, none⟩ = some (.slice A271_9 ((J67 l1 x5_1).f3.f3).length c271_9)) (ds := []) #[false,false,false,false,false,false,false,false,false,false] (by kernel_rfl) rfl rfl ⟨(skc HB.out hw270_0), (skc HB.out hw270_1), (skc HB.out hw270_2), (skc HB.out hw270_3), (skc HB.out hw270_4), (skc HB.out hw270_5), (skc HB.out hw270_6), (skc HB.out hw270_7), (skc HB.out hw270_8), (skc HB.out hw270_9), (skc HB.out hw271_0), (skc HB.out hw271_1), (skc HB.out hw271_2), (skc HB.out hw271_3), (skc HB.out hw271_4), (skc HB.out hw271_5), (skc HB.out hw271_6), (skc HB.out hw271_7), (skc HB.out hw271_8), (skc HB.out hw271_9)⟩ (fun hHeld => ?_); refine with_tabW larchref05_SameEvents.tab6 larchref05_SameEvents.bits6 (fun HT_ HW_ => ?_)
        generalize wr.drew = w9 at HB HR270_9 HR271_9 hx270_0 hx270_1 hx270_2 hx270_3 hx270_4 hx270_5 hx270_6 hx270_7 hx270_8 hx270_9 hx271_0 hx271_1 hx271_2 hx271_3 hx271_4 hx271_5 hx271_6 hx271_7 hx271_8 hx271_9 hHeld ⊢
        refine pure_ (i := 0) (N := some 17) (v := ?_) (a' := ?_) #[true,false,false,false,false,false,false,false,false,false] rfl rfl (aK HT_.out) (fun _ _ _ h => h) (Or.inl ⟨by rfl, ?_⟩) ?_ ?_
        rotate_left
        ·
         intro w'
         go_simp
         with_reducible rfl
        rotate_left
        ·
         simp only [Act.put, sp]
         rfl
        refine pure_ (i := 1) (N := some 18) (v := ?_) (a' := ?_) #[true,true,false,false,false,false,false,false,false,false] rfl rfl (aK HT_.out) (fun _ _ _ h => h) (Or.inl ⟨by rfl, ?_⟩) ?_ ?_
        rotate_left
        ·
         intro w'
         go_simp
         with_reducible rfl
        rotate_left
        ·
         simp only [Act.put, sp]
         rfl
        refine pure_ (i := 2) (N := some 19) (v := ?_) (a' := ?_) #[true,true,true,false,false,false,false,false,false,false] rfl rfl (aK HT_.out) (fun _ _ _ h => h) (Or.inl ⟨by rfl, ?_⟩) ?_ ?_
        rotate_left
        ·
         intro w'
         go_simp
         with_reducible rfl
        rotate_left
        ·
         simp only [Act.put, sp]
         rfl
        refine pure_ (i := 4) (N := some 21) (v := ?_) (a' := ?_) #[true,true,true,false,true,false,false,false,false,false] rfl rfl (aK HT_.out) (fun _ _ _ h => h) (Or.inl ⟨by rfl, ?_⟩) ?_ ?_
        rotate_left
        ·
         intro w'
         go_simp
         with_reducible rfl
        rotate_left
        ·
         simp only [Act.put, sp]
         rfl
        refine pure_ (i := 5) (N := some 22) (v := ?_) (a' := ?_) #[true,true,true,false,true,true,false,false,false,false] rfl rfl (aK HT_.out) (fun _ _ _ h => h) (Or.inl ⟨by rfl, ?_⟩) ?_ ?_
        rotate_left
        ·
         intro w'
         go_simp
         with_reducible rfl
        rotate_left
        ·
         simp only [Act.put, sp]
         rfl
        refine pure_ (i := 6) (N := some 23) (v := ?_) (a' := ?_) #[true,true,true,false,true,true,true,false,false,false] rfl rfl (aK HT_.out) (fun _ _ _ h => h) (Or.inl ⟨by rfl, ?_⟩) ?_ ?_
        rotate_left
        ·
         intro w'
         go_simp
         with_reducible rfl
        rotate_left
        ·
         simp only [Act.put, sp]
         rfl
        refine take_ (i := 3) (N := some 20) (v := ?_) (a' := ?_) #[true,true,true,true,true,true,true,false,false,false] rfl rfl (take_ofW HT_.out HW_.out (by kernel_rfl)) (fun _ _ _ h => h) (Or.inl ⟨by rfl, ?_⟩) hHeld ?_ ?_
        rotate_left
        ·
         rintro w' ⟨s0, s1, s2, s3, s4, s5, s6, s7, s8, s9, s10, s11, s12, s13, s14, s15, s16, s17, s18, s19⟩
         go_simp
         with_reducible rfl
        rotate_left
        ·
         simp only [Act.put, sp]
         rfl
        refine take_ (i := 7) (N := some 24) (v := ?_) (a' := ?_) #[true,true,true,true,true,true,true,true,false,false] rfl rfl (take_ofW HT_.out HW_.out (by kernel_rfl)) (fun _ _ _ h => h) (Or.inl ⟨by rfl, ?_⟩) hHeld ?_ ?_
        rotate_left
        ·
         rintro w' ⟨s0, s1, s2, s3, s4, s5, s6, s7, s8, s9, s10, s11, s12, s13, s14, s15, s16, s17, s18, s19⟩
         go_simp
         with_reducible rfl
        rotate_left
        ·
         simp only [Act.put, sp]
         rfl
        refine one_ (i := 8) (N := some 25) #[true,true,true,true,true,true,true,true,true,false] rfl rfl (one_of HT_.out (by kernel_rfl)) (by decide) (fun K hK => ?_)
        refine goes_ Try.func54 (by kernel_rfl) rfl #[.agg #[.int .i64 ((J67 l0 x5_1).f0), .bool ((J67 l0 x5_1).f1), .int .i64 ((J67 l0 x5_1).f2.f0), .int .i64 ((J67 l0 x5_1).f2.f1), .int .i64 ((J67 l0 x5_1).f2.f2), .int .i64 ((J67 l0 x5_1).f2.f3), .bool ((J67 l0 x5_1).f3.f0), .int .i64 ((J67 l0 x5_1).f3.f1), .int .i64 ((J67 l0 x5_1).f3.f2), .slice A270_9 ((J67 l0 x5_1).f3.f3).length c270_9], .agg #[.int .i64 ((J67 l1 x5_1).f0), .bool ((J67 l1 x5_1).f1), .int .i64 ((J67 l1 x5_1).f2.f0), .int .i64 ((J67 l1 x5_1).f2.f1), .int .i64 ((J67 l1 x5_1).f2.f2), .int .i64 ((J67 l1 x5_1).f2.f3), .bool ((J67 l1 x5_1).f3.f0), .int .i64 ((J67 l1 x5_1).f3.f1), .int .i64 ((J67 l1 x5_1).f3.f2), .slice A271_9 ((J67 l1 x5_1).f3.f3).length c271_9]] (by rfl) rfl rfl ags ?_
        with_reducible refine (larchref05_sameEvent.calls k1 ((J67 l0 x5_1).f0) ((J67 l0 x5_1).f1) ((J67 l0 x5_1).f2.f0) ((J67 l0 x5_1).f2.f1) ((J67 l0 x5_1).f2.f2) ((J67 l0 x5_1).f2.f3) ((J67 l0 x5_1).f3.f0) ((J67 l0 x5_1).f3.f1) ((J67 l0 x5_1).f3.f2) _ _ ((J67 l0 x5_1).f3.f3) ((J67 l1 x5_1).f0) ((J67 l1 x5_1).f1) ((J67 l1 x5_1).f2.f0) ((J67 l1 x5_1).f2.f1) ((J67 l1 x5_1).f2.f2) ((J67 l1 x5_1).f2.f3) ((J67 l1 x5_1).f3.f0) ((J67 l1 x5_1).f3.f1) ((J67 l1 x5_1).f3.f2) _ _ ((J67 l1 x5_1).f3.f3) true _ ?side1 ?side2 ?side3 ?side4 A7.out).mono ?_
        (case side1 => exact skC (Kd.C_below HR270_9.out HB.out))
        (case side2 => exact HC270_9.out)
        (case side3 => exact skC (Kd.C_below HR271_9.out HB.out))
        (case side4 => exact HC271_9.out)
        rintro e w10 ⟨rfl, hb⟩
        refine ⟨_, rfl, ?_⟩
        have n0_ := asd (below_step (skB HB.out) hb)
        clear HB
        have HB := n0_
        clear n0_
        (try clear hb)
        (try clear hb2)
        (try clear hk)
        (try clear hi)
        refine hK.out _ _ ⟨(skc HB.out hw270_0), (skc HB.out hw270_1), (skc HB.out hw270_2), (skc HB.out hw270_3), (skc HB.out hw270_4), (skc HB.out hw270_5), (skc HB.out hw270_6), (skc HB.out hw270_7), (skc HB.out hw270_8), (skc HB.out hw270_9), (skc HB.out hw271_0), (skc HB.out hw271_1), (skc HB.out hw271_2), (skc HB.out hw271_3), (skc HB.out hw271_4), (skc HB.out hw271_5), (skc HB.out hw271_6), (skc HB.out hw271_7), (skc HB.out hw271_8), (skc HB.out hw271_9)⟩ (fun hHeld => ?_)
        clear hK K
        refine norm_ (a' := ?_) ?_ ?_
        rotate_left
        ·
         show Act.put _ (some 25) _ = _
         simp only [Act.put, sp]
         rfl
        refine pure_ (i := 9) (N := some 26) (v := ?_) (a' := ?_) #[true,true,true,true,true,true,true,true,true,true] rfl rfl (aK HT_.out) (fun _ _ _ h => h) (Or.inl ⟨by rfl, ?_⟩) ?_ ?_
        rotate_left
        ·
         intro w'
         go_simp
         with_reducible rfl
        rotate_left
        ·
         simp only [Act.put, sp]
         rfl
        refine done_ (done_of HT_.out (by kernel_rfl)) ?_
        try go_wp2
        go_roundg k1
        case measure => have := HK1.out; omega
        case rel => exact ⟨(wrap64 (x5_1 + 1)), rs, H', ⟨by have := HK1.out; omega⟩, ⟨skB HB.out⟩⟩
       ·
        replace c8 := Bool.eq_false_iff.mpr c8
        subst c8
        have H1 : (some false) = some r := by rw [if_neg (show ¬ (false = true) by decide)] at H; exact H
        clear H
        have H := H1
        clear H1
        obtain rfl := Option.some.inj H
        try go_wp2
        have n0_ := asd (below_drew1 HB.out)
        clear HB
        have HB := n0_
        clear n0_
        have p270 : 0 ≤ (x5_1 : Int) := dt
        have q270 : x5_1 < (l0.length : Int) := dt
        obtain ⟨ad270, A270_9, c270_9, e270, hx270_0, hx270_1, hx270_2, hx270_3, hx270_4, hx270_5, hx270_6, hx270_7, hx270_8, hx270_9, hl270_9, hi270_9⟩ := at_T67 HR0.out x5_1 p270 q270
        have hw270_9 := hx270_9
        have hw270_8 := hx270_8
        have hw270_7 := hx270_7
        have hw270_6 := hx270_6
        have hw270_5 := hx270_5
        have hw270_4 := hx270_4
        have hw270_3 := hx270_3
        have hw270_2 := hx270_2
        have hw270_1 := hx270_1
        have hw270_0 := hx270_0
        cases e270
        replace hx270_0 := skc HB.out hx270_0
        replace hx270_1 := skc HB.out hx270_1
        replace hx270_2 := skc HB.out hx270_2
        replace hx270_3 := skc HB.out hx270_3
        replace hx270_4 := skc HB.out hx270_4
        replace hx270_5 := skc HB.out hx270_5
        replace hx270_6 := skc HB.out hx270_6
        replace hx270_7 := skc HB.out hx270_7
        replace hx270_8 := skc HB.out hx270_8
        replace hx270_9 := skc HB.out hx270_9
        have HR270_9 := asd hi270_9
        have HC270_9 := asd hl270_9
        clear hi270_9 hl270_9
        replace p270 := eq_true p270
        replace q270 := eq_true q270
        have p271 : 0 ≤ (x5_1 : Int) := dt
        have q271 : x5_1 < (l1.length : Int) := dt
        obtain ⟨ad271, A271_9, c271_9, e271, hx271_0, hx271_1, hx271_2, hx271_3, hx271_4, hx271_5, hx271_6, hx271_7, hx271_8, hx271_9, hl271_9, hi271_9⟩ := at_T67 HR1.out x5_1 p271 q271
        have hw271_9 := hx271_9
        have hw271_8 := hx271_8
        have hw271_7 := hx271_7
        have hw271_6 := hx271_6
        have hw271_5 := hx271_5
        have hw271_4 := hx271_4
        have hw271_3 := hx271_3
        have hw271_2 := hx271_2
        have hw271_1 := hx271_1
        have hw271_0 := hx271_0
        cases e271
        replace hx271_0 := skc HB.out hx271_0
        replace hx271_1 := skc HB.out hx271_1
        replace hx271_2 := skc HB.out hx271_2
        replace hx271_3 := skc HB.out hx271_3
        replace hx271_4 := skc HB.out hx271_4
        replace hx271_5 := skc HB.out hx271_5
        replace hx271_6 := skc HB.out hx271_6
        replace hx271_7 := skc HB.out hx271_7
        replace hx271_8 := skc HB.out hx271_8
        replace hx271_9 := skc HB.out hx271_9
        have HR271_9 := asd hi271_9
        have HC271_9 := asd hl271_9
        clear hi271_9 hl271_9
        replace p271 := eq_true p271
        replace q271 := eq_true q271
        refine start_ (n := 10) (S := fun w' => w'.cell? (ad270.add ((x5_1).toNat * 10)) = some (.int .i64 ((J67 l0 x5_1).f0)) ∧ w'.cell? ⟨(ad270.add ((x5_1).toNat * 10)).block, (ad270.add ((x5_1).toNat * 10)).off + 1, none⟩ = some (.bool ((J67 l0 x5_1).f1)) ∧ w'.cell? ⟨(ad270.add ((x5_1).toNat * 10)).block, (ad270.add ((x5_1).toNat * 10)).off + 2, none⟩ = some (.int .i64 ((J67 l0 x5_1).f2.f0)) ∧ w'.cell? ⟨(ad270.add ((x5_1).toNat * 10)).block, (ad270.add ((x5_1).toNat * 10)).off + 3, none⟩ = some (.int .i64 ((J67 l0 x5_1).f2.f1)) ∧ w'.cell? ⟨(ad270.add ((x5_1).toNat * 10)).block, (ad270.add ((x5_1).toNat * 10)).off + 4, none⟩ = some (.int .i64 ((J67 l0 x5_1).f2.f2)) ∧ w'.cell? ⟨(ad270.add ((x5_1).toNat * 10)).block, (ad270.add ((x5_1).toNat * 10)).off + 5, none⟩ = some (.int .i64 ((J67 l0 x5_1).f2.f3)) ∧ w'.cell? ⟨(ad270.add ((x5_1).toNat * 10)).block, (ad270.add ((x5_1).toNat * 10)).off + 6, none⟩ = some (.bool ((J67 l0 x5_1).f3.f0)) ∧ w'.cell? ⟨(ad270.add ((x5_1).toNat * 10)).block, (ad270.add ((x5_1).toNat * 10)).off + 7, none⟩ = some (.int .i64 ((J67 l0 x5_1).f3.f1)) ∧ w'.cell? ⟨(ad270.add ((x5_1).toNat * 10)).block, (ad270.add ((x5_1).toNat * 10)).off + 8, none⟩ = some (.int .i64 ((J67 l0 x5_1).f3.f2)) ∧ w'.cell? ⟨(ad270.add ((x5_1).toNat * 10)).block, (ad270.add ((x5_1).toNat * 10)).off + 9, none⟩ = some (.slice A270_9 ((J67 l0 x5_1).f3.f3).length c270_9) ∧ w'.cell? (ad271.add ((x5_1).toNat * 10)) = some (.int .i64 ((J67 l1 x5_1).f0)) ∧ w'.cell? ⟨(ad271.add ((x5_1).toNat * 10)).block, (ad271.add ((x5_1).toNat * 10)).off + 1, none⟩ = some (.bool ((J67 l1 x5_1).f1)) ∧ w'.cell? ⟨(ad271.add ((x5_1).toNat * 10)).block, (ad271.add ((x5_1).toNat * 10)).off + 2, none⟩ = some (.int .i64 ((J67 l1 x5_1).f2.f0)) ∧ w'.cell? ⟨(ad271.add ((x5_1).toNat * 10)).block, (ad271.add ((x5_1).toNat * 10)).off + 3, none⟩ = some (.int .i64 ((J67 l1 x5_1).f2.f1)) ∧ w'.cell? ⟨(ad271.add ((x5_1).toNat * 10)).block, (ad271.add ((x5_1).toNat * 10)).off + 4, none⟩ = some (.int .i64 ((J67 l1 x5_1).f2.f2)) ∧ w'.cell? ⟨(ad271.add ((x5_1).toNat * 10)).block, (ad271.add ((x5_1).toNat * 10)).off + 5, none⟩ = some (.int .i64 ((J67 l1 x5_1).f2.f3)) ∧ w'.cell? ⟨(ad271.add ((x5_1).toNat * 10)).block, (ad271.add ((x5_1).toNat * 10)).off + 6, none⟩ = some (.bool ((J67 l1 x5_1).f3.f0)) ∧ w'.cell? ⟨(ad271.add ((x5_1).toNat * 10)).block, (ad271.add ((x5_1).toNat * 10)).off + 7, none⟩ = some (.int .i64 ((J67 l1 x5_1).f3.f1)) ∧ w'.cell? ⟨(ad271.add ((x5_1).toNat * 10)).block, (ad271.add ((x5_1).toNat * 10)).off + 8, none⟩ = some (.int .i64 ((J67 l1 x5_1).f3.f2)) ∧ w'.cell? ⟨(ad271.add ((x5_1).toNat * 10)).block, (ad271.add ((x5_1).toNat * 10)).off + 9, none⟩ = some (.slice A271_9 ((J67 l1 x5_1).f3.f3).length c271_9)) (ds := []) #[false,false,false,false,false,false,false,false,false,false] (by kernel_rfl) rfl rfl ⟨(skc HB.out hw270_0), (skc HB.out hw270_1), (skc HB.out hw270_2), (skc HB.out hw270_3), (skc HB.out hw270_4), (skc HB.out hw270_5), (skc HB.out hw270_6), (skc HB.out hw270_7), (skc HB.out hw270_8), (skc HB.out hw270_9), (skc HB.out hw271_0), (skc HB.out hw271_1), (skc HB.out hw271_2), (skc HB.out hw271_3), (skc HB.out hw271_4), (skc HB.out hw271_5), (skc HB.out hw271_6), (skc HB.out hw271_7), (skc HB.out hw271_8), (skc HB.out hw271_9)⟩ (fun hHeld => ?_); refine with_tabW larchref05_SameEvents.tab6 larchref05_SameEvents.bits6 (fun HT_ HW_ => ?_)
        generalize wr.drew = w11 at HB HR270_9 HR271_9 hx270_0 hx270_1 hx270_2 hx270_3 hx270_4 hx270_5 hx270_6 hx270_7 hx270_8 hx270_9 hx271_0 hx271_1 hx271_2 hx271_3 hx271_4 hx271_5 hx271_6 hx271_7 hx271_8 hx271_9 hHeld ⊢
        refine pure_ (i := 0) (N := some 17) (v := ?_) (a' := ?_) #[true,false,false,false,false,false,false,false,false,false] rfl rfl (aK HT_.out) (fun _ _ _ h => h) (Or.inl ⟨by rfl, ?_⟩) ?_ ?_
        rotate_left
        ·
         intro w'
         go_simp
         with_reducible rfl
        rotate_left
        ·
         simp only [Act.put, sp]
         rfl
        refine pure_ (i := 1) (N := some 18) (v := ?_) (a' := ?_) #[true,true,false,false,false,false,false,false,false,false] rfl rfl (aK HT_.out) (fun _ _ _ h => h) (Or.inl ⟨by rfl, ?_⟩) ?_ ?_
        rotate_left
        ·
         intro w'
         go_simp
         with_reducible rfl
        rotate_left
        ·
         simp only [Act.put, sp]
         rfl
        refine pure_ (i := 2) (N := some 19) (v := ?_) (a' := ?_) #[true,true,true,false,false,false,false,false,false,false] rfl rfl (aK HT_.out) (fun _ _ _ h => h) (Or.inl ⟨by rfl, ?_⟩) ?_ ?_
        rotate_left
        ·
         intro w'
         go_simp
         with_reducible rfl
        rotate_left
        ·
         simp only [Act.put, sp]
         rfl
        refine pure_ (i := 4) (N := some 21) (v := ?_) (a' := ?_) #[true,true,true,false,true,false,false,false,false,false] rfl rfl (aK HT_.out) (fun _ _ _ h => h) (Or.inl ⟨by rfl, ?_⟩) ?_ ?_
        rotate_left
        ·
         intro w'
         go_simp
         with_reducible rfl
        rotate_left
        ·
         simp only [Act.put, sp]
         rfl
        refine pure_ (i := 5) (N := some 22) (v := ?_) (a' := ?_) #[true,true,true,false,true,true,false,false,false,false] rfl rfl (aK HT_.out) (fun _ _ _ h => h) (Or.inl ⟨by rfl, ?_⟩) ?_ ?_
        rotate_left
        ·
         intro w'
         go_simp
         with_reducible rfl
        rotate_left
        ·
         simp only [Act.put, sp]
         rfl
        refine pure_ (i := 6) (N := some 23) (v := ?_) (a' := ?_) #[true,true,true,false,true,true,true,false,false,false] rfl rfl (aK HT_.out) (fun _ _ _ h => h) (Or.inl ⟨by rfl, ?_⟩) ?_ ?_
        rotate_left
        ·
         intro w'
         go_simp
         with_reducible rfl
        rotate_left
        ·
         simp only [Act.put, sp]
         rfl
        refine take_ (i := 3) (N := some 20) (v := ?_) (a' := ?_) #[true,true,true,true,true,true,true,false,false,false] rfl rfl (take_ofW HT_.out HW_.out (by kernel_rfl)) (fun _ _ _ h => h) (Or.inl ⟨by rfl, ?_⟩) hHeld ?_ ?_
        rotate_left
        ·
         rintro w' ⟨s0, s1, s2, s3, s4, s5, s6, s7, s8, s9, s10, s11, s12, s13, s14, s15, s16, s17, s18, s19⟩
         go_simp
         with_reducible rfl
        rotate_left
        ·
         simp only [Act.put, sp]
         rfl
        refine take_ (i := 7) (N := some 24) (v := ?_) (a' := ?_) #[true,true,true,true,true,true,true,true,false,false] rfl rfl (take_ofW HT_.out HW_.out (by kernel_rfl)) (fun _ _ _ h => h) (Or.inl ⟨by rfl, ?_⟩) hHeld ?_ ?_
        rotate_left
        ·
         rintro w' ⟨s0, s1, s2, s3, s4, s5, s6, s7, s8, s9, s10, s11, s12, s13, s14, s15, s16, s17, s18, s19⟩
         go_simp
         with_reducible rfl
        rotate_left
        ·
         simp only [Act.put, sp]
         rfl
        refine one_ (i := 8) (N := some 25) #[true,true,true,true,true,true,true,true,true,false] rfl rfl (one_of HT_.out (by kernel_rfl)) (by decide) (fun K hK => ?_)
        refine goes_ Try.func54 (by kernel_rfl) rfl #[.agg #[.int .i64 ((J67 l0 x5_1).f0), .bool ((J67 l0 x5_1).f1), .int .i64 ((J67 l0 x5_1).f2.f0), .int .i64 ((J67 l0 x5_1).f2.f1), .int .i64 ((J67 l0 x5_1).f2.f2), .int .i64 ((J67 l0 x5_1).f2.f3), .bool ((J67 l0 x5_1).f3.f0), .int .i64 ((J67 l0 x5_1).f3.f1), .int .i64 ((J67 l0 x5_1).f3.f2), .slice A270_9 ((J67 l0 x5_1).f3.f3).length c270_9], .agg #[.int .i64 ((J67 l1 x5_1).f0), .bool ((J67 l1 x5_1).f1), .int .i64 ((J67 l1 x5_1).f2.f0), .int .i64 ((J67 l1 x5_1).f2.f1), .int .i64 ((J67 l1 x5_1).f2.f2), .int .i64 ((J67 l1 x5_1).f2.f3), .bool ((J67 l1 x5_1).f3.f0), .int .i64 ((J67 l1 x5_1).f3.f1), .int .i64 ((J67 l1 x5_1).f3.f2), .slice A271_9 ((J67 l1 x5_1).f3.f3).length c271_9]] (by rfl) rfl rfl ags ?_
        with_reducible refine (larchref05_sameEvent.calls k1 ((J67 l0 x5_1).f0) ((J67 l0 x5_1).f1) ((J67 l0 x5_1).f2.f0) ((J67 l0 x5_1).f2.f1) ((J67 l0 x5_1).f2.f2) ((J67 l0 x5_1).f2.f3) ((J67 l0 x5_1).f3.f0) ((J67 l0 x5_1).f3.f1) ((J67 l0 x5_1).f3.f2) _ _ ((J67 l0 x5_1).f3.f3) ((J67 l1 x5_1).f0) ((J67 l1 x5_1).f1) ((J67 l1 x5_1).f2.f0) ((J67 l1 x5_1).f2.f1) ((J67 l1 x5_1).f2.f2) ((J67 l1 x5_1).f2.f3) ((J67 l1 x5_1).f3.f0) ((J67 l1 x5_1).f3.f1) ((J67 l1 x5_1).f3.f2) _ _ ((J67 l1 x5_1).f3.f3) false _ ?side1 ?side2 ?side3 ?side4 A7.out).mono ?_
        (case side1 => exact skC (Kd.C_below HR270_9.out HB.out))
        (case side2 => exact HC270_9.out)
        (case side3 => exact skC (Kd.C_below HR271_9.out HB.out))
        (case side4 => exact HC271_9.out)
        rintro e w12 ⟨rfl, hb⟩
        refine ⟨_, rfl, ?_⟩
        have n0_ := asd (below_step (skB HB.out) hb)
        clear HB
        have HB := n0_
        clear n0_
        (try clear hb)
        (try clear hb2)
        (try clear hk)
        (try clear hi)
        refine hK.out _ _ ⟨(skc HB.out hw270_0), (skc HB.out hw270_1), (skc HB.out hw270_2), (skc HB.out hw270_3), (skc HB.out hw270_4), (skc HB.out hw270_5), (skc HB.out hw270_6), (skc HB.out hw270_7), (skc HB.out hw270_8), (skc HB.out hw270_9), (skc HB.out hw271_0), (skc HB.out hw271_1), (skc HB.out hw271_2), (skc HB.out hw271_3), (skc HB.out hw271_4), (skc HB.out hw271_5), (skc HB.out hw271_6), (skc HB.out hw271_7), (skc HB.out hw271_8), (skc HB.out hw271_9)⟩ (fun hHeld => ?_)
        clear hK K
        refine norm_ (a' := ?_) ?_ ?_
        rotate_left
        ·
         show Act.put _ (some 25) _ = _
         simp only [Act.put, sp]
         rfl
        refine pure_ (i := 9) (N := some 26) (v := ?_) (a' := ?_) #[true,true,true,true,true,true,true,true,true,true] rfl rfl (aK HT_.out) (fun _ _ _ h => h) (Or.inl ⟨by rfl, ?_⟩) ?_ ?_
        rotate_left
        ·
         intro w'
         go_simp
         with_reducible rfl
        rotate_left
        ·
         simp only [Act.put, sp]
         rfl
        refine done_ (done_of HT_.out (by kernel_rfl)) ?_
        try go_wp2
        go_ret
        exact ⟨re, skB HB.out⟩
      ·
       rw [if_neg c6] at H
       exact absurd H (by simp)
     ·
      rw [if_neg c5] at H
      exact absurd H (by simp)
    ·
     rw [if_neg c4] at H
     have c4b0 : decide (x5_1 < (l0.length : Int)) = false := decide_eq_false c4
     clear c4
     obtain rfl := Option.some.inj H
     go_wp2
     go_ret
     exact ⟨re, skB HB.out⟩
 ·
  rw [if_neg c3] at H
  have c3b0 : ((l0.length : Int) == (l1.length : Int)) = false := beq_eq_false_iff_ne.mpr c3
  have c3b1 : ((l0.length : Int) != (l1.length : Int)) = true := bne_iff_ne.mpr c3
  have c3b2 : (l0.length == l1.length) = false := by first | simpa using c3 | (simp at c3 ⊢; omega)
  obtain rfl := Option.some.inj H
  go_enter Try.func29, Try.ntmps29
  go_wp2
  go_ret
  exact ⟨re, skB HB.out⟩
end Go.Proofs.Ytagdkmcgepidoaa.P
/- F36 -/
namespace Go.Proofs.Ytagdkmcgepidoaa.P
open Go.RowKit Go.Proofs.YtagdkmcgepidoaaW.PrintWords Go.Proofs.YtagdkmcgepidoaaW.PrintLast Go.Proofs.YtagdkmcgepidoaaW.PrintMore
attribute [local go_sem] max2_int min2_int max_two min_two max_three min_three max_four min_four   -- for this text's walks alone
set_option linter.unusedVariables false
set_option linter.unusedSimpArgs false
end Go.Proofs.Ytagdkmcgepidoaa.P
/- F44 -/
namespace Go.Proofs.Ytagdkmcgepidoaa.P
open Go.RowKit Go.Proofs.YtagdkmcgepidoaaW.PrintWords Go.Proofs.YtagdkmcgepidoaaW.PrintLast Go.Proofs.YtagdkmcgepidoaaW.PrintMore
attribute [local go_sem] max2_int min2_int max_two min_two max_three min_three max_four min_four   -- for this text's walks alone
set_option linter.unusedVariables false
set_option linter.unusedSimpArgs false
def event_places.l0 : Nat → List Int → List (S38) → Int → Int → Option (List Int)
 | 0, _, _, _, _ => none
 | k + 1, x5, x11, x12, x13 => if x13 < x12 then (if 0 ≤ x13 then (if x13 < (x11.length : Int) then (if 0 ≤ ((J38 x11 x13).f3) then (if ((J38 x11 x13).f3) < (x5.length : Int) then ((some (x5.set (((J38 x11 x13).f3) : Int).toNat x13 : List Int)).bind fun y327 => (if ((J38 x11 x13).f4) ≥ 0 then (if 0 ≤ ((J38 x11 x13).f4) then (if ((J38 x11 x13).f4) < (x5.length : Int) then (event_places.l0 k (y327.set (((J38 x11 x13).f4) : Int).toNat x13) x11 x12 (wrap64 (x13 + 1))) else (none)) else (none)) else (event_places.l0 k y327 x11 x12 (wrap64 (x13 + 1))))) else (none)) else (none)) else (none)) else (none)) else (some x5)
def event_places.f (k : Nat) (l0 : List (S67)) (l1 : List (S38)) : Option (List Int) := if 0 ≤ (l0.length : Int) then (if ((l0.length : Int) : Int).toNat ≤ 35184372088832 then (event_places.l0 k (List.replicate ((l0.length : Int) : Int).toNat 0) l1 (l1.length : Int) 0) else (none)) else (none)
set_option maxHeartbeats 8000000 in
set_option maxRecDepth 100000 in
theorem event_places.calls (k : Nat) (A0 : Option Addr) (c0 : Nat) (l0 : List (S67)) (A1 : Option Addr) (c1 : Nat) (l1 : List (S38)) (r : List Int) (w : World) (hr0 : Kd.C k67 w A0 l0.length l0) (hc0 : l0.length ≤ c0) (hr1 : Kd.C k38 w A1 l1.length l1) (hc1 : l1.length ≤ c1) (h : event_places.f k l0 l1 = some r) :
  Calls Try.prog 57 #[.slice A0 l0.length c0, .slice A1 l1.length c1] w fun e w' => ∃ v0_ : Value, e = .returned (v0_) ∧ Kd.R (Kd.int .i64) 3 w' w.heap.size (fun _ => True) v0_ r ∧ Below w.heap.size w w' := by
 have hu38 := Try.underlying38
 have HR0 := asd hr0
 have HC0 := asd hc0
 clear hr0 hc0
 have HR1 := asd hr1
 have HC1 := asd hc1
 clear hr1 hc1
 have HB := asd (Below.refl w.heap.size w)
 have H : (if 0 ≤ (l0.length : Int) then (if ((l0.length : Int) : Int).toNat ≤ 35184372088832 then (event_places.l0 k (List.replicate ((l0.length : Int) : Int).toNat 0) l1 (l1.length : Int) 0) else (none)) else (none)) = some r := h
 clear h
 by_cases c3 : 0 ≤ (l0.length : Int)
 ·
  rw [if_pos c3] at H
  have c3b0 := eq_true c3
  have c3b1 : decide (0 ≤ (l0.length : Int)) = true := decide_eq_true c3
  clear c3
  by_cases c4 : ((l0.length : Int) : Int).toNat ≤ 35184372088832
  ·
   rw [if_pos c4] at H
   have c4b0 := eq_true c4
   have c4b1 : decide (((l0.length : Int) : Int).toNat ≤ 35184372088832) = true := decide_eq_true c4
   clear c4
   obtain ⟨y322, hy322⟩ : ∃ y_ : List Int, y_ = (List.replicate ((l0.length : Int) : Int).toNat 0) := ⟨_, rfl⟩
   replace H : (event_places.l0 k y322 l1 (l1.length : Int) 0) = some r := by first | (rw [hy322]; with_reducible exact H) | (have H2_ := (Option.bind_some _ _).symm.trans H; rw [hy322]; with_reducible exact H2_) | (have H2_ := (Option.bind_some _ _).symm.trans H; with_reducible exact H2_) | with_reducible exact H | (rw [hy322]; exact H) | exact H
   have Ny322 := asd hy322
   clear hy322
   have H' := asd H
   clear H
   go_enter Try.func57, Try.ntmps57
   go_wp2_with (first | ((with_reducible refine gate_dst (N := 10) rfl ?_); refine Kd.R_make (Kd.int .i64) _ 3 rfl (N := 10) rfl 41 _ _ rfl (l0.length : Int) rfl rfl Try.underlying41 (.int .i64 0) 8 info3 rfl (by decide) (by omega) 0 (ok := fun _ => True) (okp := fun _ => True) rfl (fun _ hk => hk) trivial dt (Nat.le_trans (Nat.mul_le_mul_right _ (dt : (l0.length : Int).toNat ≤ 35184372088832)) (by omega)) (Below.refl _ _) (Nat.le_refl _) ?_; intro v323 w5 ho6 hb hg_ hnew_; clear hg_ hnew_; (first | rw [← Ny322.out] at ho6 | (simp only [Int.reduceToNat] at ho6; rw [← Ny322.out] at ho6)); have n0_ := asd (Kd.R_lower ho6 (below_size (skB HB.out))); have n1_ := asd (below_step (skB HB.out) hb); clear HB; have HO324 := n0_; have HB := n1_; clear n0_ n1_; clear hb ho6))
   go_loopg [13] k (fun kq v13 w' => ∃ (x5_1 : List Int) (x13_1 : Int), v13 = .int .i64 x13_1 ∧ Aside0 (event_places.l0 kq x5_1 l1 (l1.length : Int) x13_1 = some r) ∧ Aside0 (kq ≤ k) ∧ Aside0 (Kd.R (Kd.int .i64) 3 w' w.heap.size (fun _ => True) v323 x5_1) ∧ Aside0 (Below w.heap.size w w'))
   case atStart => exact ⟨(y322), (0), rs, H', ⟨Nat.le_refl _⟩, ⟨skR HO324.out⟩, ⟨skB HB.out⟩⟩
   case round =>
    clear H'
    try clear c1
    try clear p2
    try clear c3
    try clear c3b0
    try clear c3b1
    try clear c4
    try clear c4b0
    try clear c4b1
    try clear c5
    obtain ⟨x5_1, x13_1, rfl, HA, HK1, HO_5, HB⟩ := hrel
    cases gk with
    | zero => exact absurd HA.out (by simp [event_places.l0])
    | succ k1 =>
     have H := HA.out
     clear HA
     simp only [event_places.l0] at H
     by_cases c7 : x13_1 < (l1.length : Int)
     ·
      rw [if_pos c7] at H
      have c7b0 : decide (x13_1 < (l1.length : Int)) = true := decide_eq_true c7
      clear c7
      by_cases c8 : 0 ≤ x13_1
      ·
       rw [if_pos c8] at H
       have c8b0 : decide (0 ≤ x13_1) = true := decide_eq_true c8
       clear c8
       by_cases c9 : x13_1 < (l1.length : Int)
       ·
        rw [if_pos c9] at H
        have c9b0 : decide (x13_1 < (l1.length : Int)) = true := decide_eq_true c9
        clear c9
        by_cases c10 : 0 ≤ ((J38 l1 x13_1).f3)
        ·
         rw [if_pos c10] at H
         have c10b0 : decide (0 ≤ ((J38 l1 x13_1).f3)) = true := decide_eq_true c10
         clear c10
         by_cases c11 : ((J38 l1 x13_1).f3) < (x5_1.length : Int)
         ·
          rw [if_pos c11] at H
          have c11b0 : decide (((J38 l1 x13_1).f3) < (x5_1.length : Int)) = true := decide_eq_true c11
          clear c11
          obtain ⟨y327, hy327⟩ : ∃ y_ : List Int, y_ = (x5_1.set (((J38 l1 x13_1).f3) : Int).toNat x13_1) := ⟨_, rfl⟩
          replace H : (if ((J38 l1 x13_1).f4) ≥ 0 then (if 0 ≤ ((J38 l1 x13_1).f4) then (if ((J38 l1 x13_1).f4) < (x5_1.length : Int) then (event_places.l0 k1 (y327.set (((J38 l1 x13_1).f4) : Int).toNat x13_1) l1 (l1.length : Int) (wrap64 (x13_1 + 1))) else (none)) else (none)) else (event_places.l0 k1 y327 l1 (l1.length : Int) (wrap64 (x13_1 + 1)))) = some r := by first | (rw [hy327]; with_reducible exact H) | (have H2_ := (Option.bind_some _ _).symm.trans H; rw [hy327]; with_reducible exact H2_) | (have H2_ := (Option.bind_some _ _).symm.trans H; with_reducible exact H2_) | with_reducible exact H | (rw [hy327]; exact H) | exact H
          have Ny327 := asd hy327
          clear hy327
          by_cases c13 : ((J38 l1 x13_1).f4) ≥ 0
          ·
           rw [if_pos c13] at H
           have c13b0 : decide (0 ≤ ((J38 l1 x13_1).f4)) = true := decide_eq_true c13
           clear c13
           by_cases c14 : 0 ≤ ((J38 l1 x13_1).f4)
           ·
            rw [if_pos c14] at H
            have c14b0 : decide (0 ≤ ((J38 l1 x13_1).f4)) = true := decide_eq_true c14
            clear c14
            by_cases c15 : ((J38 l1 x13_1).f4) < (x5_1.length : Int)
            ·
             rw [if_pos c15] at H
             have c15b0 : decide (((J38 l1 x13_1).f4) < (x5_1.length : Int)) = true := decide_eq_true c15
             clear c15
             obtain ⟨y328, hy328⟩ : ∃ y_ : List Int, y_ = (y327.set (((J38 l1 x13_1).f4) : Int).toNat x13_1) := ⟨_, rfl⟩
             replace H : (event_places.l0 k1 y328 l1 (l1.length : Int) (wrap64 (x13_1 + 1))) = some r := by first | (rw [hy328]; with_reducible exact H) | (have H2_ := (Option.bind_some _ _).symm.trans H; rw [hy328]; with_reducible exact H2_) | (have H2_ := (Option.bind_some _ _).symm.trans H; with_reducible exact H2_) | with_reducible exact H | (rw [hy328]; exact H) | exact H
             have Ny328 := asd hy328
             clear hy328
             have H' := asd H
             clear H
             have p325 : 0 ≤ (x13_1 : Int) := dt
             have q325 : x13_1 < (l1.length : Int) := dt
             obtain ⟨ad325, A325_8, c325_8, e325, hx325_0, hx325_1, hx325_2, hx325_3, hx325_4, hx325_5, hx325_6, hx325_7, hx325_8, hx325_9, hx325_10, hl325_8, hi325_8⟩ := at_T38 HR1.out x13_1 p325 q325
             cases e325
             replace hx325_0 := skc HB.out hx325_0
             replace hx325_1 := skc HB.out hx325_1
             replace hx325_2 := skc HB.out hx325_2
             replace hx325_3 := skc HB.out hx325_3
             replace hx325_4 := skc HB.out hx325_4
             replace hx325_5 := skc HB.out hx325_5
             replace hx325_6 := skc HB.out hx325_6
             replace hx325_7 := skc HB.out hx325_7
             replace hx325_8 := skc HB.out hx325_8
             replace hx325_9 := skc HB.out hx325_9
             replace hx325_10 := skc HB.out hx325_10
             have HR325_8 := asd hi325_8
             have HC325_8 := asd hl325_8
             clear hi325_8 hl325_8
             replace p325 := eq_true p325
             replace q325 := eq_true q325
             go_wp2_with (first | ((with_reducible refine gate_dst (N := 7) rfl ?_); refine box_event ?hg (N := 7) ?hd (cs := #[.int .i64 0, .int .i64 0, .int .i64 0, .int .i64 0, .int .i64 0, .bool false, .int .i64 0, .int .i64 0, .slice none 0 0, .int .i64 0, .int .i64 0]) (t := 38) ?hr ?_; (case hd => rfl); (case hg => rfl); (case hr => first | (go_simp; done) | (go_simp; rfl)); intro gb326 hg w17 hbox hb; have n0_ := asd (Kd.R_below (skR HO_5.out) hb); have n1_ := asd (below_step (skB HB.out) hb); have n2_ := asd (hbox); have n3_ := asd ((by rw [hg]; exact (below_size (skB HB.out)) : w.heap.size ≤ gb326)); have n4_ := asd ((by rw [hg]; exact (below_size (skB HB.out)) : w.heap.size ≤ gb326)); clear HO_5; clear HB; have HO_5 := n0_; have HB := n1_; have BK326 := n2_; have GW326 := n3_; have GE326 := n4_; clear n0_ n1_ n2_ n3_ n4_; clear hb hbox hg; have hcz18_0 : w17.cell? ⟨gb326, 0, none⟩ = some (.int .i64 0) := (blk_cell BK326.out 0).trans rfl; have hcz18_1 : w17.cell? ⟨gb326, 1, none⟩ = some (.int .i64 0) := (blk_cell BK326.out 1).trans rfl; have hcz18_2 : w17.cell? ⟨gb326, 2, none⟩ = some (.int .i64 0) := (blk_cell BK326.out 2).trans rfl; have hcz18_3 : w17.cell? ⟨gb326, 3, none⟩ = some (.int .i64 0) := (blk_cell BK326.out 3).trans rfl; have hcz18_4 : w17.cell? ⟨gb326, 4, none⟩ = some (.int .i64 0) := (blk_cell BK326.out 4).trans rfl; have hcz18_5 : w17.cell? ⟨gb326, 5, none⟩ = some (.bool false) := (blk_cell BK326.out 5).trans rfl; have hcz18_6 : w17.cell? ⟨gb326, 6, none⟩ = some (.int .i64 0) := (blk_cell BK326.out 6).trans rfl; have hcz18_7 : w17.cell? ⟨gb326, 7, none⟩ = some (.int .i64 0) := (blk_cell BK326.out 7).trans rfl; have hcz18_8 : w17.cell? ⟨gb326, 8, none⟩ = some (.slice none 0 0) := (blk_cell BK326.out 8).trans rfl; have hcz18_9 : w17.cell? ⟨gb326, 9, none⟩ = some (.int .i64 0) := (blk_cell BK326.out 9).trans rfl; have hcz18_10 : w17.cell? ⟨gb326, 10, none⟩ = some (.int .i64 0) := (blk_cell BK326.out 10).trans rfl; have hfz18_0 := blk_frozen BK326.out 0; have hfz18_1 := blk_frozen BK326.out 1; have hfz18_2 := blk_frozen BK326.out 2; have hfz18_3 := blk_frozen BK326.out 3; have hfz18_4 := blk_frozen BK326.out 4; have hfz18_5 := blk_frozen BK326.out 5; have hfz18_6 := blk_frozen BK326.out 6; have hfz18_7 := blk_frozen BK326.out 7; have hfz18_8 := blk_frozen BK326.out 8; have hfz18_9 := blk_frozen BK326.out 9; have hfz18_10 := blk_frozen BK326.out 10) | ((with_reducible refine gate_store (t := 38) (p := 7) rfl ?_); refine store_event (t := 38) (p := 7) (v := ?vo_w19) (w1 := (((((((((((w17.setCell ⟨gb326, 0, none⟩ (.int .i64 ((J38 l1 x13_1).f0))).setCell ⟨gb326, 1, none⟩ (.int .i64 ((J38 l1 x13_1).f1.f0))).setCell ⟨gb326, 2, none⟩ (.int .i64 ((J38 l1 x13_1).f1.f1))).setCell ⟨gb326, 3, none⟩ (.int .i64 ((J38 l1 x13_1).f1.f2))).setCell ⟨gb326, 4, none⟩ (.int .i64 ((J38 l1 x13_1).f1.f3))).setCell ⟨gb326, 5, none⟩ (.bool ((J38 l1 x13_1).f2.f0))).setCell ⟨gb326, 6, none⟩ (.int .i64 ((J38 l1 x13_1).f2.f1))).setCell ⟨gb326, 7, none⟩ (.int .i64 ((J38 l1 x13_1).f2.f2))).setCell ⟨gb326, 8, none⟩ (.slice A325_8 ((J38 l1 x13_1).f2.f3).length c325_8)).setCell ⟨gb326, 9, none⟩ (.int .i64 ((J38 l1 x13_1).f3))).setCell ⟨gb326, 10, none⟩ (.int .i64 ((J38 l1 x13_1).f4)))) ?hg ?ho ?hn ?hr ?_; (case ho => rfl); (case hg => rfl); (case hn => rfl); (case hr => first | (go_simp; done) | (go_simp; rfl)); intro w19 hw; have n0_ : Aside0 (Kd.R (Kd.int .i64) 3 w19 w.heap.size (fun _ => True) v323 x5_1) := ⟨(by rw [hw]; exact (skR (Kd.R_mono (Kd.R_far (p := ⟨gb326, 10, none⟩) (Kd.R_far (p := ⟨gb326, 9, none⟩) (Kd.R_far (p := ⟨gb326, 8, none⟩) (Kd.R_far (p := ⟨gb326, 7, none⟩) (Kd.R_far (p := ⟨gb326, 6, none⟩) (Kd.R_far (p := ⟨gb326, 5, none⟩) (Kd.R_far (p := ⟨gb326, 4, none⟩) (Kd.R_far (p := ⟨gb326, 3, none⟩) (Kd.R_far (p := ⟨gb326, 2, none⟩) (Kd.R_far (p := ⟨gb326, 1, none⟩) (Kd.R_far (p := ⟨gb326, 0, none⟩) (Kd.R_types HO_5.out BK326.out (by decide)) (fun _ hk => hk.2) (.int .i64 ((J38 l1 x13_1).f0))) (fun _ hk => hk.2) (.int .i64 ((J38 l1 x13_1).f1.f0))) (fun _ hk => hk.2) (.int .i64 ((J38 l1 x13_1).f1.f1))) (fun _ hk => hk.2) (.int .i64 ((J38 l1 x13_1).f1.f2))) (fun _ hk => hk.2) (.int .i64 ((J38 l1 x13_1).f1.f3))) (fun _ hk => hk.2) (.bool ((J38 l1 x13_1).f2.f0))) (fun _ hk => hk.2) (.int .i64 ((J38 l1 x13_1).f2.f1))) (fun _ hk => hk.2) (.int .i64 ((J38 l1 x13_1).f2.f2))) (fun _ hk => hk.2) (.slice A325_8 ((J38 l1 x13_1).f2.f3).length c325_8)) (fun _ hk => hk.2) (.int .i64 ((J38 l1 x13_1).f3))) (fun _ hk => hk.2) (.int .i64 ((J38 l1 x13_1).f4))) (fun _ hk => trivial))))⟩; have n1_ : Aside0 (w19.heap[gb326]? = some (.cells #[.int .i64 ((J38 l1 x13_1).f0), .int .i64 ((J38 l1 x13_1).f1.f0), .int .i64 ((J38 l1 x13_1).f1.f1), .int .i64 ((J38 l1 x13_1).f1.f2), .int .i64 ((J38 l1 x13_1).f1.f3), .bool ((J38 l1 x13_1).f2.f0), .int .i64 ((J38 l1 x13_1).f2.f1), .int .i64 ((J38 l1 x13_1).f2.f2), .slice A325_8 ((J38 l1 x13_1).f2.f3).length c325_8, .int .i64 ((J38 l1 x13_1).f3), .int .i64 ((J38 l1 x13_1).f4)] 38 (0, 0))) := ⟨(by rw [hw]; exact (by refine skk ?_; refine blk_put (cs := #[.int .i64 ((J38 l1 x13_1).f0), .int .i64 ((J38 l1 x13_1).f1.f0), .int .i64 ((J38 l1 x13_1).f1.f1), .int .i64 ((J38 l1 x13_1).f1.f2), .int .i64 ((J38 l1 x13_1).f1.f3), .bool ((J38 l1 x13_1).f2.f0), .int .i64 ((J38 l1 x13_1).f2.f1), .int .i64 ((J38 l1 x13_1).f2.f2), .slice A325_8 ((J38 l1 x13_1).f2.f3).length c325_8, .int .i64 ((J38 l1 x13_1).f3), .int .i64 0]) ?_ 10 _ rfl; refine skk ?_; refine blk_put (cs := #[.int .i64 ((J38 l1 x13_1).f0), .int .i64 ((J38 l1 x13_1).f1.f0), .int .i64 ((J38 l1 x13_1).f1.f1), .int .i64 ((J38 l1 x13_1).f1.f2), .int .i64 ((J38 l1 x13_1).f1.f3), .bool ((J38 l1 x13_1).f2.f0), .int .i64 ((J38 l1 x13_1).f2.f1), .int .i64 ((J38 l1 x13_1).f2.f2), .slice A325_8 ((J38 l1 x13_1).f2.f3).length c325_8, .int .i64 0, .int .i64 0]) ?_ 9 _ rfl; refine skk ?_; refine blk_put (cs := #[.int .i64 ((J38 l1 x13_1).f0), .int .i64 ((J38 l1 x13_1).f1.f0), .int .i64 ((J38 l1 x13_1).f1.f1), .int .i64 ((J38 l1 x13_1).f1.f2), .int .i64 ((J38 l1 x13_1).f1.f3), .bool ((J38 l1 x13_1).f2.f0), .int .i64 ((J38 l1 x13_1).f2.f1), .int .i64 ((J38 l1 x13_1).f2.f2), .slice none 0 0, .int .i64 0, .int .i64 0]) ?_ 8 _ rfl; refine skk ?_; refine blk_put (cs := #[.int .i64 ((J38 l1 x13_1).f0), .int .i64 ((J38 l1 x13_1).f1.f0), .int .i64 ((J38 l1 x13_1).f1.f1), .int .i64 ((J38 l1 x13_1).f1.f2), .int .i64 ((J38 l1 x13_1).f1.f3), .bool ((J38 l1 x13_1).f2.f0), .int .i64 ((J38 l1 x13_1).f2.f1), .int .i64 0, .slice none 0 0, .int .i64 0, .int .i64 0]) ?_ 7 _ rfl; refine skk ?_; refine blk_put (cs := #[.int .i64 ((J38 l1 x13_1).f0), .int .i64 ((J38 l1 x13_1).f1.f0), .int .i64 ((J38 l1 x13_1).f1.f1), .int .i64 ((J38 l1 x13_1).f1.f2), .int .i64 ((J38 l1 x13_1).f1.f3), .bool ((J38 l1 x13_1).f2.f0), .int .i64 0, .int .i64 0, .slice none 0 0, .int .i64 0, .int .i64 0]) ?_ 6 _ rfl; refine skk ?_; refine blk_put (cs := #[.int .i64 ((J38 l1 x13_1).f0), .int .i64 ((J38 l1 x13_1).f1.f0), .int .i64 ((J38 l1 x13_1).f1.f1), .int .i64 ((J38 l1 x13_1).f1.f2), .int .i64 ((J38 l1 x13_1).f1.f3), .bool false, .int .i64 0, .int .i64 0, .slice none 0 0, .int .i64 0, .int .i64 0]) ?_ 5 _ rfl; refine skk ?_; refine blk_put (cs := #[.int .i64 ((J38 l1 x13_1).f0), .int .i64 ((J38 l1 x13_1).f1.f0), .int .i64 ((J38 l1 x13_1).f1.f1), .int .i64 ((J38 l1 x13_1).f1.f2), .int .i64 0, .bool false, .int .i64 0, .int .i64 0, .slice none 0 0, .int .i64 0, .int .i64 0]) ?_ 4 _ rfl; refine skk ?_; refine blk_put (cs := #[.int .i64 ((J38 l1 x13_1).f0), .int .i64 ((J38 l1 x13_1).f1.f0), .int .i64 ((J38 l1 x13_1).f1.f1), .int .i64 0, .int .i64 0, .bool false, .int .i64 0, .int .i64 0, .slice none 0 0, .int .i64 0, .int .i64 0]) ?_ 3 _ rfl; refine skk ?_; refine blk_put (cs := #[.int .i64 ((J38 l1 x13_1).f0), .int .i64 ((J38 l1 x13_1).f1.f0), .int .i64 0, .int .i64 0, .int .i64 0, .bool false, .int .i64 0, .int .i64 0, .slice none 0 0, .int .i64 0, .int .i64 0]) ?_ 2 _ rfl; refine skk ?_; refine blk_put (cs := #[.int .i64 ((J38 l1 x13_1).f0), .int .i64 0, .int .i64 0, .int .i64 0, .int .i64 0, .bool false, .int .i64 0, .int .i64 0, .slice none 0 0, .int .i64 0, .int .i64 0]) ?_ 1 _ rfl; refine skk ?_; refine blk_put (cs := #[.int .i64 0, .int .i64 0, .int .i64 0, .int .i64 0, .int .i64 0, .bool false, .int .i64 0, .int .i64 0, .slice none 0 0, .int .i64 0, .int .i64 0]) ?_ 0 _ rfl; refine skk ?_; exact BK326.out))⟩; have n2_ : Aside0 (Below w.heap.size w w19) := ⟨(by rw [hw]; exact (skG HB.out GE326.out GE326.out))⟩; clear hw; clear HO_5; clear BK326; clear HB; have HO_5 := n0_; have BK326 := n1_; have HB := n2_; clear n0_ n1_ n2_; have hcz20_0 : w19.cell? ⟨gb326, 0, none⟩ = some (.int .i64 ((J38 l1 x13_1).f0)) := (blk_cell BK326.out 0).trans rfl; have hcz20_1 : w19.cell? ⟨gb326, 1, none⟩ = some (.int .i64 ((J38 l1 x13_1).f1.f0)) := (blk_cell BK326.out 1).trans rfl; have hcz20_2 : w19.cell? ⟨gb326, 2, none⟩ = some (.int .i64 ((J38 l1 x13_1).f1.f1)) := (blk_cell BK326.out 2).trans rfl; have hcz20_3 : w19.cell? ⟨gb326, 3, none⟩ = some (.int .i64 ((J38 l1 x13_1).f1.f2)) := (blk_cell BK326.out 3).trans rfl; have hcz20_4 : w19.cell? ⟨gb326, 4, none⟩ = some (.int .i64 ((J38 l1 x13_1).f1.f3)) := (blk_cell BK326.out 4).trans rfl; have hcz20_5 : w19.cell? ⟨gb326, 5, none⟩ = some (.bool ((J38 l1 x13_1).f2.f0)) := (blk_cell BK326.out 5).trans rfl; have hcz20_6 : w19.cell? ⟨gb326, 6, none⟩ = some (.int .i64 ((J38 l1 x13_1).f2.f1)) := (blk_cell BK326.out 6).trans rfl; have hcz20_7 : w19.cell? ⟨gb326, 7, none⟩ = some (.int .i64 ((J38 l1 x13_1).f2.f2)) := (blk_cell BK326.out 7).trans rfl; have hcz20_8 : w19.cell? ⟨gb326, 8, none⟩ = some (.slice A325_8 ((J38 l1 x13_1).f2.f3).length c325_8) := (blk_cell BK326.out 8).trans rfl; have hcz20_9 : w19.cell? ⟨gb326, 9, none⟩ = some (.int .i64 ((J38 l1 x13_1).f3)) := (blk_cell BK326.out 9).trans rfl; have hcz20_10 : w19.cell? ⟨gb326, 10, none⟩ = some (.int .i64 ((J38 l1 x13_1).f4)) := (blk_cell BK326.out 10).trans rfl; have hfz20_0 := blk_frozen BK326.out 0; have hfz20_1 := blk_frozen BK326.out 1; have hfz20_2 := blk_frozen BK326.out 2; have hfz20_3 := blk_frozen BK326.out 3; have hfz20_4 := blk_frozen BK326.out 4; have hfz20_5 := blk_frozen BK326.out 5; have hfz20_6 := blk_frozen BK326.out 6; have hfz20_7 := blk_frozen BK326.out 7; have hfz20_8 := blk_frozen BK326.out 8; have hfz20_9 := blk_frozen BK326.out 9; have hfz20_10 := blk_frozen BK326.out 10; have p12 : 0 ≤ (((J38 l1 x13_1).f3) : Int) := dt; have q12 : (((J38 l1 x13_1).f3) : Int) < ((x5_1.length : Int) : Int) := dt; obtain ⟨go12, co12, eo12, gb12, gl12, cl12, HG12⟩ := Kd.R_form HO_5.out (by omega); (first | cases eo12 | (injection eo12 with ea_ en_ ec_; (first | subst ea_ | (injection ea_ with ea_; subst ea_)); subst ec_; clear en_)); have GB12 := asd gb12; have GG12 := asd HG12; clear gb12 gl12 HG12; obtain ⟨hx12_0, hf12_0⟩ := Kd.R_celln 0 HO_5.out (((J38 l1 x13_1).f3) : Int) p12 q12; replace p12 := eq_true p12; replace q12 := eq_true q12; obtain ⟨hy21_, hz21_⟩ := Kd.R_celln 0 HO_5.out (((J38 l1 x13_1).f3) : Int) dt dt; have HP21 := Kd.R_putg HO_5.out (((J38 l1 x13_1).f3) : Int) x13_1) | ((with_reducible refine gate_store (t := 3) (p := 22) rfl ?_); refine store_event (t := 3) (p := 22) (v := ?vo_w22) (w1 := (w19.setCell ⟨go12, (((J38 l1 x13_1).f3) : Int).toNat, none⟩ (.int .i64 x13_1))) ?hg ?ho ?hn ?hr ?_; (case ho => rfl); (case hg => rfl); (case hn => rfl); (case hr => first | (go_simp; done) | (go_simp; rfl)); intro w22 hw; have hg : w19.grownBy w22 (some go12) := (by rw [hw]; exact HP21.2); have hp_ : Kd.R (Kd.int .i64) 3 w22 w.heap.size (fun _ => True) (.slice (some ⟨go12, 0, none⟩) x5_1.length co12) y327 := (by rw [hw, Ny327.out]; exact HP21.1); clear HP21; have n0_ := asd (hp_); have n1_ := asd (blk_grown (g := gb326) (o := .cells #[.int .i64 ((J38 l1 x13_1).f0), .int .i64 ((J38 l1 x13_1).f1.f0), .int .i64 ((J38 l1 x13_1).f1.f1), .int .i64 ((J38 l1 x13_1).f1.f2), .int .i64 ((J38 l1 x13_1).f1.f3), .bool ((J38 l1 x13_1).f2.f0), .int .i64 ((J38 l1 x13_1).f2.f1), .int .i64 ((J38 l1 x13_1).f2.f2), .slice A325_8 ((J38 l1 x13_1).f2.f3).length c325_8, .int .i64 ((J38 l1 x13_1).f3), .int .i64 ((J38 l1 x13_1).f4)] 38 (0, 0)) (skK BK326.out) hg (Kd.R_ne HO_5.out BK326.out (by decide))); have n2_ := asd ((by rw [hw]; exact below_set (HB.out) GB12.out : Below w.heap.size w w22)); clear HO_5; clear BK326; clear HB; have HO_5 := n0_; have BK326 := n1_; have HB := n2_; clear n0_ n1_ n2_; clear hg hw hp_; have hcz23_0 : w22.cell? ⟨gb326, 0, none⟩ = some (.int .i64 ((J38 l1 x13_1).f0)) := (blk_cell BK326.out 0).trans rfl; have hcz23_1 : w22.cell? ⟨gb326, 1, none⟩ = some (.int .i64 ((J38 l1 x13_1).f1.f0)) := (blk_cell BK326.out 1).trans rfl; have hcz23_2 : w22.cell? ⟨gb326, 2, none⟩ = some (.int .i64 ((J38 l1 x13_1).f1.f1)) := (blk_cell BK326.out 2).trans rfl; have hcz23_3 : w22.cell? ⟨gb326, 3, none⟩ = some (.int .i64 ((J38 l1 x13_1).f1.f2)) := (blk_cell BK326.out 3).trans rfl; have hcz23_4 : w22.cell? ⟨gb326, 4, none⟩ = some (.int .i64 ((J38 l1 x13_1).f1.f3)) := (blk_cell BK326.out 4).trans rfl; have hcz23_5 : w22.cell? ⟨gb326, 5, none⟩ = some (.bool ((J38 l1 x13_1).f2.f0)) := (blk_cell BK326.out 5).trans rfl; have hcz23_6 : w22.cell? ⟨gb326, 6, none⟩ = some (.int .i64 ((J38 l1 x13_1).f2.f1)) := (blk_cell BK326.out 6).trans rfl; have hcz23_7 : w22.cell? ⟨gb326, 7, none⟩ = some (.int .i64 ((J38 l1 x13_1).f2.f2)) := (blk_cell BK326.out 7).trans rfl; have hcz23_8 : w22.cell? ⟨gb326, 8, none⟩ = some (.slice A325_8 ((J38 l1 x13_1).f2.f3).length c325_8) := (blk_cell BK326.out 8).trans rfl; have hcz23_9 : w22.cell? ⟨gb326, 9, none⟩ = some (.int .i64 ((J38 l1 x13_1).f3)) := (blk_cell BK326.out 9).trans rfl; have hcz23_10 : w22.cell? ⟨gb326, 10, none⟩ = some (.int .i64 ((J38 l1 x13_1).f4)) := (blk_cell BK326.out 10).trans rfl; have hfz23_0 := blk_frozen BK326.out 0; have hfz23_1 := blk_frozen BK326.out 1; have hfz23_2 := blk_frozen BK326.out 2; have hfz23_3 := blk_frozen BK326.out 3; have hfz23_4 := blk_frozen BK326.out 4; have hfz23_5 := blk_frozen BK326.out 5; have hfz23_6 := blk_frozen BK326.out 6; have hfz23_7 := blk_frozen BK326.out 7; have hfz23_8 := blk_frozen BK326.out 8; have hfz23_9 := blk_frozen BK326.out 9; have hfz23_10 := blk_frozen BK326.out 10; have p16 : 0 ≤ (((J38 l1 x13_1).f4) : Int) := dt; have q16 : (((J38 l1 x13_1).f4) : Int) < ((x5_1.length : Int) : Int) := dt; obtain ⟨hx16_0, hf16_0⟩ := Kd.R_celln 0 HO_5.out (((J38 l1 x13_1).f4) : Int) p16 q16; replace p16 := eq_true p16; replace q16 := eq_true q16; obtain ⟨hy24_, hz24_⟩ := Kd.R_celln 0 HO_5.out (((J38 l1 x13_1).f4) : Int) dt dt; have HP24 := Kd.R_putg HO_5.out (((J38 l1 x13_1).f4) : Int) x13_1) | ((with_reducible refine gate_store (t := 3) (p := 30) rfl ?_); refine store_event (t := 3) (p := 30) (v := ?vo_w25) (w1 := (w22.setCell ⟨go12, (((J38 l1 x13_1).f4) : Int).toNat, none⟩ (.int .i64 x13_1))) ?hg ?ho ?hn ?hr ?_; (case ho => rfl); (case hg => rfl); (case hn => rfl); (case hr => first | (go_simp; done) | (go_simp; rfl)); intro w25 hw; have hg : w22.grownBy w25 (some go12) := (by rw [hw]; exact HP24.2); have hp_ : Kd.R (Kd.int .i64) 3 w25 w.heap.size (fun _ => True) (.slice (some ⟨go12, 0, none⟩) x5_1.length co12) y328 := (by rw [hw, Ny328.out]; exact HP24.1); clear HP24; have n0_ := asd (hp_); have n1_ := asd (blk_grown (g := gb326) (o := .cells #[.int .i64 ((J38 l1 x13_1).f0), .int .i64 ((J38 l1 x13_1).f1.f0), .int .i64 ((J38 l1 x13_1).f1.f1), .int .i64 ((J38 l1 x13_1).f1.f2), .int .i64 ((J38 l1 x13_1).f1.f3), .bool ((J38 l1 x13_1).f2.f0), .int .i64 ((J38 l1 x13_1).f2.f1), .int .i64 ((J38 l1 x13_1).f2.f2), .slice A325_8 ((J38 l1 x13_1).f2.f3).length c325_8, .int .i64 ((J38 l1 x13_1).f3), .int .i64 ((J38 l1 x13_1).f4)] 38 (0, 0)) (skK BK326.out) hg (Kd.R_ne HO_5.out BK326.out (by decide))); have n2_ := asd ((by rw [hw]; exact below_set (HB.out) GB12.out : Below w.heap.size w w25)); clear HO_5; clear BK326; clear HB; have HO_5 := n0_; have BK326 := n1_; have HB := n2_; clear n0_ n1_ n2_; clear hg hw hp_))
             go_roundg k1
             case measure => have := HK1.out; omega
             case rel => exact ⟨(y328), (wrap64 (x13_1 + 1)), rs, H', ⟨by have := HK1.out; omega⟩, ⟨skR HO_5.out⟩, ⟨skG HB.out GE326.out GE326.out⟩⟩
            ·
             rw [if_neg c15] at H
             exact absurd H (by simp)
           ·
            rw [if_neg c14] at H
            exact absurd H (by simp)
          ·
           rw [if_neg c13] at H
           have c13b0 : decide (0 ≤ ((J38 l1 x13_1).f4)) = false := decide_eq_false c13
           clear c13
           have H' := asd H
           clear H
           have p325 : 0 ≤ (x13_1 : Int) := dt
           have q325 : x13_1 < (l1.length : Int) := dt
           obtain ⟨ad325, A325_8, c325_8, e325, hx325_0, hx325_1, hx325_2, hx325_3, hx325_4, hx325_5, hx325_6, hx325_7, hx325_8, hx325_9, hx325_10, hl325_8, hi325_8⟩ := at_T38 HR1.out x13_1 p325 q325
           cases e325
           replace hx325_0 := skc HB.out hx325_0
           replace hx325_1 := skc HB.out hx325_1
           replace hx325_2 := skc HB.out hx325_2
           replace hx325_3 := skc HB.out hx325_3
           replace hx325_4 := skc HB.out hx325_4
           replace hx325_5 := skc HB.out hx325_5
           replace hx325_6 := skc HB.out hx325_6
           replace hx325_7 := skc HB.out hx325_7
           replace hx325_8 := skc HB.out hx325_8
           replace hx325_9 := skc HB.out hx325_9
           replace hx325_10 := skc HB.out hx325_10
           have HR325_8 := asd hi325_8
           have HC325_8 := asd hl325_8
           clear hi325_8 hl325_8
           replace p325 := eq_true p325
           replace q325 := eq_true q325
           go_wp2_with (first | ((with_reducible refine gate_dst (N := 7) rfl ?_); refine box_event ?hg (N := 7) ?hd (cs := #[.int .i64 0, .int .i64 0, .int .i64 0, .int .i64 0, .int .i64 0, .bool false, .int .i64 0, .int .i64 0, .slice none 0 0, .int .i64 0, .int .i64 0]) (t := 38) ?hr ?_; (case hd => rfl); (case hg => rfl); (case hr => first | (go_simp; done) | (go_simp; rfl)); intro gb326 hg w26 hbox hb; have n0_ := asd (Kd.R_below (skR HO_5.out) hb); have n1_ := asd (below_step (skB HB.out) hb); have n2_ := asd (hbox); have n3_ := asd ((by rw [hg]; exact (below_size (skB HB.out)) : w.heap.size ≤ gb326)); have n4_ := asd ((by rw [hg]; exact (below_size (skB HB.out)) : w.heap.size ≤ gb326)); clear HO_5; clear HB; have HO_5 := n0_; have HB := n1_; have BK326 := n2_; have GW326 := n3_; have GE326 := n4_; clear n0_ n1_ n2_ n3_ n4_; clear hb hbox hg; have hcz27_0 : w26.cell? ⟨gb326, 0, none⟩ = some (.int .i64 0) := (blk_cell BK326.out 0).trans rfl; have hcz27_1 : w26.cell? ⟨gb326, 1, none⟩ = some (.int .i64 0) := (blk_cell BK326.out 1).trans rfl; have hcz27_2 : w26.cell? ⟨gb326, 2, none⟩ = some (.int .i64 0) := (blk_cell BK326.out 2).trans rfl; have hcz27_3 : w26.cell? ⟨gb326, 3, none⟩ = some (.int .i64 0) := (blk_cell BK326.out 3).trans rfl; have hcz27_4 : w26.cell? ⟨gb326, 4, none⟩ = some (.int .i64 0) := (blk_cell BK326.out 4).trans rfl; have hcz27_5 : w26.cell? ⟨gb326, 5, none⟩ = some (.bool false) := (blk_cell BK326.out 5).trans rfl; have hcz27_6 : w26.cell? ⟨gb326, 6, none⟩ = some (.int .i64 0) := (blk_cell BK326.out 6).trans rfl; have hcz27_7 : w26.cell? ⟨gb326, 7, none⟩ = some (.int .i64 0) := (blk_cell BK326.out 7).trans rfl; have hcz27_8 : w26.cell? ⟨gb326, 8, none⟩ = some (.slice none 0 0) := (blk_cell BK326.out 8).trans rfl; have hcz27_9 : w26.cell? ⟨gb326, 9, none⟩ = some (.int .i64 0) := (blk_cell BK326.out 9).trans rfl; have hcz27_10 : w26.cell? ⟨gb326, 10, none⟩ = some (.int .i64 0) := (blk_cell BK326.out 10).trans rfl; have hfz27_0 := blk_frozen BK326.out 0; have hfz27_1 := blk_frozen BK326.out 1; have hfz27_2 := blk_frozen BK326.out 2; have hfz27_3 := blk_frozen BK326.out 3; have hfz27_4 := blk_frozen BK326.out 4; have hfz27_5 := blk_frozen BK326.out 5; have hfz27_6 := blk_frozen BK326.out 6; have hfz27_7 := blk_frozen BK326.out 7; have hfz27_8 := blk_frozen BK326.out 8; have hfz27_9 := blk_frozen BK326.out 9; have hfz27_10 := blk_frozen BK326.out 10) | ((with_reducible refine gate_store (t := 38) (p := 7) rfl ?_); refine store_event (t := 38) (p := 7) (v := ?vo_w28) (w1 := (((((((((((w26.setCell ⟨gb326, 0, none⟩ (.int .i64 ((J38 l1 x13_1).f0))).setCell ⟨gb326, 1, none⟩ (.int .i64 ((J38 l1 x13_1).f1.f0))).setCell ⟨gb326, 2, none⟩ (.int .i64 ((J38 l1 x13_1).f1.f1))).setCell ⟨gb326, 3, none⟩ (.int .i64 ((J38 l1 x13_1).f1.f2))).setCell ⟨gb326, 4, none⟩ (.int .i64 ((J38 l1 x13_1).f1.f3))).setCell ⟨gb326, 5, none⟩ (.bool ((J38 l1 x13_1).f2.f0))).setCell ⟨gb326, 6, none⟩ (.int .i64 ((J38 l1 x13_1).f2.f1))).setCell ⟨gb326, 7, none⟩ (.int .i64 ((J38 l1 x13_1).f2.f2))).setCell ⟨gb326, 8, none⟩ (.slice A325_8 ((J38 l1 x13_1).f2.f3).length c325_8)).setCell ⟨gb326, 9, none⟩ (.int .i64 ((J38 l1 x13_1).f3))).setCell ⟨gb326, 10, none⟩ (.int .i64 ((J38 l1 x13_1).f4)))) ?hg ?ho ?hn ?hr ?_; (case ho => rfl); (case hg => rfl); (case hn => rfl); (case hr => first | (go_simp; done) | (go_simp; rfl)); intro w28 hw; have n0_ : Aside0 (Kd.R (Kd.int .i64) 3 w28 w.heap.size (fun _ => True) v323 x5_1) := ⟨(by rw [hw]; exact (skR (Kd.R_mono (Kd.R_far (p := ⟨gb326, 10, none⟩) (Kd.R_far (p := ⟨gb326, 9, none⟩) (Kd.R_far (p := ⟨gb326, 8, none⟩) (Kd.R_far (p := ⟨gb326, 7, none⟩) (Kd.R_far (p := ⟨gb326, 6, none⟩) (Kd.R_far (p := ⟨gb326, 5, none⟩) (Kd.R_far (p := ⟨gb326, 4, none⟩) (Kd.R_far (p := ⟨gb326, 3, none⟩) (Kd.R_far (p := ⟨gb326, 2, none⟩) (Kd.R_far (p := ⟨gb326, 1, none⟩) (Kd.R_far (p := ⟨gb326, 0, none⟩) (Kd.R_types HO_5.out BK326.out (by decide)) (fun _ hk => hk.2) (.int .i64 ((J38 l1 x13_1).f0))) (fun _ hk => hk.2) (.int .i64 ((J38 l1 x13_1).f1.f0))) (fun _ hk => hk.2) (.int .i64 ((J38 l1 x13_1).f1.f1))) (fun _ hk => hk.2) (.int .i64 ((J38 l1 x13_1).f1.f2))) (fun _ hk => hk.2) (.int .i64 ((J38 l1 x13_1).f1.f3))) (fun _ hk => hk.2) (.bool ((J38 l1 x13_1).f2.f0))) (fun _ hk => hk.2) (.int .i64 ((J38 l1 x13_1).f2.f1))) (fun _ hk => hk.2) (.int .i64 ((J38 l1 x13_1).f2.f2))) (fun _ hk => hk.2) (.slice A325_8 ((J38 l1 x13_1).f2.f3).length c325_8)) (fun _ hk => hk.2) (.int .i64 ((J38 l1 x13_1).f3))) (fun _ hk => hk.2) (.int .i64 ((J38 l1 x13_1).f4))) (fun _ hk => trivial))))⟩; have n1_ : Aside0 (w28.heap[gb326]? = some (.cells #[.int .i64 ((J38 l1 x13_1).f0), .int .i64 ((J38 l1 x13_1).f1.f0), .int .i64 ((J38 l1 x13_1).f1.f1), .int .i64 ((J38 l1 x13_1).f1.f2), .int .i64 ((J38 l1 x13_1).f1.f3), .bool ((J38 l1 x13_1).f2.f0), .int .i64 ((J38 l1 x13_1).f2.f1), .int .i64 ((J38 l1 x13_1).f2.f2), .slice A325_8 ((J38 l1 x13_1).f2.f3).length c325_8, .int .i64 ((J38 l1 x13_1).f3), .int .i64 ((J38 l1 x13_1).f4)] 38 (0, 0))) := ⟨(by rw [hw]; exact (by refine skk ?_; refine blk_put (cs := #[.int .i64 ((J38 l1 x13_1).f0), .int .i64 ((J38 l1 x13_1).f1.f0), .int .i64 ((J38 l1 x13_1).f1.f1), .int .i64 ((J38 l1 x13_1).f1.f2), .int .i64 ((J38 l1 x13_1).f1.f3), .bool ((J38 l1 x13_1).f2.f0), .int .i64 ((J38 l1 x13_1).f2.f1), .int .i64 ((J38 l1 x13_1).f2.f2), .slice A325_8 ((J38 l1 x13_1).f2.f3).length c325_8, .int .i64 ((J38 l1 x13_1).f3), .int .i64 0]) ?_ 10 _ rfl; refine skk ?_; refine blk_put (cs := #[.int .i64 ((J38 l1 x13_1).f0), .int .i64 ((J38 l1 x13_1).f1.f0), .int .i64 ((J38 l1 x13_1).f1.f1), .int .i64 ((J38 l1 x13_1).f1.f2), .int .i64 ((J38 l1 x13_1).f1.f3), .bool ((J38 l1 x13_1).f2.f0), .int .i64 ((J38 l1 x13_1).f2.f1), .int .i64 ((J38 l1 x13_1).f2.f2), .slice A325_8 ((J38 l1 x13_1).f2.f3).length c325_8, .int .i64 0, .int .i64 0]) ?_ 9 _ rfl; refine skk ?_; refine blk_put (cs := #[.int .i64 ((J38 l1 x13_1).f0), .int .i64 ((J38 l1 x13_1).f1.f0), .int .i64 ((J38 l1 x13_1).f1.f1), .int .i64 ((J38 l1 x13_1).f1.f2), .int .i64 ((J38 l1 x13_1).f1.f3), .bool ((J38 l1 x13_1).f2.f0), .int .i64 ((J38 l1 x13_1).f2.f1), .int .i64 ((J38 l1 x13_1).f2.f2), .slice none 0 0, .int .i64 0, .int .i64 0]) ?_ 8 _ rfl; refine skk ?_; refine blk_put (cs := #[.int .i64 ((J38 l1 x13_1).f0), .int .i64 ((J38 l1 x13_1).f1.f0), .int .i64 ((J38 l1 x13_1).f1.f1), .int .i64 ((J38 l1 x13_1).f1.f2), .int .i64 ((J38 l1 x13_1).f1.f3), .bool ((J38 l1 x13_1).f2.f0), .int .i64 ((J38 l1 x13_1).f2.f1), .int .i64 0, .slice none 0 0, .int .i64 0, .int .i64 0]) ?_ 7 _ rfl; refine skk ?_; refine blk_put (cs := #[.int .i64 ((J38 l1 x13_1).f0), .int .i64 ((J38 l1 x13_1).f1.f0), .int .i64 ((J38 l1 x13_1).f1.f1), .int .i64 ((J38 l1 x13_1).f1.f2), .int .i64 ((J38 l1 x13_1).f1.f3), .bool ((J38 l1 x13_1).f2.f0), .int .i64 0, .int .i64 0, .slice none 0 0, .int .i64 0, .int .i64 0]) ?_ 6 _ rfl; refine skk ?_; refine blk_put (cs := #[.int .i64 ((J38 l1 x13_1).f0), .int .i64 ((J38 l1 x13_1).f1.f0), .int .i64 ((J38 l1 x13_1).f1.f1), .int .i64 ((J38 l1 x13_1).f1.f2), .int .i64 ((J38 l1 x13_1).f1.f3), .bool false, .int .i64 0, .int .i64 0, .slice none 0 0, .int .i64 0, .int .i64 0]) ?_ 5 _ rfl; refine skk ?_; refine blk_put (cs := #[.int .i64 ((J38 l1 x13_1).f0), .int .i64 ((J38 l1 x13_1).f1.f0), .int .i64 ((J38 l1 x13_1).f1.f1), .int .i64 ((J38 l1 x13_1).f1.f2), .int .i64 0, .bool false, .int .i64 0, .int .i64 0, .slice none 0 0, .int .i64 0, .int .i64 0]) ?_ 4 _ rfl; refine skk ?_; refine blk_put (cs := #[.int .i64 ((J38 l1 x13_1).f0), .int .i64 ((J38 l1 x13_1).f1.f0), .int .i64 ((J38 l1 x13_1).f1.f1), .int .i64 0, .int .i64 0, .bool false, .int .i64 0, .int .i64 0, .slice none 0 0, .int .i64 0, .int .i64 0]) ?_ 3 _ rfl; refine skk ?_; refine blk_put (cs := #[.int .i64 ((J38 l1 x13_1).f0), .int .i64 ((J38 l1 x13_1).f1.f0), .int .i64 0, .int .i64 0, .int .i64 0, .bool false, .int .i64 0, .int .i64 0, .slice none 0 0, .int .i64 0, .int .i64 0]) ?_ 2 _ rfl; refine skk ?_; refine blk_put (cs := #[.int .i64 ((J38 l1 x13_1).f0), .int .i64 0, .int .i64 0, .int .i64 0, .int .i64 0, .bool false, .int .i64 0, .int .i64 0, .slice none 0 0, .int .i64 0, .int .i64 0]) ?_ 1 _ rfl; refine skk ?_; refine blk_put (cs := #[.int .i64 0, .int .i64 0, .int .i64 0, .int .i64 0, .int .i64 0, .bool false, .int .i64 0, .int .i64 0, .slice none 0 0, .int .i64 0, .int .i64 0]) ?_ 0 _ rfl; refine skk ?_; exact BK326.out))⟩; have n2_ : Aside0 (Below w.heap.size w w28) := ⟨(by rw [hw]; exact (skG HB.out GE326.out GE326.out))⟩; clear hw; clear HO_5; clear BK326; clear HB; have HO_5 := n0_; have BK326 := n1_; have HB := n2_; clear n0_ n1_ n2_; have hcz29_0 : w28.cell? ⟨gb326, 0, none⟩ = some (.int .i64 ((J38 l1 x13_1).f0)) := (blk_cell BK326.out 0).trans rfl; have hcz29_1 : w28.cell? ⟨gb326, 1, none⟩ = some (.int .i64 ((J38 l1 x13_1).f1.f0)) := (blk_cell BK326.out 1).trans rfl; have hcz29_2 : w28.cell? ⟨gb326, 2, none⟩ = some (.int .i64 ((J38 l1 x13_1).f1.f1)) := (blk_cell BK326.out 2).trans rfl; have hcz29_3 : w28.cell? ⟨gb326, 3, none⟩ = some (.int .i64 ((J38 l1 x13_1).f1.f2)) := (blk_cell BK326.out 3).trans rfl; have hcz29_4 : w28.cell? ⟨gb326, 4, none⟩ = some (.int .i64 ((J38 l1 x13_1).f1.f3)) := (blk_cell BK326.out 4).trans rfl; have hcz29_5 : w28.cell? ⟨gb326, 5, none⟩ = some (.bool ((J38 l1 x13_1).f2.f0)) := (blk_cell BK326.out 5).trans rfl; have hcz29_6 : w28.cell? ⟨gb326, 6, none⟩ = some (.int .i64 ((J38 l1 x13_1).f2.f1)) := (blk_cell BK326.out 6).trans rfl; have hcz29_7 : w28.cell? ⟨gb326, 7, none⟩ = some (.int .i64 ((J38 l1 x13_1).f2.f2)) := (blk_cell BK326.out 7).trans rfl; have hcz29_8 : w28.cell? ⟨gb326, 8, none⟩ = some (.slice A325_8 ((J38 l1 x13_1).f2.f3).length c325_8) := (blk_cell BK326.out 8).trans rfl; have hcz29_9 : w28.cell? ⟨gb326, 9, none⟩ = some (.int .i64 ((J38 l1 x13_1).f3)) := (blk_cell BK326.out 9).trans rfl; have hcz29_10 : w28.cell? ⟨gb326, 10, none⟩ = some (.int .i64 ((J38 l1 x13_1).f4)) := (blk_cell BK326.out 10).trans rfl; have hfz29_0 := blk_frozen BK326.out 0; have hfz29_1 := blk_frozen BK326.out 1; have hfz29_2 := blk_frozen BK326.out 2; have hfz29_3 := blk_frozen BK326.out 3; have hfz29_4 := blk_frozen BK326.out 4; have hfz29_5 := blk_frozen BK326.out 5; have hfz29_6 := blk_frozen BK326.out 6; have hfz29_7 := blk_frozen BK326.out 7; have hfz29_8 := blk_frozen BK326.out 8; have hfz29_9 := blk_frozen BK326.out 9; have hfz29_10 := blk_frozen BK326.out 10; have p12 : 0 ≤ (((J38 l1 x13_1).f3) : Int) := dt; have q12 : (((J38 l1 x13_1).f3) : Int) < ((x5_1.length : Int) : Int) := dt; obtain ⟨go12, co12, eo12, gb12, gl12, cl12, HG12⟩ := Kd.R_form HO_5.out (by omega); (first | cases eo12 | (injection eo12 with ea_ en_ ec_; (first | subst ea_ | (injection ea_ with ea_; subst ea_)); subst ec_; clear en_)); have GB12 := asd gb12; have GG12 := asd HG12; clear gb12 gl12 HG12; obtain ⟨hx12_0, hf12_0⟩ := Kd.R_celln 0 HO_5.out (((J38 l1 x13_1).f3) : Int) p12 q12; replace p12 := eq_true p12; replace q12 := eq_true q12; obtain ⟨hy30_, hz30_⟩ := Kd.R_celln 0 HO_5.out (((J38 l1 x13_1).f3) : Int) dt dt; have HP30 := Kd.R_putg HO_5.out (((J38 l1 x13_1).f3) : Int) x13_1) | ((with_reducible refine gate_store (t := 3) (p := 22) rfl ?_); refine store_event (t := 3) (p := 22) (v := ?vo_w31) (w1 := (w28.setCell ⟨go12, (((J38 l1 x13_1).f3) : Int).toNat, none⟩ (.int .i64 x13_1))) ?hg ?ho ?hn ?hr ?_; (case ho => rfl); (case hg => rfl); (case hn => rfl); (case hr => first | (go_simp; done) | (go_simp; rfl)); intro w31 hw; have hg : w28.grownBy w31 (some go12) := (by rw [hw]; exact HP30.2); have hp_ : Kd.R (Kd.int .i64) 3 w31 w.heap.size (fun _ => True) (.slice (some ⟨go12, 0, none⟩) x5_1.length co12) y327 := (by rw [hw, Ny327.out]; exact HP30.1); clear HP30; have n0_ := asd (hp_); have n1_ := asd (blk_grown (g := gb326) (o := .cells #[.int .i64 ((J38 l1 x13_1).f0), .int .i64 ((J38 l1 x13_1).f1.f0), .int .i64 ((J38 l1 x13_1).f1.f1), .int .i64 ((J38 l1 x13_1).f1.f2), .int .i64 ((J38 l1 x13_1).f1.f3), .bool ((J38 l1 x13_1).f2.f0), .int .i64 ((J38 l1 x13_1).f2.f1), .int .i64 ((J38 l1 x13_1).f2.f2), .slice A325_8 ((J38 l1 x13_1).f2.f3).length c325_8, .int .i64 ((J38 l1 x13_1).f3), .int .i64 ((J38 l1 x13_1).f4)] 38 (0, 0)) (skK BK326.out) hg (Kd.R_ne HO_5.out BK326.out (by decide))); have n2_ := asd ((by rw [hw]; exact below_set (HB.out) GB12.out : Below w.heap.size w w31)); clear HO_5; clear BK326; clear HB; have HO_5 := n0_; have BK326 := n1_; have HB := n2_; clear n0_ n1_ n2_; clear hg hw hp_; have hcz32_0 : w31.cell? ⟨gb326, 0, none⟩ = some (.int .i64 ((J38 l1 x13_1).f0)) := (blk_cell BK326.out 0).trans rfl; have hcz32_1 : w31.cell? ⟨gb326, 1, none⟩ = some (.int .i64 ((J38 l1 x13_1).f1.f0)) := (blk_cell BK326.out 1).trans rfl; have hcz32_2 : w31.cell? ⟨gb326, 2, none⟩ = some (.int .i64 ((J38 l1 x13_1).f1.f1)) := (blk_cell BK326.out 2).trans rfl; have hcz32_3 : w31.cell? ⟨gb326, 3, none⟩ = some (.int .i64 ((J38 l1 x13_1).f1.f2)) := (blk_cell BK326.out 3).trans rfl; have hcz32_4 : w31.cell? ⟨gb326, 4, none⟩ = some (.int .i64 ((J38 l1 x13_1).f1.f3)) := (blk_cell BK326.out 4).trans rfl; have hcz32_5 : w31.cell? ⟨gb326, 5, none⟩ = some (.bool ((J38 l1 x13_1).f2.f0)) := (blk_cell BK326.out 5).trans rfl; have hcz32_6 : w31.cell? ⟨gb326, 6, none⟩ = some (.int .i64 ((J38 l1 x13_1).f2.f1)) := (blk_cell BK326.out 6).trans rfl; have hcz32_7 : w31.cell? ⟨gb326, 7, none⟩ = some (.int .i64 ((J38 l1 x13_1).f2.f2)) := (blk_cell BK326.out 7).trans rfl; have hcz32_8 : w31.cell? ⟨gb326, 8, none⟩ = some (.slice A325_8 ((J38 l1 x13_1).f2.f3).length c325_8) := (blk_cell BK326.out 8).trans rfl; have hcz32_9 : w31.cell? ⟨gb326, 9, none⟩ = some (.int .i64 ((J38 l1 x13_1).f3)) := (blk_cell BK326.out 9).trans rfl; have hcz32_10 : w31.cell? ⟨gb326, 10, none⟩ = some (.int .i64 ((J38 l1 x13_1).f4)) := (blk_cell BK326.out 10).trans rfl; have hfz32_0 := blk_frozen BK326.out 0; have hfz32_1 := blk_frozen BK326.out 1; have hfz32_2 := blk_frozen BK326.out 2; have hfz32_3 := blk_frozen BK326.out 3; have hfz32_4 := blk_frozen BK326.out 4; have hfz32_5 := blk_frozen BK326.out 5; have hfz32_6 := blk_frozen BK326.out 6; have hfz32_7 := blk_frozen BK326.out 7; have hfz32_8 := blk_frozen BK326.out 8; have hfz32_9 := blk_frozen BK326.out 9; have hfz32_10 := blk_frozen BK326.out 10))
           go_roundg k1
           case measure => have := HK1.out; omega
           case rel => exact ⟨(y327), (wrap64 (x13_1 + 1)), rs, H', ⟨by have := HK1.out; omega⟩, ⟨skR HO_5.out⟩, ⟨skG HB.out GE326.out GE326.out⟩⟩
         ·
          rw [if_neg c11] at H
          exact absurd H (by simp)
        ·
         rw [if_neg c10] at H
         exact absurd H (by simp)
       ·
        rw [if_neg c9] at H
        exact absurd H (by simp)
      ·
       rw [if_neg c8] at H
       exact absurd H (by simp)
     ·
      rw [if_neg c7] at H
      have c7b0 : decide (x13_1 < (l1.length : Int)) = false := decide_eq_false c7
      clear c7
      obtain rfl := Option.some.inj H
      go_wp2
      go_ret
      exact ⟨_, re, skR HO_5.out, skB HB.out⟩
  ·
   rw [if_neg c4] at H
   exact absurd H (by simp)
 ·
  rw [if_neg c3] at H
  exact absurd H (by simp)
end Go.Proofs.Ytagdkmcgepidoaa.P
/- F42 -/
namespace Go.Proofs.Ytagdkmcgepidoaa.P
open Go.RowKit Go.Proofs.YtagdkmcgepidoaaW.PrintWords Go.Proofs.YtagdkmcgepidoaaW.PrintLast Go.Proofs.YtagdkmcgepidoaaW.PrintMore
attribute [local go_sem] max2_int min2_int max_two min_two max_three min_three max_four min_four   -- for this text's walks alone
set_option linter.unusedVariables false
set_option linter.unusedSimpArgs false
end Go.Proofs.Ytagdkmcgepidoaa.P
/- F43 -/
namespace Go.Proofs.Ytagdkmcgepidoaa.P
open Go.RowKit Go.Proofs.YtagdkmcgepidoaaW.PrintWords Go.Proofs.YtagdkmcgepidoaaW.PrintLast Go.Proofs.YtagdkmcgepidoaaW.PrintMore
attribute [local go_sem] max2_int min2_int max_two min_two max_three min_three max_four min_four   -- for this text's walks alone
set_option linter.unusedVariables false
set_option linter.unusedSimpArgs false
end Go.Proofs.Ytagdkmcgepidoaa.P
/- F46 -/
namespace Go.Proofs.Ytagdkmcgepidoaa.P
open Go.RowKit Go.Proofs.YtagdkmcgepidoaaW.PrintWords Go.Proofs.YtagdkmcgepidoaaW.PrintLast Go.Proofs.YtagdkmcgepidoaaW.PrintMore
attribute [local go_sem] max2_int min2_int max_two min_two max_three min_three max_four min_four   -- for this text's walks alone
set_option linter.unusedVariables false
set_option linter.unusedSimpArgs false
end Go.Proofs.Ytagdkmcgepidoaa.P
/- F24 -/
namespace Go.Proofs.Ytagdkmcgepidoaa.P
open Go.RowKit Go.Proofs.YtagdkmcgepidoaaW.PrintWords Go.Proofs.YtagdkmcgepidoaaW.PrintLast Go.Proofs.YtagdkmcgepidoaaW.PrintMore
attribute [local go_sem] max2_int min2_int max_two min_two max_three min_three max_four min_four   -- for this text's walks alone
set_option linter.unusedVariables false
set_option linter.unusedSimpArgs false
end Go.Proofs.Ytagdkmcgepidoaa.P
/- F58 -/
namespace Go.Proofs.Ytagdkmcgepidoaa.P
open Go.RowKit Go.Proofs.YtagdkmcgepidoaaW.PrintWords Go.Proofs.YtagdkmcgepidoaaW.PrintLast Go.Proofs.YtagdkmcgepidoaaW.PrintMore
attribute [local go_sem] max2_int min2_int max_two min_two max_three min_three max_four min_four   -- for this text's walks alone
set_option linter.unusedVariables false
set_option linter.unusedSimpArgs false
end Go.Proofs.Ytagdkmcgepidoaa.P
/- F59 -/
namespace Go.Proofs.Ytagdkmcgepidoaa.P
open Go.RowKit Go.Proofs.YtagdkmcgepidoaaW.PrintWords Go.Proofs.YtagdkmcgepidoaaW.PrintLast Go.Proofs.YtagdkmcgepidoaaW.PrintMore
attribute [local go_sem] max2_int min2_int max_two min_two max_three min_three max_four min_four   -- for this text's walks alone
set_option linter.unusedVariables false
set_option linter.unusedSimpArgs false
end Go.Proofs.Ytagdkmcgepidoaa.P
/- F61 -/
namespace Go.Proofs.Ytagdkmcgepidoaa.P
open Go.RowKit Go.Proofs.YtagdkmcgepidoaaW.PrintWords Go.Proofs.YtagdkmcgepidoaaW.PrintLast Go.Proofs.YtagdkmcgepidoaaW.PrintMore
attribute [local go_sem] max2_int min2_int max_two min_two max_three min_three max_four min_four   -- for this text's walks alone
set_option linter.unusedVariables false
set_option linter.unusedSimpArgs false
end Go.Proofs.Ytagdkmcgepidoaa.P
