/- P.weighBound_holds, part 3 of 22: the contracts of the Go functions that the law calls, its own walk, and its plain law, for every input that the statement speaks of. -/
import Derived.Test.YtmmjkebboonnkaaProg
import Derived.Below
import Derived.Deep.Draws
import Derived.Deep.AppendLies
import Derived.Maps.AppendAt
import Derived.OwnWalk
import Derived.Laws.BytesArg
import Derived.Laws.MakeOwn
import Derived.Laws.OwnMore
import Derived.Deep.OwnRows
import Derived.Tactics
import Derived.Lib.ConvBytes
import Derived.Laws.Slices
import Derived.WalkKit
import Derived.KernelRfl
import Derived.RowKit3
import Derived.Deep.LoopGhost
import Derived.Deep.QuietTactic
import Derived.BigQuiet
import Derived.WideLaws
import Derived.Deep.DeepCutAuto
import Derived.Deep.CutBlock
import Derived.Deep.RegionHeld3
import Derived.Laws.Rows
import Derived.Lib.AppendStr
import Derived.ArgAppend
import Derived.Laws.IdiomCopy
import Derived.OrdersHeld
import Derived.Laws.BitsLemmas
import Derived.RowKit
import Derived.Test.YtmmjkebboonnkaaMBound0
import Derived.Test.YtmmjkebboonnkaaMBound1
set_option linter.unusedVariables false
set_option linter.unusedSimpArgs false
/- F0 -/
namespace Go.Proofs.Ytmmjkebboonnkaa.P
open Go.RowKit Go.Proofs.YtmmjkebboonnkaaW.PrintWords Go.Proofs.YtmmjkebboonnkaaW.PrintLast Go.Proofs.YtmmjkebboonnkaaW.PrintMore
attribute [local go_sem] max2_int min2_int max_two min_two max_three min_three max_four min_four   -- for this text's walks alone
set_option linter.unusedVariables false
set_option linter.unusedSimpArgs false
def errW : Option Int → Value
 | none => .nilIface
 | some c => .iface 0 (.int .i64 c)
theorem errW_none : errW none = .nilIface := rfl
theorem errW_some (c : Int) : errW (some c) = .iface 0 (.int .i64 c) := rfl
theorem info3 : (Try.prog.info? 3).map (fun i => (i.zero, i.size, i.bytes)) = some (some (.int .i64 0), 1, 8) := by kernel_rfl
theorem info4 : (Try.prog.info? 4).map (fun i => (i.zero, i.size, i.bytes)) = some (some (.bool false), 1, 1) := by kernel_rfl
theorem info49 : (Try.prog.info? 49).map (fun i => (i.zero, i.size, i.bytes)) = some (some (.agg #[(.int .i64 0), (.int .i64 0), (.int .i64 0), (.int .i64 0), (.int .i64 0), (.int .i64 0)]), 6, 48) := by kernel_rfl
structure S49 where
 f0 : Int
 f1 : Int
 f2 : Int
 f3 : Int
 f4 : Int
 f5 : Int
def z49 : S49 := ⟨(0 : Int), (0 : Int), (0 : Int), (0 : Int), (0 : Int), (0 : Int)⟩
def k49 : Kd S49 := Kd.iso (Kd.pair (Kd.int .i64) (Kd.pair (Kd.int .i64) (Kd.pair (Kd.int .i64) (Kd.pair (Kd.int .i64) (Kd.pair (Kd.int .i64) (Kd.int .i64)))))) (fun x : S49 => (x.f0, x.f1, x.f2, x.f3, x.f4, x.f5))
theorem k49_open {w : World} {x : S49} {cs : List Value} (h : k49.K w x cs) : cs = [.int .i64 x.f0, .int .i64 x.f1, .int .i64 x.f2, .int .i64 x.f3, .int .i64 x.f4, .int .i64 x.f5] := by
 obtain ⟨_, _, rfl, rfl, ⟨_, _, rfl, rfl, ⟨_, _, rfl, rfl, ⟨_, _, rfl, rfl, ⟨_, _, rfl, rfl, rfl⟩⟩⟩⟩⟩ := h
 exact rfl
theorem k49_openM {w : World} {base : Nat} {ok : Nat → Prop} {x : S49} {cs : List Value} (h : k49.M w base ok x cs) : cs = [.int .i64 x.f0, .int .i64 x.f1, .int .i64 x.f2, .int .i64 x.f3, .int .i64 x.f4, .int .i64 x.f5] := by
 obtain ⟨_, _, rfl, rfl, ⟨_, _, rfl, rfl, ⟨_, _, rfl, rfl, ⟨_, _, rfl, rfl, ⟨_, _, rfl, rfl, rfl⟩⟩⟩⟩⟩ := h
 exact rfl
theorem k49_mk (w : World) (x : S49)  : k49.K w x [.int .i64 x.f0, .int .i64 x.f1, .int .i64 x.f2, .int .i64 x.f3, .int .i64 x.f4, .int .i64 x.f5] := ⟨[.int .i64 x.f0], [.int .i64 x.f1, .int .i64 x.f2, .int .i64 x.f3, .int .i64 x.f4, .int .i64 x.f5], rfl, rfl, ⟨[.int .i64 x.f1], [.int .i64 x.f2, .int .i64 x.f3, .int .i64 x.f4, .int .i64 x.f5], rfl, rfl, ⟨[.int .i64 x.f2], [.int .i64 x.f3, .int .i64 x.f4, .int .i64 x.f5], rfl, rfl, ⟨[.int .i64 x.f3], [.int .i64 x.f4, .int .i64 x.f5], rfl, rfl, ⟨[.int .i64 x.f4], [.int .i64 x.f5], rfl, rfl, rfl⟩⟩⟩⟩⟩
theorem k49_mkM (w : World) (base : Nat) (ok : Nat → Prop) (x : S49)  : k49.M w base ok x [.int .i64 x.f0, .int .i64 x.f1, .int .i64 x.f2, .int .i64 x.f3, .int .i64 x.f4, .int .i64 x.f5] := ⟨[.int .i64 x.f0], [.int .i64 x.f1, .int .i64 x.f2, .int .i64 x.f3, .int .i64 x.f4, .int .i64 x.f5], rfl, rfl, ⟨[.int .i64 x.f1], [.int .i64 x.f2, .int .i64 x.f3, .int .i64 x.f4, .int .i64 x.f5], rfl, rfl, ⟨[.int .i64 x.f2], [.int .i64 x.f3, .int .i64 x.f4, .int .i64 x.f5], rfl, rfl, ⟨[.int .i64 x.f3], [.int .i64 x.f4, .int .i64 x.f5], rfl, rfl, ⟨[.int .i64 x.f4], [.int .i64 x.f5], rfl, rfl, rfl⟩⟩⟩⟩⟩
def J49 (xs : List S49) (i : Int) : S49 := xs.getD i.toNat z49
theorem at_T49 {w : World} {A : Option Addr} {n : Nat} {xs : List S49} (h : Kd.C k49 w A n xs) (i : Int) (h0 : 0 ≤ i) (h1 : i < n) : ∃ ad , A = some ad ∧ w.cell? (ad.add (i.toNat * 6)) = some (.int .i64 (J49 xs i).f0) ∧ w.cell? ⟨(ad.add (i.toNat * 6)).block, (ad.add (i.toNat * 6)).off + 1, none⟩ = some (.int .i64 (J49 xs i).f1) ∧ w.cell? ⟨(ad.add (i.toNat * 6)).block, (ad.add (i.toNat * 6)).off + 2, none⟩ = some (.int .i64 (J49 xs i).f2) ∧ w.cell? ⟨(ad.add (i.toNat * 6)).block, (ad.add (i.toNat * 6)).off + 3, none⟩ = some (.int .i64 (J49 xs i).f3) ∧ w.cell? ⟨(ad.add (i.toNat * 6)).block, (ad.add (i.toNat * 6)).off + 4, none⟩ = some (.int .i64 (J49 xs i).f4) ∧ w.cell? ⟨(ad.add (i.toNat * 6)).block, (ad.add (i.toNat * 6)).off + 5, none⟩ = some (.int .i64 (J49 xs i).f5) := by
 obtain ⟨ad, c, e, _, hK, hc0⟩ := Kd.C_get h z49 i h0 h1
 have hc : ∀ j u, c[j]? = some u → w.cell? (ad.add (i.toNat * 6 + j)) = some u := hc0
 obtain rfl := k49_open hK
 exact ⟨ad, e, hc 0 _ rfl, by rw [← add_field _ _ 1 (by omega)]; exact hc 1 _ rfl, by rw [← add_field _ _ 2 (by omega)]; exact hc 2 _ rfl, by rw [← add_field _ _ 3 (by omega)]; exact hc 3 _ rfl, by rw [← add_field _ _ 4 (by omega)]; exact hc 4 _ rfl, by rw [← add_field _ _ 5 (by omega)]; exact hc 5 _ rfl⟩
structure S39 where
 f0 : Int
 f1 : Int
end Go.Proofs.Ytmmjkebboonnkaa.P
/- F1 -/
namespace Go.Proofs.Ytmmjkebboonnkaa.P
open Go.RowKit Go.Proofs.YtmmjkebboonnkaaW.PrintWords Go.Proofs.YtmmjkebboonnkaaW.PrintLast Go.Proofs.YtmmjkebboonnkaaW.PrintMore
attribute [local go_sem] max2_int min2_int max_two min_two max_three min_three max_four min_four   -- for this text's walks alone
set_option linter.unusedVariables false
set_option linter.unusedSimpArgs false
theorem eqA49 (d : Nat) (w : World) (x0 y0 : Int) (x1 y1 : Int) (x2 y2 : Int) (x3 y3 : Int) (x4 y4 : Int) (x5 y5 : Int) :
  (Op.equalIn (d + 2) 49 (.agg #[.int .i64 x0, .int .i64 x1, .int .i64 x2, .int .i64 x3, .int .i64 x4, .int .i64 x5]) (.agg #[.int .i64 y0, .int .i64 y1, .int .i64 y2, .int .i64 y3, .int .i64 y4, .int .i64 y5])).run Try.prog w = .ok (x0 == y0 && (x1 == y1 && (x2 == y2 && (x3 == y3 && (x4 == y4 && (x5 == y5)))))) w := by
 refine eqA_of Try.underlying49 (by kernel_rfl) ?_
 refine eqf_cons (by rfl) (by go_simp; rfl) (by go_simp; rfl) (by go_simp) ?_
 refine eqf_cons (by rfl) (by go_simp; rfl) (by go_simp; rfl) (by go_simp) ?_
 refine eqf_cons (by rfl) (by go_simp; rfl) (by go_simp; rfl) (by go_simp) ?_
 refine eqf_cons (by rfl) (by go_simp; rfl) (by go_simp; rfl) (by go_simp) ?_
 refine eqf_cons (by rfl) (by go_simp; rfl) (by go_simp; rfl) (by go_simp) ?_
 exact eqf_last (by rfl) (by go_simp; rfl) (by go_simp; rfl) (by go_simp)
end Go.Proofs.Ytmmjkebboonnkaa.P
/- F3 -/
namespace Go.Proofs.Ytmmjkebboonnkaa.P
open Go.RowKit Go.Proofs.YtmmjkebboonnkaaW.PrintWords Go.Proofs.YtmmjkebboonnkaaW.PrintLast Go.Proofs.YtmmjkebboonnkaaW.PrintMore
attribute [local go_sem] max2_int min2_int max_two min_two max_three min_three max_four min_four   -- for this text's walks alone
set_option linter.unusedVariables false
set_option linter.unusedSimpArgs false
def table_isLeaf.f (a0_0 : Int) (a0_1 : Int) (a0_2 : Int) (a0_3 : Int) (a0_4 : Int) (a0_5 : Int) : Option (Bool) := if a0_4 = (-1) then (some (a0_5 == (-1))) else (some false)
set_option maxHeartbeats 8000000 in
set_option maxRecDepth 100000 in
theorem table_isLeaf.calls (a0_0 : Int) (a0_1 : Int) (a0_2 : Int) (a0_3 : Int) (a0_4 : Int) (a0_5 : Int) (r : Bool) (w : World) (h : table_isLeaf.f a0_0 a0_1 a0_2 a0_3 a0_4 a0_5 = some r) :
  Calls Try.prog 66 #[.agg #[.int .i64 a0_0, .int .i64 a0_1, .int .i64 a0_2, .int .i64 a0_3, .int .i64 a0_4, .int .i64 a0_5]] w fun e w' => e = .returned (.bool r) ∧ Below w.heap.size w w' := by
 have hu49 := Try.underlying49
 have HB := asd (Below.refl w.heap.size w)
 have H : (if a0_4 = (-1) then (some (a0_5 == (-1))) else (some false)) = some r := h
 clear h
 by_cases c2 : a0_4 = (-1)
 ·
  rw [if_pos c2] at H
  have c2b0 : (a0_4 == (-1)) = true := beq_iff_eq.mpr c2
  have c2b1 : (a0_4 != (-1)) = false := bne_eq_false_iff_eq.mpr c2
  clear c2
  obtain rfl := Option.some.inj H
  go_enter Try.func66, Try.ntmps66
  go_wp2_with (first | ((with_reducible refine gate_dst (N := 1) rfl ?_); refine box_event ?hg (N := 1) ?hd (cs := #[.int .i64 a0_0, .int .i64 a0_1, .int .i64 a0_2, .int .i64 a0_3, .int .i64 a0_4, .int .i64 a0_5]) (t := 49) ?hr ?_; (case hd => rfl); (case hg => rfl); (case hr => first | (go_simp; done) | (go_simp; rfl)); intro gb103 hg w3 hbox hb; have n0_ := asd (below_step (skB HB.out) hb); have n1_ := asd (hbox); have n2_ := asd ((by rw [hg]; exact (below_size (skB HB.out)) : w.heap.size ≤ gb103)); have n3_ := asd ((by rw [hg]; exact (below_size (skB HB.out)) : w.heap.size ≤ gb103)); clear HB; have HB := n0_; have BK103 := n1_; have GW103 := n2_; have GE103 := n3_; clear n0_ n1_ n2_ n3_; clear hb hbox hg; obtain ⟨hcz4_0, hcz4_1, hcz4_2, hcz4_3, hcz4_4, hcz4_5, hfz4_0, hfz4_1, hfz4_2, hfz4_3, hfz4_4, hfz4_5⟩ := bk6 BK103.out))
  go_ret
  exact ⟨re, skG HB.out GE103.out GE103.out⟩
 ·
  rw [if_neg c2] at H
  have c2b0 : (a0_4 == (-1)) = false := beq_eq_false_iff_ne.mpr c2
  have c2b1 : (a0_4 != (-1)) = true := bne_iff_ne.mpr c2
  obtain rfl := Option.some.inj H
  go_enter Try.func66, Try.ntmps66
  go_wp2_with (first | ((with_reducible refine gate_dst (N := 1) rfl ?_); refine box_event ?hg (N := 1) ?hd (cs := #[.int .i64 a0_0, .int .i64 a0_1, .int .i64 a0_2, .int .i64 a0_3, .int .i64 a0_4, .int .i64 a0_5]) (t := 49) ?hr ?_; (case hd => rfl); (case hg => rfl); (case hr => first | (go_simp; done) | (go_simp; rfl)); intro gb103 hg w5 hbox hb; have n0_ := asd (below_step (skB HB.out) hb); have n1_ := asd (hbox); have n2_ := asd ((by rw [hg]; exact (below_size (skB HB.out)) : w.heap.size ≤ gb103)); have n3_ := asd ((by rw [hg]; exact (below_size (skB HB.out)) : w.heap.size ≤ gb103)); clear HB; have HB := n0_; have BK103 := n1_; have GW103 := n2_; have GE103 := n3_; clear n0_ n1_ n2_ n3_; clear hb hbox hg; obtain ⟨hcz6_0, hcz6_1, hcz6_2, hcz6_3, hcz6_4, hcz6_5, hfz6_0, hfz6_1, hfz6_2, hfz6_3, hfz6_4, hfz6_5⟩ := bk6 BK103.out))
  go_ret
  exact ⟨re, skG HB.out GE103.out GE103.out⟩
end Go.Proofs.Ytmmjkebboonnkaa.P
/- F4 -/
namespace Go.Proofs.Ytmmjkebboonnkaa.P
open Go.RowKit Go.Proofs.YtmmjkebboonnkaaW.PrintWords Go.Proofs.YtmmjkebboonnkaaW.PrintLast Go.Proofs.YtmmjkebboonnkaaW.PrintMore
attribute [local go_sem] max2_int min2_int max_two min_two max_three min_three max_four min_four   -- for this text's walks alone
set_option linter.unusedVariables false
set_option linter.unusedSimpArgs false
def table_order.l0 : Nat → List (S49) → List Bool → List Int → List Int → Option (List Int)
 | 0, _, _, _, _ => none
 | k + 1, x0, x5, x6, x7 => if (x7.length : Int) > 0 then (if 0 ≤ (wrap64 ((x7.length : Int) - 1)) then (if (wrap64 ((x7.length : Int) - 1)) < (x7.length : Int) then (if (wrap64 ((x7.length : Int) - 1)) ≤ (x7.length : Int) then ((some (x7.take ((wrap64 ((x7.length : Int) - 1)) : Int).toNat : List Int)).bind fun y111 => (if 0 ≤ (rd x7 (wrap64 ((x7.length : Int) - 1))) then (if (rd x7 (wrap64 ((x7.length : Int) - 1))) < (x5.length : Int) then (if rdOf false x5 (rd x7 (wrap64 ((x7.length : Int) - 1))) = true then (some ([] : List Int)) else ((some (x5.set ((rd x7 (wrap64 ((x7.length : Int) - 1))) : Int).toNat true : List Bool)).bind fun y115 => (if x6.length < 17592186044416 then ((some (x6 ++ [rd x7 (wrap64 ((x7.length : Int) - 1))] : List Int)).bind fun y116 => (if (rd x7 (wrap64 ((x7.length : Int) - 1))) < (x0.length : Int) then ((table_isLeaf.f ((J49 x0 (rd x7 (wrap64 ((x7.length : Int) - 1)))).f0) ((J49 x0 (rd x7 (wrap64 ((x7.length : Int) - 1)))).f1) ((J49 x0 (rd x7 (wrap64 ((x7.length : Int) - 1)))).f2) ((J49 x0 (rd x7 (wrap64 ((x7.length : Int) - 1)))).f3) ((J49 x0 (rd x7 (wrap64 ((x7.length : Int) - 1)))).f4) ((J49 x0 (rd x7 (wrap64 ((x7.length : Int) - 1)))).f5)).bind fun t120 => (if t120 = true then (table_order.l0 k x0 y115 y116 y111) else ((some (([(J49 x0 (rd x7 (wrap64 ((x7.length : Int) - 1)))).f5, (J49 x0 (rd x7 (wrap64 ((x7.length : Int) - 1)))).f4] : List Int) : List Int)).bind fun y123 => (if y111.length + y123.length < 17592186044416 then (table_order.l0 k x0 y115 y116 (y111 ++ y123)) else (none))))) else (none))) else (none)))) else (none)) else (none))) else (none)) else (none)) else (none)) else (some x6)
def table_order.f (k : Nat) (l0 : List (S49)) (a1 : Int) : Option (List Int) := if 0 ≤ (l0.length : Int) then (if ((l0.length : Int) : Int).toNat ≤ 281474976710656 then (table_order.l0 k l0 (List.replicate ((l0.length : Int) : Int).toNat false) ([] : List Int) (([a1] : List Int))) else (none)) else (none)
theorem table_order.mono_l : ∀ k, (∀ y0 y1 y2 y3, LeO (table_order.l0 k y0 y1 y2 y3) (table_order.l0 (k + 1) y0 y1 y2 y3))
 | 0 => fun _ _ _ _ r h => by simp [table_order.l0] at h
 | k + 1 => by
  have ih0 := table_order.mono_l k
  ·
   intro y0 y1 y2 y3
   unfold table_order.l0
   repeat' first
   | (with_reducible exact ih0 _ _ _ _)
   | (with_reducible exact LeO.refl _)
   | (with_reducible exact LeO.none _)
   | (with_reducible refine LeO.ite ?_ ?_)
   | (with_reducible refine LeO.bind ?_ (fun _ => ?_))
   | exact ih0 _ _ _ _
   | exact LeO.none _
   | refine LeO.ite ?_ ?_
   | refine LeO.bind ?_ (fun _ => ?_)
theorem table_order.mono : ∀ a0 a1 k, LeO (table_order.f k a0 a1) (table_order.f (k + 1) a0 a1) := by
 intro a0 a1 k
 have ih0 := table_order.mono_l k
 unfold table_order.f
 repeat' first
   | (with_reducible exact ih0 _ _ _ _)
   | (with_reducible exact LeO.refl _)
   | (with_reducible exact LeO.none _)
   | (with_reducible refine LeO.ite ?_ ?_)
   | (with_reducible refine LeO.bind ?_ (fun _ => ?_))
   | exact ih0 _ _ _ _
   | exact LeO.none _
   | refine LeO.ite ?_ ?_
   | refine LeO.bind ?_ (fun _ => ?_)
def table_order.T12 : Bool × List (List Nat × List Nat) := (true, [([], []), ([], []), ([], []), ([1, 2], [1, 2]), ([3], [3]), ([4], [4]), ([], []), ([], []), ([6, 7], [6, 7]), ([8], [8]), ([9], [9]), ([5, 10], [5, 10]), ([0, 11], [0, 11]), ([12, 12, 0, 1, 2, 3, 4, 5, 6, 7, 8, 9, 10, 11, 12], [0, 12])])
def table_order.B12 : List Nat := [0, 0, 0, 6, 14, 30, 0, 0, 192, 448, 960, 2046, 4095, 8191]
theorem table_order.tab12 : rtab .any (opsOf Try.f65 12) = table_order.T12 := by kernel_rfl
theorem table_order.bits12 : waitsOk table_order.T12.2 table_order.B12 = true := by kernel_rfl
set_option maxHeartbeats 8000000 in
set_option maxRecDepth 100000 in
theorem table_order.calls (k : Nat) (A0 : Option Addr) (c0 : Nat) (l0 : List (S49)) (a1 : Int) (r : List Int) (w : World) (hr0 : Kd.C k49 w A0 l0.length l0) (hc0 : l0.length ≤ c0) (h : table_order.f k l0 a1 = some r) :
  Calls Try.prog 65 #[.slice A0 l0.length c0, .int .i64 a1] w fun e w' => ∃ v0_ : Value, e = .returned (v0_) ∧ Kd.R (Kd.int .i64) 3 w' w.heap.size (fun _ => True) v0_ r ∧ Below w.heap.size w w' := by
 have hu49 := Try.underlying49
 have HR0 := asd hr0
 have HC0 := asd hc0
 clear hr0 hc0
 have HB := asd (Below.refl w.heap.size w)
 have H : (if 0 ≤ (l0.length : Int) then (if ((l0.length : Int) : Int).toNat ≤ 281474976710656 then (table_order.l0 k l0 (List.replicate ((l0.length : Int) : Int).toNat false) ([] : List Int) (([a1] : List Int))) else (none)) else (none)) = some r := h
 clear h
 by_cases c3 : 0 ≤ (l0.length : Int)
 ·
  rw [if_pos c3] at H
  have c3b0 := eq_true c3
  have c3b1 : decide (0 ≤ (l0.length : Int)) = true := decide_eq_true c3
  clear c3
  by_cases c4 : ((l0.length : Int) : Int).toNat ≤ 281474976710656
  ·
   rw [if_pos c4] at H
   have c4b0 := eq_true c4
   have c4b1 : decide (((l0.length : Int) : Int).toNat ≤ 281474976710656) = true := decide_eq_true c4
   clear c4
   obtain ⟨y104, hy104⟩ : ∃ y_ : List Bool, y_ = (List.replicate ((l0.length : Int) : Int).toNat false) := ⟨_, rfl⟩
   replace H : (table_order.l0 k l0 y104 ([] : List Int) (([a1] : List Int))) = some r := by first | (rw [hy104]; with_reducible exact H) | (have H2_ := (Option.bind_some _ _).symm.trans H; rw [hy104]; with_reducible exact H2_) | (have H2_ := (Option.bind_some _ _).symm.trans H; with_reducible exact H2_) | with_reducible exact H | (rw [hy104]; exact H) | exact H
   have Ny104 := asd hy104
   clear hy104
   obtain ⟨y107, hy107⟩ : ∃ y_ : List Int, y_ = (([a1] : List Int)) := ⟨_, rfl⟩
   replace H : (table_order.l0 k l0 y104 ([] : List Int) y107) = some r := by first | (rw [hy107]; with_reducible exact H) | (have H2_ := (Option.bind_some _ _).symm.trans H; rw [hy107]; with_reducible exact H2_) | (have H2_ := (Option.bind_some _ _).symm.trans H; with_reducible exact H2_) | with_reducible exact H | (rw [hy107]; exact H) | exact H
   have Ny107 := asd hy107
   clear hy107
   have H' := asd H
   clear H
   go_enter Try.func65, Try.ntmps65
   go_wp2_with (first | ((with_reducible refine gate_dst (N := 11) rfl ?_); refine Kd.R_make Kd.bool _ 4 rfl (N := 11) rfl 60 _ _ rfl (l0.length : Int) rfl rfl Try.underlying60 (.bool false) 1 info4 rfl (by decide) (by omega) false (ok := fun _ => True) (okp := fun _ => True) rfl (fun _ hk => hk) trivial dt (Nat.le_trans (Nat.mul_le_mul_right _ (dt : (l0.length : Int).toNat ≤ 281474976710656)) (by omega)) (Below.refl _ _) (Nat.le_refl _) ?_; intro v105 w5 ho6 hb hg_ hnew_; clear hg_ hnew_; (first | rw [← Ny104.out] at ho6 | (simp only [Int.reduceToNat] at ho6; rw [← Ny104.out] at ho6)); have n0_ := asd (Kd.R_lower ho6 (below_size (skB HB.out))); have n1_ := asd (below_step (skB HB.out) hb); clear HB; have HO106 := n0_; have HB := n1_; clear n0_ n1_; clear hb ho6) | ((with_reducible refine gate_dst (N := 13) rfl ?_); refine Kd.R_lit (Kd.int .i64) _ 3 ?hg (N := 13) ?hd (xs := ([a1] : List Int)) (inner := [.int .i64 a1]) (ok := fun _ => True) (okp := fun _ => True) ?hr ?hp (fun _ hk => hk) trivial (Below.refl _ _) (Nat.le_refl _) (by simp) ?_; (case hd => rfl); (case hg => rfl); (case hr => first | (go_simp; done) | (go_simp; rfl)); (case hp => exact (Reps.one (show Kd.M (Kd.int .i64) _ _ _ a1 [.int .i64 a1] from rfl) (Reps.none _ _))); intro v108 w7 ho8 hb hg_ hnew_; clear hg_ hnew_; (first | rw [← Ny107.out] at ho8 | (simp only [Int.reduceToNat] at ho8; rw [← Ny107.out] at ho8)); have n0_ := asd (Kd.R_below (skR HO106.out) hb); have n1_ := asd (Kd.R_lower ho8 (below_size (skB HB.out))); have n2_ := asd (below_step (skB HB.out) hb); clear HO106; clear HB; have HO106 := n0_; have HO109 := n1_; have HB := n2_; clear n0_ n1_ n2_; clear hb ho8))
   go_loopg [6, 7] k (fun kq v6 v7 w' => ∃ (x5_1 : List Bool) (x6_1 : List Int) (x7_1 : List Int), Aside0 (table_order.l0 kq l0 x5_1 x6_1 x7_1 = some r) ∧ Aside0 (kq ≤ k) ∧ Aside0 (Kd.R Kd.bool 4 w' w.heap.size (fun _ => True) v105 x5_1) ∧ Aside0 (Kd.R (Kd.int .i64) 3 w' w.heap.size (fun k_ => some k_ ≠ (v7 : Value).ownBlock) v6 x6_1) ∧ Aside0 (Kd.R (Kd.int .i64) 3 w' w.heap.size (fun k_ => some k_ ≠ (v6 : Value).ownBlock) v7 x7_1) ∧ Aside0 (Below w.heap.size w w'))
   case atStart => exact ⟨(y104), (([] : List Int)), (y107), H', ⟨Nat.le_refl _⟩, ⟨skR HO106.out⟩, ⟨by first | exact Kd.R_nil _ _ _ _ _ | exact Kd.N_nil _ _ _ _ _ | exact Kd.V_nil _ _ _ _ _ | exact Kd.Q_nil _ _ _ _ _ | exact Kd.S_nil _ _ _ _ _⟩, ⟨skR (Kd.R_mono HO109.out (fun _ hk => (by simp [Value.ownBlock])))⟩, ⟨skB HB.out⟩⟩
   case round =>
    clear H'
    try clear p2
    try clear c3
    try clear c3b0
    try clear c3b1
    try clear c4
    try clear c4b0
    try clear c4b1
    try clear c6
    obtain ⟨x5_1, x6_1, x7_1, HA, HK1, HO_5, HO_6, HO_7, HB⟩ := hrel
    cases gk with
    | zero => exact absurd HA.out (by simp [table_order.l0])
    | succ k1 =>
     have H := HA.out
     clear HA
     simp only [table_order.l0] at H
     by_cases c9 : (x7_1.length : Int) > 0
     ·
      rw [if_pos c9] at H
      have c9b0 : decide (0 < (x7_1.length : Int)) = true := decide_eq_true c9
      have c9b1 : decide (0 < x7_1.length) = true := decide_eq_true (by omega)
      clear c9
      obtain ⟨ji10, hji10⟩ : ∃ j_ : Int, (wrap64 ((x7_1.length : Int) - 1)) = j_ := ⟨_, rfl⟩
      replace H : (if 0 ≤ (ji10) then (if (ji10) < (x7_1.length : Int) then (if (ji10) ≤ (x7_1.length : Int) then ((some (x7_1.take ((ji10) : Int).toNat : List Int)).bind fun y111 => (if 0 ≤ (rd x7_1 (ji10)) then (if (rd x7_1 (ji10)) < (x5_1.length : Int) then (if rdOf false x5_1 (rd x7_1 (ji10)) = true then (some ([] : List Int)) else ((some (x5_1.set ((rd x7_1 (ji10)) : Int).toNat true : List Bool)).bind fun y115 => (if x6_1.length < 17592186044416 then ((some (x6_1 ++ [rd x7_1 (ji10)] : List Int)).bind fun y116 => (if (rd x7_1 (ji10)) < (l0.length : Int) then ((table_isLeaf.f ((J49 l0 (rd x7_1 (ji10))).f0) ((J49 l0 (rd x7_1 (ji10))).f1) ((J49 l0 (rd x7_1 (ji10))).f2) ((J49 l0 (rd x7_1 (ji10))).f3) ((J49 l0 (rd x7_1 (ji10))).f4) ((J49 l0 (rd x7_1 (ji10))).f5)).bind fun t120 => (if t120 = true then (table_order.l0 k1 l0 y115 y116 y111) else ((some (([(J49 l0 (rd x7_1 (ji10))).f5, (J49 l0 (rd x7_1 (ji10))).f4] : List Int) : List Int)).bind fun y123 => (if y111.length + y123.length < 17592186044416 then (table_order.l0 k1 l0 y115 y116 (y111 ++ y123)) else (none))))) else (none))) else (none)))) else (none)) else (none))) else (none)) else (none)) else (none)) = some r := by first | (rw [hji10] at H; exact H) | (simp only [hji10] at H ⊢; exact H)
      have hji10w : (IntKind.i64.wrap ((x7_1.length : Int) - 1)) = ji10 := (i64_w _).trans hji10
      by_cases c11 : 0 ≤ (ji10)
      ·
       rw [if_pos c11] at H
       have c11b0 : decide (0 ≤ (ji10)) = true := decide_eq_true c11
       clear c11
       by_cases c12 : (ji10) < (x7_1.length : Int)
       ·
        rw [if_pos c12] at H
        have c12b0 : decide ((ji10) < (x7_1.length : Int)) = true := decide_eq_true c12
        clear c12
        by_cases c13 : (ji10) ≤ (x7_1.length : Int)
        ·
         rw [if_pos c13] at H
         have c13b0 := eq_true c13
         have c13b1 : decide ((ji10) ≤ (x7_1.length : Int)) = true := decide_eq_true c13
         clear c13
         obtain ⟨y111, hy111⟩ : ∃ y_ : List Int, y_ = (x7_1.take ((ji10) : Int).toNat) := ⟨_, rfl⟩
         replace H : (if 0 ≤ (rd x7_1 (ji10)) then (if (rd x7_1 (ji10)) < (x5_1.length : Int) then (if rdOf false x5_1 (rd x7_1 (ji10)) = true then (some ([] : List Int)) else ((some (x5_1.set ((rd x7_1 (ji10)) : Int).toNat true : List Bool)).bind fun y115 => (if x6_1.length < 17592186044416 then ((some (x6_1 ++ [rd x7_1 (ji10)] : List Int)).bind fun y116 => (if (rd x7_1 (ji10)) < (l0.length : Int) then ((table_isLeaf.f ((J49 l0 (rd x7_1 (ji10))).f0) ((J49 l0 (rd x7_1 (ji10))).f1) ((J49 l0 (rd x7_1 (ji10))).f2) ((J49 l0 (rd x7_1 (ji10))).f3) ((J49 l0 (rd x7_1 (ji10))).f4) ((J49 l0 (rd x7_1 (ji10))).f5)).bind fun t120 => (if t120 = true then (table_order.l0 k1 l0 y115 y116 y111) else ((some (([(J49 l0 (rd x7_1 (ji10))).f5, (J49 l0 (rd x7_1 (ji10))).f4] : List Int) : List Int)).bind fun y123 => (if y111.length + y123.length < 17592186044416 then (table_order.l0 k1 l0 y115 y116 (y111 ++ y123)) else (none))))) else (none))) else (none)))) else (none)) else (none)) = some r := by first | (rw [hy111]; with_reducible exact H) | (have H2_ := (Option.bind_some _ _).symm.trans H; rw [hy111]; with_reducible exact H2_) | (have H2_ := (Option.bind_some _ _).symm.trans H; with_reducible exact H2_) | with_reducible exact H | (rw [hy111]; exact H) | exact H
         have Ny111 := asd hy111
         clear hy111
         by_cases c14 : 0 ≤ (rd x7_1 (ji10))
         ·
          rw [if_pos c14] at H
          have c14b0 : decide (0 ≤ (rd x7_1 (ji10))) = true := decide_eq_true c14
          clear c14
          by_cases c15 : (rd x7_1 (ji10)) < (x5_1.length : Int)
          ·
           rw [if_pos c15] at H
           have c15b0 : decide ((rd x7_1 (ji10)) < (x5_1.length : Int)) = true := decide_eq_true c15
           clear c15
           obtain ⟨bq16, hbq16⟩ : ∃ b_ : Bool, b_ = (rdOf false x5_1 (rd x7_1 (ji10))) := ⟨_, rfl⟩
           replace H : (if bq16 = true then (some ([] : List Int)) else ((some (x5_1.set ((rd x7_1 (ji10)) : Int).toNat true : List Bool)).bind fun y115 => (if x6_1.length < 17592186044416 then ((some (x6_1 ++ [rd x7_1 (ji10)] : List Int)).bind fun y116 => (if (rd x7_1 (ji10)) < (l0.length : Int) then ((table_isLeaf.f ((J49 l0 (rd x7_1 (ji10))).f0) ((J49 l0 (rd x7_1 (ji10))).f1) ((J49 l0 (rd x7_1 (ji10))).f2) ((J49 l0 (rd x7_1 (ji10))).f3) ((J49 l0 (rd x7_1 (ji10))).f4) ((J49 l0 (rd x7_1 (ji10))).f5)).bind fun t120 => (if t120 = true then (table_order.l0 k1 l0 y115 y116 y111) else ((some (([(J49 l0 (rd x7_1 (ji10))).f5, (J49 l0 (rd x7_1 (ji10))).f4] : List Int) : List Int)).bind fun y123 => (if y111.length + y123.length < 17592186044416 then (table_order.l0 k1 l0 y115 y116 (y111 ++ y123)) else (none))))) else (none))) else (none)))) = some r := by rw [← hbq16] at H; exact H
           have Nbq16 := asd hbq16
           clear hbq16
           by_cases c17 : bq16 = true
           ·
            subst c17
            have H1 : (some ([] : List Int)) = some r := by rw [if_pos rfl] at H; exact H
            clear H
            have H := H1
            clear H1
            obtain rfl := Option.some.inj H
            obtain ⟨Ao18, co18, eo18⟩ := Kd.R_slice HO_7.out
            subst eo18
            have p110 : 0 ≤ ((ji10) : Int) := dt
            have q110 : (ji10) < (x7_1.length : Int) := dt
            obtain ⟨ad110, e110, hx110_0⟩ := Kd.at_int (Kd.R_reads' HO_7.out).2.2 (ji10) p110 q110
            cases e110
            replace p110 := eq_true p110
            replace q110 := eq_true q110
            have q19 : ((ji10) : Int) ≤ ((x7_1.length : Int) : Int) := dt
            obtain ⟨i019, hi019, _, hsz19, _⟩ := info_parts info3
            have hcut19 := cut_to (P := Try.prog) 23 3 .i64 Try.underlying23 hi019 (some ad110) x7_1.length co18 (ji10) dt q19 (Kd.R_reads' HO_7.out).2.1
            have hr19 := Kd.R_take (m := ((ji10) : Int).toNat) HO_7.out (by omega)
            have hy19 : y111.length = ((ji10) : Int).toNat := (by rw [Ny111.out, List.length_take]; omega)
            rw [← Ny111.out] at hr19
            rw [← hy19] at hr19 hcut19
            clear hy19 hi019 hsz19 HO_7
            have HO113 := asd hr19
            clear hr19
            replace q19 := eq_true q19
            obtain ⟨Ao20, co20, eo20⟩ := Kd.R_slice HO_5.out
            subst eo20
            have p114 : 0 ≤ ((rd x7_1 (ji10)) : Int) := dt
            have q114 : (rd x7_1 (ji10)) < (x5_1.length : Int) := dt
            obtain ⟨ad114, e114, hx114_0⟩ := Kd.at_bool (Kd.R_reads' HO_5.out).2.2 (rd x7_1 (ji10)) p114 q114
            (try rw [← Nbq16.out] at hx114_0)
            cases e114
            replace p114 := eq_true p114
            replace q114 := eq_true q114
            go_wp2
            go_ret
            exact ⟨_, by first | rfl | (simp [errW_none, errW_some] <;> rfl) | (simp only [← hji10]; first | rfl | (simp [errW_none, errW_some] <;> rfl)) | (simp [*, errW_none, errW_some] <;> rfl), by first | exact Kd.R_nil _ _ _ _ _ | exact Kd.N_nil _ _ _ _ _ | exact Kd.V_nil _ _ _ _ _ | exact Kd.Q_nil _ _ _ _ _ | exact Kd.S_nil _ _ _ _ _, skB HB.out⟩
           ·
            replace c17 := Bool.eq_false_iff.mpr c17
            subst c17
            have H1 : ((some (x5_1.set ((rd x7_1 (ji10)) : Int).toNat true : List Bool)).bind fun y115 => (if x6_1.length < 17592186044416 then ((some (x6_1 ++ [rd x7_1 (ji10)] : List Int)).bind fun y116 => (if (rd x7_1 (ji10)) < (l0.length : Int) then ((table_isLeaf.f ((J49 l0 (rd x7_1 (ji10))).f0) ((J49 l0 (rd x7_1 (ji10))).f1) ((J49 l0 (rd x7_1 (ji10))).f2) ((J49 l0 (rd x7_1 (ji10))).f3) ((J49 l0 (rd x7_1 (ji10))).f4) ((J49 l0 (rd x7_1 (ji10))).f5)).bind fun t120 => (if t120 = true then (table_order.l0 k1 l0 y115 y116 y111) else ((some (([(J49 l0 (rd x7_1 (ji10))).f5, (J49 l0 (rd x7_1 (ji10))).f4] : List Int) : List Int)).bind fun y123 => (if y111.length + y123.length < 17592186044416 then (table_order.l0 k1 l0 y115 y116 (y111 ++ y123)) else (none))))) else (none))) else (none))) = some r := by rw [if_neg (show ¬ (false = true) by decide)] at H; exact H
            clear H
            have H := H1
            clear H1
            obtain ⟨y115, hy115⟩ : ∃ y_ : List Bool, y_ = (x5_1.set ((rd x7_1 (ji10)) : Int).toNat true) := ⟨_, rfl⟩
            replace H : (if x6_1.length < 17592186044416 then ((some (x6_1 ++ [rd x7_1 (ji10)] : List Int)).bind fun y116 => (if (rd x7_1 (ji10)) < (l0.length : Int) then ((table_isLeaf.f ((J49 l0 (rd x7_1 (ji10))).f0) ((J49 l0 (rd x7_1 (ji10))).f1) ((J49 l0 (rd x7_1 (ji10))).f2) ((J49 l0 (rd x7_1 (ji10))).f3) ((J49 l0 (rd x7_1 (ji10))).f4) ((J49 l0 (rd x7_1 (ji10))).f5)).bind fun t120 => (if t120 = true then (table_order.l0 k1 l0 y115 y116 y111) else ((some (([(J49 l0 (rd x7_1 (ji10))).f5, (J49 l0 (rd x7_1 (ji10))).f4] : List Int) : List Int)).bind fun y123 => (if y111.length + y123.length < 17592186044416 then (table_order.l0 k1 l0 y115 y116 (y111 ++ y123)) else (none))))) else (none))) else (none)) = some r := by first | (rw [hy115]; with_reducible exact H) | (have H2_ := (Option.bind_some _ _).symm.trans H; rw [hy115]; with_reducible exact H2_) | (have H2_ := (Option.bind_some _ _).symm.trans H; with_reducible exact H2_) | with_reducible exact H | (rw [hy115]; exact H) | exact H
            have Ny115 := asd hy115
            clear hy115
            by_cases c22 : x6_1.length < 17592186044416
            ·
             rw [if_pos c22] at H
             have LMc22 := asd c22
             clear c22
             obtain ⟨y116, hy116⟩ : ∃ y_ : List Int, y_ = (x6_1 ++ [rd x7_1 (ji10)]) := ⟨_, rfl⟩
             replace H : (if (rd x7_1 (ji10)) < (l0.length : Int) then ((table_isLeaf.f ((J49 l0 (rd x7_1 (ji10))).f0) ((J49 l0 (rd x7_1 (ji10))).f1) ((J49 l0 (rd x7_1 (ji10))).f2) ((J49 l0 (rd x7_1 (ji10))).f3) ((J49 l0 (rd x7_1 (ji10))).f4) ((J49 l0 (rd x7_1 (ji10))).f5)).bind fun t120 => (if t120 = true then (table_order.l0 k1 l0 y115 y116 y111) else ((some (([(J49 l0 (rd x7_1 (ji10))).f5, (J49 l0 (rd x7_1 (ji10))).f4] : List Int) : List Int)).bind fun y123 => (if y111.length + y123.length < 17592186044416 then (table_order.l0 k1 l0 y115 y116 (y111 ++ y123)) else (none))))) else (none)) = some r := by first | (rw [hy116]; with_reducible exact H) | (have H2_ := (Option.bind_some _ _).symm.trans H; rw [hy116]; with_reducible exact H2_) | (have H2_ := (Option.bind_some _ _).symm.trans H; with_reducible exact H2_) | with_reducible exact H | (rw [hy116]; exact H) | exact H
             have Ny116 := asd hy116
             clear hy116
             by_cases c23 : (rd x7_1 (ji10)) < (l0.length : Int)
             ·
              rw [if_pos c23] at H
              have c23b0 : decide ((rd x7_1 (ji10)) < (l0.length : Int)) = true := decide_eq_true c23
              clear c23
              replace H := Option.bind_eq_some_iff.mp H
              obtain ⟨t120, A240, H⟩ := H
              replace H : (if t120 = true then (table_order.l0 k1 l0 y115 y116 y111) else ((some (([(J49 l0 (rd x7_1 (ji10))).f5, (J49 l0 (rd x7_1 (ji10))).f4] : List Int) : List Int)).bind fun y123 => (if y111.length + y123.length < 17592186044416 then (table_order.l0 k1 l0 y115 y116 (y111 ++ y123)) else (none)))) = some r := H
              have A24 := asd A240
              clear A240
              by_cases c25 : t120 = true
              ·
               subst c25
               have H1 : (table_order.l0 k1 l0 y115 y116 y111) = some r := by rw [if_pos rfl] at H; exact H
               clear H
               have H := H1
               clear H1
               have H' := asd H
               clear H
               obtain ⟨Ao26, co26, eo26⟩ := Kd.R_slice HO_7.out
               subst eo26
               have p110 : 0 ≤ ((ji10) : Int) := dt
               have q110 : (ji10) < (x7_1.length : Int) := dt
               obtain ⟨ad110, e110, hx110_0⟩ := Kd.at_int (Kd.R_reads' HO_7.out).2.2 (ji10) p110 q110
               cases e110
               replace p110 := eq_true p110
               replace q110 := eq_true q110
               have q27 : ((ji10) : Int) ≤ ((x7_1.length : Int) : Int) := dt
               obtain ⟨i027, hi027, _, hsz27, _⟩ := info_parts info3
               have hcut27 := cut_to (P := Try.prog) 23 3 .i64 Try.underlying23 hi027 (some ad110) x7_1.length co26 (ji10) dt q27 (Kd.R_reads' HO_7.out).2.1
               have hr27 := Kd.R_take (m := ((ji10) : Int).toNat) HO_7.out (by omega)
               have hy27 : y111.length = ((ji10) : Int).toNat := (by rw [Ny111.out, List.length_take]; omega)
               rw [← Ny111.out] at hr27
               rw [← hy27] at hr27 hcut27
               clear hy27 hi027 hsz27 HO_7
               have HO113 := asd hr27
               clear hr27
               replace q27 := eq_true q27
               obtain ⟨Ao28, co28, eo28⟩ := Kd.R_slice HO_5.out
               subst eo28
               have p114 : 0 ≤ ((rd x7_1 (ji10)) : Int) := dt
               have q114 : (rd x7_1 (ji10)) < (x5_1.length : Int) := dt
               obtain ⟨ad114, e114, hx114_0⟩ := Kd.at_bool (Kd.R_reads' HO_5.out).2.2 (rd x7_1 (ji10)) p114 q114
               (try rw [← Nbq16.out] at hx114_0)
               cases e114
               replace p114 := eq_true p114
               replace q114 := eq_true q114
               have p21 : 0 ≤ ((rd x7_1 (ji10)) : Int) := dt
               have q21 : ((rd x7_1 (ji10)) : Int) < ((x5_1.length : Int) : Int) := dt
               obtain ⟨go21, co21, eo21, gb21, gl21, cl21, HG21⟩ := Kd.R_form HO_5.out (by omega)
               (first | cases eo21 | (injection eo21 with ea_ en_ ec_; (first | subst ea_ | (injection ea_ with ea_; subst ea_)); subst ec_; clear en_))
               have GB21 := asd gb21
               have GG21 := asd HG21
               clear gb21 gl21 HG21
               (first | simp only [add_plain] at hx114_0 | skip)
               obtain ⟨hx21_0, hf21_0⟩ := Kd.R_celln false HO_5.out ((rd x7_1 (ji10)) : Int) p21 q21
               replace p21 := eq_true p21
               replace q21 := eq_true q21
               have HP29 := Kd.R_putg HO_5.out ((rd x7_1 (ji10)) : Int) true
               go_wp2_with (first | ((with_reducible refine gate_store (t := 4) (p := 34) rfl ?_); refine store_event (t := 4) (p := 34) (v := ?vo_w30) (w1 := (wr.setCell ⟨go21, ((rd x7_1 (ji10)) : Int).toNat, none⟩ (.bool true))) ?hg ?ho ?hn ?hr ?_; (case ho => rfl); (case hg => rfl); (case hn => rfl); (case hr => first | (go_simp; done) | (go_simp; rfl)); intro w30 hw; have hg : wr.grownBy w30 (some go21) := (by rw [hw]; exact HP29.2); have hp_ : Kd.R Kd.bool 4 w30 w.heap.size (fun _ => True) (.slice (some ⟨go21, 0, none⟩) x5_1.length co28) y115 := (by rw [hw, Ny115.out]; exact HP29.1); clear HP29; have n0_ := asd (hp_); have n1_ := asd (Kd.R_over' (v := (.slice (some ⟨go21, 0, none⟩) x5_1.length co28)) (skR HO_6.out) (Kd.R_typed HO_5.out) (by decide) hg); have n2_ := asd (Kd.R_over' (v := (.slice (some ⟨go21, 0, none⟩) x5_1.length co28)) (skR HO113.out) (Kd.R_typed HO_5.out) (by decide) hg); have n3_ := asd ((by rw [hw]; exact below_set (HB.out) GB21.out : Below w.heap.size w w30)); clear HO_5; clear HO_6; clear HO113; clear HB; have HO_5 := n0_; have HO_6 := n1_; have HO113 := n2_; have HB := n3_; clear n0_ n1_ n2_ n3_; clear hg hw hp_) | ((with_reducible refine gate_builtin (b := .append) (xs := #[.tmp 35, .tmp 37]) rfl ?_); at_builtin; refine Kd.R_append (Kd.int .i64) (w0 := w) w.heap.size rfl (.tmp 35) (.tmp 37) 23 3 (.int .i64 0) 8 rfl Try.underlying23 info3 rfl (by decide) (by omega) u6 x6_1 (rd x7_1 (ji10)) [.int .i64 (rd x7_1 (ji10))] (fun k_ => some k_ ≠ (.slice (some ad110) y111.length co26 : Value).ownBlock) (fun _ => False) rfl rfl ?aP (fun _ hk => hk.elim) ?aF ?aO ?aB ?aS ?aL ?_; (case aP => exact rfl); (case aB => exact (skB HB.out)); (case aF => exact (fun k_ hk => Kd.fresh' (Kd.R_lt (skR HO113.out)) k_ hk)); (case aO => exact (skR HO_6.out)); (case aS => exact (below_size (skB HB.out))); (case aL => have := LMc22.out; omega); intro v117 w31 ho hb hg hat; rw [← Ny116.out] at ho; have n0_ := asd (Kd.R_over' (skR HO_5.out) (Kd.R_typed (skR HO_6.out)) (by decide) hg); have n1_ := asd (Kd.R_after (ok := (fun _ => True)) (skR (Kd.R_mono HO113.out (fun _ hk => ⟨trivial, hk⟩))) hg hat); have n2_ := asd (hb); have n3_ := asd (ho); clear HO_5; clear HO113; clear HB; clear HO_6; have HO_5 := n0_; have HO113 := n1_; have HB := n2_; have HO118 := n3_; clear n0_ n1_ n2_ n3_; clear ho hb hg hat; have p119 : 0 ≤ ((rd x7_1 (ji10)) : Int) := dt; have q119 : (rd x7_1 (ji10)) < (l0.length : Int) := dt; obtain ⟨ad119, e119, hx119_0, hx119_1, hx119_2, hx119_3, hx119_4, hx119_5⟩ := at_T49 HR0.out (rd x7_1 (ji10)) p119 q119; cases e119; replace hx119_0 := skc HB.out hx119_0; replace hx119_1 := skc HB.out hx119_1; replace hx119_2 := skc HB.out hx119_2; replace hx119_3 := skc HB.out hx119_3; replace hx119_4 := skc HB.out hx119_4; replace hx119_5 := skc HB.out hx119_5; replace p119 := eq_true p119; replace q119 := eq_true q119) | ((with_reducible refine gate_callee (f := 66) rfl ?_); refine goesL_ (some 43) rfl rfl Try.func66 (by kernel_rfl) rfl #[.agg #[.int .i64 ((J49 l0 (rd x7_1 (ji10))).f0), .int .i64 ((J49 l0 (rd x7_1 (ji10))).f1), .int .i64 ((J49 l0 (rd x7_1 (ji10))).f2), .int .i64 ((J49 l0 (rd x7_1 (ji10))).f3), .int .i64 ((J49 l0 (rd x7_1 (ji10))).f4), .int .i64 ((J49 l0 (rd x7_1 (ji10))).f5)]] rfl (by (try simp only [List.map_toArray, List.map_cons, List.map_nil]); first | done | (simp only [hji10]; rfl) | rfl | (simp only [List.length_drop, List.length_take]; rfl)) ?_; (with_reducible refine (table_isLeaf.calls ((J49 l0 (rd x7_1 (ji10))).f0) ((J49 l0 (rd x7_1 (ji10))).f1) ((J49 l0 (rd x7_1 (ji10))).f2) ((J49 l0 (rd x7_1 (ji10))).f3) ((J49 l0 (rd x7_1 (ji10))).f4) ((J49 l0 (rd x7_1 (ji10))).f5) true _ A24.out).mono ?_); rintro e w32 ⟨rfl, hb⟩; refine ⟨_, rfl, ?_⟩; have n0_ := asd (Kd.R_below (skR HO_5.out) hb); have n1_ := asd (Kd.R_below (skR HO113.out) hb); have n2_ := asd (Kd.R_below (skR HO118.out) hb); have n3_ := asd (below_step (skB HB.out) hb); clear HO_5; clear HO113; clear HO118; clear HB; have HO_5 := n0_; have HO113 := n1_; have HO118 := n2_; have HB := n3_; clear n0_ n1_ n2_ n3_; (try clear hb); (try clear hb2); (try clear hk); (try clear hi)))
               go_roundg k1
               case measure => have := HK1.out; omega
               case rel => exact ⟨(y115), (y116), (y111), H', ⟨by have := HK1.out; omega⟩, ⟨skR HO_5.out⟩, ⟨skR HO118.out⟩, ⟨skR (Kd.R_mono HO113.out (fun _ hk => hk.2))⟩, ⟨skB HB.out⟩⟩
              ·
               replace c25 := Bool.eq_false_iff.mpr c25
               subst c25
               have H1 : ((some (([(J49 l0 (rd x7_1 (ji10))).f5, (J49 l0 (rd x7_1 (ji10))).f4] : List Int) : List Int)).bind fun y123 => (if y111.length + y123.length < 17592186044416 then (table_order.l0 k1 l0 y115 y116 (y111 ++ y123)) else (none))) = some r := by rw [if_neg (show ¬ (false = true) by decide)] at H; exact H
               clear H
               have H := H1
               clear H1
               obtain ⟨y123, hy123⟩ : ∃ y_ : List Int, y_ = (([(J49 l0 (rd x7_1 (ji10))).f5, (J49 l0 (rd x7_1 (ji10))).f4] : List Int)) := ⟨_, rfl⟩
               replace H : (if y111.length + y123.length < 17592186044416 then (table_order.l0 k1 l0 y115 y116 (y111 ++ y123)) else (none)) = some r := by first | (rw [hy123]; with_reducible exact H) | (have H2_ := (Option.bind_some _ _).symm.trans H; rw [hy123]; with_reducible exact H2_) | (have H2_ := (Option.bind_some _ _).symm.trans H; with_reducible exact H2_) | with_reducible exact H | (rw [hy123]; exact H) | exact H
               have Ny123 := asd hy123
               clear hy123
               by_cases c33 : y111.length + y123.length < 17592186044416
               ·
                rw [if_pos c33] at H
                have LMc33 := asd c33
                clear c33
                obtain ⟨y126, hy126⟩ : ∃ y_ : List Int, y_ = (y111 ++ y123) := ⟨_, rfl⟩
                replace H : (table_order.l0 k1 l0 y115 y116 y126) = some r := by first | (rw [hy126]; with_reducible exact H) | (have H2_ := (Option.bind_some _ _).symm.trans H; rw [hy126]; with_reducible exact H2_) | (have H2_ := (Option.bind_some _ _).symm.trans H; with_reducible exact H2_) | with_reducible exact H | (rw [hy126]; exact H) | exact H
                have Ny126 := asd hy126
                clear hy126
                have H' := asd H
                clear H
                obtain ⟨Ao34, co34, eo34⟩ := Kd.R_slice HO_7.out
                subst eo34
                have p110 : 0 ≤ ((ji10) : Int) := dt
                have q110 : (ji10) < (x7_1.length : Int) := dt
                obtain ⟨ad110, e110, hx110_0⟩ := Kd.at_int (Kd.R_reads' HO_7.out).2.2 (ji10) p110 q110
                cases e110
                replace p110 := eq_true p110
                replace q110 := eq_true q110
                have q35 : ((ji10) : Int) ≤ ((x7_1.length : Int) : Int) := dt
                obtain ⟨i035, hi035, _, hsz35, _⟩ := info_parts info3
                have hcut35 := cut_to (P := Try.prog) 23 3 .i64 Try.underlying23 hi035 (some ad110) x7_1.length co34 (ji10) dt q35 (Kd.R_reads' HO_7.out).2.1
                have hr35 := Kd.R_take (m := ((ji10) : Int).toNat) HO_7.out (by omega)
                have hy35 : y111.length = ((ji10) : Int).toNat := (by rw [Ny111.out, List.length_take]; omega)
                rw [← Ny111.out] at hr35
                rw [← hy35] at hr35 hcut35
                clear hy35 hi035 hsz35 HO_7
                have HO113 := asd hr35
                clear hr35
                replace q35 := eq_true q35
                obtain ⟨Ao36, co36, eo36⟩ := Kd.R_slice HO_5.out
                subst eo36
                have p114 : 0 ≤ ((rd x7_1 (ji10)) : Int) := dt
                have q114 : (rd x7_1 (ji10)) < (x5_1.length : Int) := dt
                obtain ⟨ad114, e114, hx114_0⟩ := Kd.at_bool (Kd.R_reads' HO_5.out).2.2 (rd x7_1 (ji10)) p114 q114
                (try rw [← Nbq16.out] at hx114_0)
                cases e114
                replace p114 := eq_true p114
                replace q114 := eq_true q114
                have p21 : 0 ≤ ((rd x7_1 (ji10)) : Int) := dt
                have q21 : ((rd x7_1 (ji10)) : Int) < ((x5_1.length : Int) : Int) := dt
                obtain ⟨go21, co21, eo21, gb21, gl21, cl21, HG21⟩ := Kd.R_form HO_5.out (by omega)
                (first | cases eo21 | (injection eo21 with ea_ en_ ec_; (first | subst ea_ | (injection ea_ with ea_; subst ea_)); subst ec_; clear en_))
                have GB21 := asd gb21
                have GG21 := asd HG21
                clear gb21 gl21 HG21
                (first | simp only [add_plain] at hx114_0 | skip)
                obtain ⟨hx21_0, hf21_0⟩ := Kd.R_celln false HO_5.out ((rd x7_1 (ji10)) : Int) p21 q21
                replace p21 := eq_true p21
                replace q21 := eq_true q21
                have HP37 := Kd.R_putg HO_5.out ((rd x7_1 (ji10)) : Int) true
                try go_wp2_with (first | ((with_reducible refine gate_store (t := 4) (p := 34) rfl ?_); refine store_event (t := 4) (p := 34) (v := ?vo_w38) (w1 := (wr.setCell ⟨go21, ((rd x7_1 (ji10)) : Int).toNat, none⟩ (.bool true))) ?hg ?ho ?hn ?hr ?_; (case ho => rfl); (case hg => rfl); (case hn => rfl); (case hr => first | (go_simp; done) | (go_simp; rfl)); intro w38 hw; have hg : wr.grownBy w38 (some go21) := (by rw [hw]; exact HP37.2); have hp_ : Kd.R Kd.bool 4 w38 w.heap.size (fun _ => True) (.slice (some ⟨go21, 0, none⟩) x5_1.length co36) y115 := (by rw [hw, Ny115.out]; exact HP37.1); clear HP37; have n0_ := asd (hp_); have n1_ := asd (Kd.R_over' (v := (.slice (some ⟨go21, 0, none⟩) x5_1.length co36)) (skR HO_6.out) (Kd.R_typed HO_5.out) (by decide) hg); have n2_ := asd (Kd.R_over' (v := (.slice (some ⟨go21, 0, none⟩) x5_1.length co36)) (skR HO113.out) (Kd.R_typed HO_5.out) (by decide) hg); have n3_ := asd ((by rw [hw]; exact below_set (HB.out) GB21.out : Below w.heap.size w w38)); clear HO_5; clear HO_6; clear HO113; clear HB; have HO_5 := n0_; have HO_6 := n1_; have HO113 := n2_; have HB := n3_; clear n0_ n1_ n2_ n3_; clear hg hw hp_) | ((with_reducible refine gate_builtin (b := .append) (xs := #[.tmp 35, .tmp 37]) rfl ?_); at_builtin; refine Kd.R_append (Kd.int .i64) (w0 := w) w.heap.size rfl (.tmp 35) (.tmp 37) 23 3 (.int .i64 0) 8 rfl Try.underlying23 info3 rfl (by decide) (by omega) u6 x6_1 (rd x7_1 (ji10)) [.int .i64 (rd x7_1 (ji10))] (fun k_ => some k_ ≠ (.slice (some ad110) y111.length co34 : Value).ownBlock) (fun _ => False) rfl rfl ?aP (fun _ hk => hk.elim) ?aF ?aO ?aB ?aS ?aL ?_; (case aP => exact rfl); (case aB => exact (skB HB.out)); (case aF => exact (fun k_ hk => Kd.fresh' (Kd.R_lt (skR HO113.out)) k_ hk)); (case aO => exact (skR HO_6.out)); (case aS => exact (below_size (skB HB.out))); (case aL => have := LMc22.out; omega); intro v117 w39 ho hb hg hat; rw [← Ny116.out] at ho; have n0_ := asd (Kd.R_over' (skR HO_5.out) (Kd.R_typed (skR HO_6.out)) (by decide) hg); have n1_ := asd (Kd.R_after (ok := (fun _ => True)) (skR (Kd.R_mono HO113.out (fun _ hk => ⟨trivial, hk⟩))) hg hat); have n2_ := asd (hb); have n3_ := asd (ho); clear HO_5; clear HO113; clear HB; clear HO_6; have HO_5 := n0_; have HO113 := n1_; have HB := n2_; have HO118 := n3_; clear n0_ n1_ n2_ n3_; clear ho hb hg hat; have p119 : 0 ≤ ((rd x7_1 (ji10)) : Int) := dt; have q119 : (rd x7_1 (ji10)) < (l0.length : Int) := dt; obtain ⟨ad119, e119, hx119_0, hx119_1, hx119_2, hx119_3, hx119_4, hx119_5⟩ := at_T49 HR0.out (rd x7_1 (ji10)) p119 q119; cases e119; replace hx119_0 := skc HB.out hx119_0; replace hx119_1 := skc HB.out hx119_1; replace hx119_2 := skc HB.out hx119_2; replace hx119_3 := skc HB.out hx119_3; replace hx119_4 := skc HB.out hx119_4; replace hx119_5 := skc HB.out hx119_5; replace p119 := eq_true p119; replace q119 := eq_true q119) | ((with_reducible refine gate_callee (f := 66) rfl ?_); refine goesL_ (some 43) rfl rfl Try.func66 (by kernel_rfl) rfl #[.agg #[.int .i64 ((J49 l0 (rd x7_1 (ji10))).f0), .int .i64 ((J49 l0 (rd x7_1 (ji10))).f1), .int .i64 ((J49 l0 (rd x7_1 (ji10))).f2), .int .i64 ((J49 l0 (rd x7_1 (ji10))).f3), .int .i64 ((J49 l0 (rd x7_1 (ji10))).f4), .int .i64 ((J49 l0 (rd x7_1 (ji10))).f5)]] rfl (by (try simp only [List.map_toArray, List.map_cons, List.map_nil]); first | done | (simp only [hji10]; rfl) | rfl | (simp only [List.length_drop, List.length_take]; rfl)) ?_; (with_reducible refine (table_isLeaf.calls ((J49 l0 (rd x7_1 (ji10))).f0) ((J49 l0 (rd x7_1 (ji10))).f1) ((J49 l0 (rd x7_1 (ji10))).f2) ((J49 l0 (rd x7_1 (ji10))).f3) ((J49 l0 (rd x7_1 (ji10))).f4) ((J49 l0 (rd x7_1 (ji10))).f5) false _ A24.out).mono ?_); rintro e w40 ⟨rfl, hb⟩; refine ⟨_, rfl, ?_⟩; have n0_ := asd (Kd.R_below (skR HO_5.out) hb); have n1_ := asd (Kd.R_below (skR HO113.out) hb); have n2_ := asd (Kd.R_below (skR HO118.out) hb); have n3_ := asd (below_step (skB HB.out) hb); clear HO_5; clear HO113; clear HO118; clear HB; have HO_5 := n0_; have HO113 := n1_; have HO118 := n2_; have HB := n3_; clear n0_ n1_ n2_ n3_; (try clear hb); (try clear hb2); (try clear hk); (try clear hi)))
                have n0_ := asd (Kd.R_drew HO_5.out)
                have n1_ := asd (Kd.R_drew HO113.out)
                have n2_ := asd (Kd.R_drew HO118.out)
                have n3_ := asd (below_drew1 HB.out)
                clear HO_5
                clear HO113
                clear HO118
                clear HB
                have HO_5 := n0_
                have HO113 := n1_
                have HO118 := n2_
                have HB := n3_
                clear n0_ n1_ n2_ n3_
                have p121 : 0 ≤ ((rd x7_1 (ji10)) : Int) := dt
                have q121 : (rd x7_1 (ji10)) < (l0.length : Int) := dt
                obtain ⟨ad121, e121, hx121_0, hx121_1, hx121_2, hx121_3, hx121_4, hx121_5⟩ := at_T49 HR0.out (rd x7_1 (ji10)) p121 q121
                have hw121_5 := hx121_5
                have hw121_4 := hx121_4
                have hw121_3 := hx121_3
                have hw121_2 := hx121_2
                have hw121_1 := hx121_1
                have hw121_0 := hx121_0
                obtain rfl : ad119 = ad121 := (by injection e121)
                replace hx121_0 := skc HB.out hx121_0
                replace hx121_1 := skc HB.out hx121_1
                replace hx121_2 := skc HB.out hx121_2
                replace hx121_3 := skc HB.out hx121_3
                replace hx121_4 := skc HB.out hx121_4
                replace hx121_5 := skc HB.out hx121_5
                replace p121 := eq_true p121
                replace q121 := eq_true q121
                have p122 : 0 ≤ ((rd x7_1 (ji10)) : Int) := dt
                have q122 : (rd x7_1 (ji10)) < (l0.length : Int) := dt
                obtain ⟨ad122, e122, hx122_0, hx122_1, hx122_2, hx122_3, hx122_4, hx122_5⟩ := at_T49 HR0.out (rd x7_1 (ji10)) p122 q122
                have hw122_5 := hx122_5
                have hw122_4 := hx122_4
                have hw122_3 := hx122_3
                have hw122_2 := hx122_2
                have hw122_1 := hx122_1
                have hw122_0 := hx122_0
                obtain rfl : ad119 = ad122 := (by injection e122)
                replace hx122_0 := skc HB.out hx122_0
                replace hx122_1 := skc HB.out hx122_1
                replace hx122_2 := skc HB.out hx122_2
                replace hx122_3 := skc HB.out hx122_3
                replace hx122_4 := skc HB.out hx122_4
                replace hx122_5 := skc HB.out hx122_5
                replace p122 := eq_true p122
                replace q122 := eq_true q122
                refine start_ (n := 14) (S := fun w' => w'.cell? (ad119.add (((rd x7_1 (ji10))).toNat * 6)) = some (.int .i64 ((J49 l0 (rd x7_1 (ji10))).f0)) ∧ w'.cell? ⟨(ad119.add (((rd x7_1 (ji10))).toNat * 6)).block, (ad119.add (((rd x7_1 (ji10))).toNat * 6)).off + 1, none⟩ = some (.int .i64 ((J49 l0 (rd x7_1 (ji10))).f1)) ∧ w'.cell? ⟨(ad119.add (((rd x7_1 (ji10))).toNat * 6)).block, (ad119.add (((rd x7_1 (ji10))).toNat * 6)).off + 2, none⟩ = some (.int .i64 ((J49 l0 (rd x7_1 (ji10))).f2)) ∧ w'.cell? ⟨(ad119.add (((rd x7_1 (ji10))).toNat * 6)).block, (ad119.add (((rd x7_1 (ji10))).toNat * 6)).off + 3, none⟩ = some (.int .i64 ((J49 l0 (rd x7_1 (ji10))).f3)) ∧ w'.cell? ⟨(ad119.add (((rd x7_1 (ji10))).toNat * 6)).block, (ad119.add (((rd x7_1 (ji10))).toNat * 6)).off + 4, none⟩ = some (.int .i64 ((J49 l0 (rd x7_1 (ji10))).f4)) ∧ w'.cell? ⟨(ad119.add (((rd x7_1 (ji10))).toNat * 6)).block, (ad119.add (((rd x7_1 (ji10))).toNat * 6)).off + 5, none⟩ = some (.int .i64 ((J49 l0 (rd x7_1 (ji10))).f5)) ∧ w'.cell? (ad119.add (((rd x7_1 (ji10))).toNat * 6)) = some (.int .i64 ((J49 l0 (rd x7_1 (ji10))).f0)) ∧ w'.cell? ⟨(ad119.add (((rd x7_1 (ji10))).toNat * 6)).block, (ad119.add (((rd x7_1 (ji10))).toNat * 6)).off + 1, none⟩ = some (.int .i64 ((J49 l0 (rd x7_1 (ji10))).f1)) ∧ w'.cell? ⟨(ad119.add (((rd x7_1 (ji10))).toNat * 6)).block, (ad119.add (((rd x7_1 (ji10))).toNat * 6)).off + 2, none⟩ = some (.int .i64 ((J49 l0 (rd x7_1 (ji10))).f2)) ∧ w'.cell? ⟨(ad119.add (((rd x7_1 (ji10))).toNat * 6)).block, (ad119.add (((rd x7_1 (ji10))).toNat * 6)).off + 3, none⟩ = some (.int .i64 ((J49 l0 (rd x7_1 (ji10))).f3)) ∧ w'.cell? ⟨(ad119.add (((rd x7_1 (ji10))).toNat * 6)).block, (ad119.add (((rd x7_1 (ji10))).toNat * 6)).off + 4, none⟩ = some (.int .i64 ((J49 l0 (rd x7_1 (ji10))).f4)) ∧ w'.cell? ⟨(ad119.add (((rd x7_1 (ji10))).toNat * 6)).block, (ad119.add (((rd x7_1 (ji10))).toNat * 6)).off + 5, none⟩ = some (.int .i64 ((J49 l0 (rd x7_1 (ji10))).f5))) (ds := []) #[false,false,false,false,false,false,false,false,false,false,false,false,false,false] (by kernel_rfl) rfl rfl ⟨(skc HB.out hw121_0), (skc HB.out hw121_1), (skc HB.out hw121_2), (skc HB.out hw121_3), (skc HB.out hw121_4), (skc HB.out hw121_5), (skc HB.out hw122_0), (skc HB.out hw122_1), (skc HB.out hw122_2), (skc HB.out hw122_3), (skc HB.out hw122_4), (skc HB.out hw122_5)⟩ (fun hHeld => ?_); refine with_tabW table_order.tab12 table_order.bits12 (fun HT_ HW_ => ?_)
                generalize w40.drew = w41 at HO_5 HO113 HO118 HB hx121_0 hx121_1 hx121_2 hx121_3 hx121_4 hx121_5 hx122_0 hx122_1 hx122_2 hx122_3 hx122_4 hx122_5 hHeld ⊢
                refine pure_ (i := 0) (N := some 45) (v := ?_) (a' := ?_) #[true,false,false,false,false,false,false,false,false,false,false,false,false,false] rfl rfl (aK HT_.out) (fun _ _ _ h => h) (Or.inl ⟨by rfl, ?_⟩) ?_ ?_
                rotate_left
                ·
                 intro w'
                 go_simp
                 with_reducible rfl
                rotate_left
                ·
                 simp only [Act.put, sp]
                 rfl
                refine pure_ (i := 1) (N := some 46) (v := ?_) (a' := ?_) #[true,true,false,false,false,false,false,false,false,false,false,false,false,false] rfl rfl (aK HT_.out) (fun _ _ _ h => h) (Or.inl ⟨by rfl, ?_⟩) ?_ ?_
                rotate_left
                ·
                 intro w'
                 go_simp
                 with_reducible rfl
                rotate_left
                ·
                 simp only [Act.put, sp]
                 rfl
                refine pure_ (i := 2) (N := some 47) (v := ?_) (a' := ?_) #[true,true,true,false,false,false,false,false,false,false,false,false,false,false] rfl rfl (aK HT_.out) (fun _ _ _ h => h) (Or.inl ⟨by rfl, ?_⟩) ?_ ?_
                rotate_left
                ·
                 intro w'
                 go_simp
                 with_reducible rfl
                rotate_left
                ·
                 simp only [Act.put, sp]
                 rfl
                refine pure_ (i := 3) (N := some 48) (v := ?_) (a' := ?_) #[true,true,true,true,false,false,false,false,false,false,false,false,false,false] rfl rfl (aK HT_.out) (fun _ _ _ h => h) (Or.inl ⟨by rfl, ?_⟩) ?_ ?_
                rotate_left
                ·
                 intro w'
                 go_simp
                 with_reducible rfl
                rotate_left
                ·
                 simp only [Act.put, sp]
                 rfl
                refine pure_ (i := 4) (N := some 49) (v := ?_) (a' := ?_) #[true,true,true,true,true,false,false,false,false,false,false,false,false,false] rfl rfl (aK HT_.out) (fun _ _ _ h => h) (Or.inl ⟨by rfl, ?_⟩) ?_ ?_
                rotate_left
                ·
                 intro w'
                 go_simp
                 with_reducible rfl
                rotate_left
                ·
                 simp only [Act.put, sp]
                 rfl
                refine pure_ (i := 6) (N := some 51) (v := ?_) (a' := ?_) #[true,true,true,true,true,false,true,false,false,false,false,false,false,false] rfl rfl (aK HT_.out) (fun _ _ _ h => h) (Or.inl ⟨by rfl, ?_⟩) ?_ ?_
                rotate_left
                ·
                 intro w'
                 go_simp
                 with_reducible rfl
                rotate_left
                ·
                 simp only [Act.put, sp]
                 rfl
                refine pure_ (i := 7) (N := some 52) (v := ?_) (a' := ?_) #[true,true,true,true,true,false,true,true,false,false,false,false,false,false] rfl rfl (aK HT_.out) (fun _ _ _ h => h) (Or.inl ⟨by rfl, ?_⟩) ?_ ?_
                rotate_left
                ·
                 intro w'
                 go_simp
                 with_reducible rfl
                rotate_left
                ·
                 simp only [Act.put, sp]
                 rfl
                refine pure_ (i := 8) (N := some 53) (v := ?_) (a' := ?_) #[true,true,true,true,true,false,true,true,true,false,false,false,false,false] rfl rfl (aK HT_.out) (fun _ _ _ h => h) (Or.inl ⟨by rfl, ?_⟩) ?_ ?_
                rotate_left
                ·
                 intro w'
                 go_simp
                 with_reducible rfl
                rotate_left
                ·
                 simp only [Act.put, sp]
                 rfl
                refine pure_ (i := 9) (N := some 54) (v := ?_) (a' := ?_) #[true,true,true,true,true,false,true,true,true,true,false,false,false,false] rfl rfl (aK HT_.out) (fun _ _ _ h => h) (Or.inl ⟨by rfl, ?_⟩) ?_ ?_
                rotate_left
                ·
                 intro w'
                 go_simp
                 with_reducible rfl
                rotate_left
                ·
                 simp only [Act.put, sp]
                 rfl
                refine take_ (i := 5) (N := some 50) (v := ?_) (a' := ?_) #[true,true,true,true,true,true,true,true,true,true,false,false,false,false] rfl rfl (take_ofW HT_.out HW_.out (by kernel_rfl)) (fun _ _ _ h => h) (Or.inl ⟨by rfl, ?_⟩) hHeld ?_ ?_
                rotate_left
                ·
                 rintro w' ⟨s0, s1, s2, s3, s4, s5, s6, s7, s8, s9, s10, s11⟩
                 go_simp
                 with_reducible rfl
                rotate_left
                ·
                 simp only [Act.put, sp]
                 rfl
                refine take_ (i := 10) (N := some 55) (v := ?_) (a' := ?_) #[true,true,true,true,true,true,true,true,true,true,true,false,false,false] rfl rfl (take_ofW HT_.out HW_.out (by kernel_rfl)) (fun _ _ _ h => h) (Or.inl ⟨by rfl, ?_⟩) hHeld ?_ ?_
                rotate_left
                ·
                 rintro w' ⟨s0, s1, s2, s3, s4, s5, s6, s7, s8, s9, s10, s11⟩
                 go_simp
                 with_reducible rfl
                rotate_left
                ·
                 simp only [Act.put, sp]
                 rfl
                refine one_ (i := 11) (N := some 56) #[true,true,true,true,true,true,true,true,true,true,true,true,false,false] rfl rfl (one_of HT_.out (by kernel_rfl)) (by decide) (fun K hK => ?_)
                refine Kd.R_lit_step (Kd.int .i64) _ 3 ?hg (N := 56) ?hd (xs := ([(J49 l0 (rd x7_1 (ji10))).f5, (J49 l0 (rd x7_1 (ji10))).f4] : List Int)) (inner := [.int .i64 ((J49 l0 (rd x7_1 (ji10))).f5), .int .i64 ((J49 l0 (rd x7_1 (ji10))).f4)]) (ok := fun _ => True) (okp := fun _ => True) ?hr ?hp (fun _ hk => hk) trivial (Below.refl _ _) (Nat.le_refl _) (by simp) ?_; (case hd => rfl); (case hg => rfl); (case hr => first | (go_simp; done) | (go_simp; rfl)); (case hp => exact (Reps.one (show Kd.M (Kd.int .i64) _ _ _ ((J49 l0 (rd x7_1 (ji10))).f5) [.int .i64 ((J49 l0 (rd x7_1 (ji10))).f5)] from rfl) (Reps.one (show Kd.M (Kd.int .i64) _ _ _ ((J49 l0 (rd x7_1 (ji10))).f4) [.int .i64 ((J49 l0 (rd x7_1 (ji10))).f4)] from rfl) (Reps.none _ _))))
                intro v124 w42 ho43 hb hg_ hnew_
                clear hg_ hnew_
                (first | rw [← Ny123.out] at ho43 | (simp only [Int.reduceToNat] at ho43; rw [← Ny123.out] at ho43))
                have n0_ := asd (Kd.R_below (skR HO_5.out) hb)
                have n1_ := asd (Kd.R_elder' (skR HO113.out) (Kd.R_base ho43) hb)
                have n2_ := asd (Kd.R_elder' (skR HO118.out) (Kd.R_base ho43) hb)
                have n3_ := asd (Kd.R_lower (Kd.R_new' (Kd.R_new' ho43 (Kd.R_lt (skR HO113.out))) (Kd.R_lt (skR HO118.out))) (below_size (skB HB.out)))
                have n4_ := asd (below_step (skB HB.out) hb)
                clear HO_5
                clear HO113
                clear HO118
                clear HB
                have HO_5 := n0_
                have HO113 := n1_
                have HO118 := n2_
                have HO125 := n3_
                have HB := n4_
                clear n0_ n1_ n2_ n3_ n4_
                clear hb ho43
                obtain ⟨Ao45, co45, eo45⟩ := Kd.R_slice HO125.out
                (first | subst eo45 | (injection eo45 with f1_ f2_ f3_; have f4_ := f1_.symm; have f5_ := f3_.symm; clear f1_ f2_ f3_; subst f4_; subst f5_))
                refine hK.out _ _ ⟨(skc HB.out hw121_0), (skc HB.out hw121_1), (skc HB.out hw121_2), (skc HB.out hw121_3), (skc HB.out hw121_4), (skc HB.out hw121_5), (skc HB.out hw122_0), (skc HB.out hw122_1), (skc HB.out hw122_2), (skc HB.out hw122_3), (skc HB.out hw122_4), (skc HB.out hw122_5)⟩ (fun hHeld => ?_)
                clear hK K
                refine norm_ (a' := ?_) ?_ ?_
                rotate_left
                ·
                 show Act.put _ (some 56) _ = _
                 simp only [Act.put, sp]
                 rfl
                refine one_ (i := 12) (N := some 57) #[true,true,true,true,true,true,true,true,true,true,true,true,true,false] rfl rfl (one_of HT_.out (by kernel_rfl)) (by decide) (fun K hK => ?_)
                refine Kd.R_append_rows_step (Kd.int .i64) (w0 := w) w.heap.size (by rfl) (.tmp 45) (.tmp 56) 23 3 (.int .i64 0) 8 rfl Try.underlying23 info3 rfl (by decide) (by omega) (.slice (some ad110) y111.length co34) y111 y123 _ _ _ (fun k_ => some k_ ≠ (v117 : Value).ownBlock ∧ some k_ ≠ (.slice Ao45 y123.length co45 : Value).ownBlock) (fun _ => False) rfl rfl ?aO ?aR (fun _ _ h => h) (fun _ h => h.elim) ?aF ?aB ?aS ?aL ?_
                (case aR => exact skC (Kd.R_reads' HO125.out).2.2)
                (case aB => exact (skB HB.out))
                (case aF => exact (fun k_ hk => ⟨Kd.fresh' (Kd.R_lt (skR HO118.out)) k_ hk, Kd.fresh' (Kd.R_lt (skR HO125.out)) k_ hk⟩))
                (case aO => exact (skR (Kd.R_mono HO113.out (fun _ hk => ⟨hk.1.2, hk.2⟩))))
                (case aS => exact (below_size (skB HB.out)))
                (case aL => have := LMc33.out; omega)
                intro v127 w44 ho hb hg hat
                rw [← Ny126.out] at ho
                have n0_ := asd (Kd.R_over' (skR HO_5.out) (Kd.R_typed (skR HO113.out)) (by decide) hg)
                have n1_ := asd (Kd.R_after (ok := (fun k_ => some k_ ≠ (.slice Ao45 y123.length co45 : Value).ownBlock)) (skR (Kd.R_mono HO118.out (fun _ hk => ⟨hk.2, hk.1⟩))) hg hat)
                have n2_ := asd (Kd.R_after (ok := (fun k_ => some k_ ≠ (v117 : Value).ownBlock)) (skR (Kd.R_mono HO125.out (fun _ hk => ⟨hk.2, hk.1.2⟩))) hg hat)
                have n3_ := asd (hb)
                have n4_ := asd (ho)
                clear HO_5
                clear HO118
                clear HO125
                clear HB
                clear HO113
                have HO_5 := n0_
                have HO118 := n1_
                have HO125 := n2_
                have HB := n3_
                have HO128 := n4_
                clear n0_ n1_ n2_ n3_ n4_
                clear ho hb hg hat
                refine hK.out _ _ ⟨(skc HB.out hw121_0), (skc HB.out hw121_1), (skc HB.out hw121_2), (skc HB.out hw121_3), (skc HB.out hw121_4), (skc HB.out hw121_5), (skc HB.out hw122_0), (skc HB.out hw122_1), (skc HB.out hw122_2), (skc HB.out hw122_3), (skc HB.out hw122_4), (skc HB.out hw122_5)⟩ (fun hHeld => ?_)
                clear hK K
                refine norm_ (a' := ?_) ?_ ?_
                rotate_left
                ·
                 show Act.put _ (some 57) _ = _
                 simp only [Act.put, sp]
                 rfl
                refine pure_ (i := 13) (N := some 7) (v := ?_) (a' := ?_) #[true,true,true,true,true,true,true,true,true,true,true,true,true,true] rfl rfl (aK HT_.out) (fun _ _ _ h => h) (Or.inl ⟨by rfl, ?_⟩) ?_ ?_
                rotate_left
                ·
                 intro w'
                 go_simp
                 with_reducible rfl
                rotate_left
                ·
                 simp only [Act.put, sp]
                 rfl
                refine done_ (done_of HT_.out (by kernel_rfl)) ?_
                try go_wp2
                go_roundg k1
                case measure => have := HK1.out; omega
                case rel => exact ⟨(y115), (y116), (y126), H', ⟨by have := HK1.out; omega⟩, ⟨skR HO_5.out⟩, ⟨skR (Kd.R_mono HO118.out (fun _ hk => hk.2))⟩, ⟨skR (Kd.R_mono HO128.out (fun _ hk => hk.1))⟩, ⟨skB HB.out⟩⟩
               ·
                rw [if_neg c33] at H
                exact absurd H (by simp)
             ·
              rw [if_neg c23] at H
              exact absurd H (by simp)
            ·
             rw [if_neg c22] at H
             exact absurd H (by simp)
          ·
           rw [if_neg c15] at H
           exact absurd H (by simp)
         ·
          rw [if_neg c14] at H
          exact absurd H (by simp)
        ·
         rw [if_neg c13] at H
         exact absurd H (by simp)
       ·
        rw [if_neg c12] at H
        exact absurd H (by simp)
      ·
       rw [if_neg c11] at H
       exact absurd H (by simp)
     ·
      rw [if_neg c9] at H
      have c9b0 : decide (0 < (x7_1.length : Int)) = false := decide_eq_false c9
      have c9b1 : decide (0 < x7_1.length) = false := decide_eq_false (by omega)
      clear c9
      obtain rfl := Option.some.inj H
      obtain ⟨Ao46, co46, eo46⟩ := Kd.R_slice HO_7.out
      subst eo46
      go_wp2
      go_ret
      exact ⟨_, re, skR (Kd.R_mono HO_6.out (fun _ hk => trivial)), skB HB.out⟩
  ·
   rw [if_neg c4] at H
   exact absurd H (by simp)
 ·
  rw [if_neg c3] at H
  exact absurd H (by simp)
end Go.Proofs.Ytmmjkebboonnkaa.P
/- F7 -/
namespace Go.Proofs.Ytmmjkebboonnkaa.P
open Go.RowKit Go.Proofs.YtmmjkebboonnkaaW.PrintWords Go.Proofs.YtmmjkebboonnkaaW.PrintLast Go.Proofs.YtmmjkebboonnkaaW.PrintMore
attribute [local go_sem] max2_int min2_int max_two min_two max_three min_three max_four min_four   -- for this text's walks alone
set_option linter.unusedVariables false
set_option linter.unusedSimpArgs false
def table_sentinel.f  : Option (Int × Int × Int × Int × Int × Int) := some (0, 1, 1, 0, (-1), (-1))
set_option maxHeartbeats 8000000 in
set_option maxRecDepth 100000 in
theorem table_sentinel.calls  (r1 : Int) (r2 : Int) (r3 : Int) (r4 : Int) (r5 : Int) (r6 : Int) (w : World) (h : table_sentinel.f  = some (r1, r2, r3, r4, r5, r6)) :
  Calls Try.prog 69 #[] w fun e w' => e = .returned (.agg #[.int .i64 r1, .int .i64 r2, .int .i64 r3, .int .i64 r4, .int .i64 r5, .int .i64 r6]) ∧ Below w.heap.size w w' := by
 have hu49 := Try.underlying49
 have HB := asd (Below.refl w.heap.size w)
 have H : (some (0, 1, 1, 0, (-1), (-1))) = some (r1, r2, r3, r4, r5, r6) := h
 clear h
 simp only [Option.some.injEq, Prod.mk.injEq] at H
 obtain ⟨rfl, rfl, rfl, rfl, rfl, rfl⟩ := H
 go_enter Try.func69, Try.ntmps69
 go_wp2_with (first | ((with_reducible refine gate_dst (N := 0) rfl ?_); refine box_event ?hg (N := 0) ?hd (cs := #[.int .i64 0, .int .i64 0, .int .i64 0, .int .i64 0, .int .i64 0, .int .i64 0]) (t := 49) ?hr ?_; (case hd => rfl); (case hg => rfl); (case hr => first | (go_simp; done) | (go_simp; rfl)); intro gb135 hg w1 hbox hb; have n0_ := asd (below_step (skB HB.out) hb); have n1_ := asd (hbox); have n2_ := asd ((by rw [hg]; exact (below_size (skB HB.out)) : w.heap.size ≤ gb135)); have n3_ := asd ((by rw [hg]; exact (below_size (skB HB.out)) : w.heap.size ≤ gb135)); clear HB; have HB := n0_; have BK135 := n1_; have GW135 := n2_; have GE135 := n3_; clear n0_ n1_ n2_ n3_; clear hb hbox hg; obtain ⟨hcz2_0, hcz2_1, hcz2_2, hcz2_3, hcz2_4, hcz2_5, hfz2_0, hfz2_1, hfz2_2, hfz2_3, hfz2_4, hfz2_5⟩ := bk6 BK135.out))
 refine bodyPost_ret (results_cell_row rfl _ _ gb135 49 #[.int .i64 0, .int .i64 1, .int .i64 1, .int .i64 0, .int .i64 (-1), .int .i64 (-1)] (0, 0) _ rfl (by refine skk ?_; refine blk_put (cs := #[.int .i64 0, .int .i64 1, .int .i64 1, .int .i64 0, .int .i64 (-1), .int .i64 0]) ?_ 5 _ rfl; refine skk ?_; refine blk_put (cs := #[.int .i64 0, .int .i64 1, .int .i64 1, .int .i64 0, .int .i64 0, .int .i64 0]) ?_ 4 _ rfl; refine skk ?_; refine blk_put (cs := #[.int .i64 0, .int .i64 1, .int .i64 1, .int .i64 0, .int .i64 0, .int .i64 0]) ?_ 3 _ rfl; refine skk ?_; refine blk_put (cs := #[.int .i64 0, .int .i64 1, .int .i64 0, .int .i64 0, .int .i64 0, .int .i64 0]) ?_ 2 _ rfl; refine skk ?_; refine blk_put (cs := #[.int .i64 0, .int .i64 0, .int .i64 0, .int .i64 0, .int .i64 0, .int .i64 0]) ?_ 1 _ rfl; refine skk ?_; refine blk_put (cs := #[.int .i64 0, .int .i64 0, .int .i64 0, .int .i64 0, .int .i64 0, .int .i64 0]) ?_ 0 _ rfl; refine skk ?_; exact BK135.out) Try.underlying49 rfl (by kernel_rfl)) rfl ?_
 exact ⟨re, skG HB.out GE135.out GE135.out⟩
end Go.Proofs.Ytmmjkebboonnkaa.P
/- F8 -/
namespace Go.Proofs.Ytmmjkebboonnkaa.P
open Go.RowKit Go.Proofs.YtmmjkebboonnkaaW.PrintWords Go.Proofs.YtmmjkebboonnkaaW.PrintLast Go.Proofs.YtmmjkebboonnkaaW.PrintMore
attribute [local go_sem] max2_int min2_int max_two min_two max_three min_three max_four min_four   -- for this text's walks alone
set_option linter.unusedVariables false
set_option linter.unusedSimpArgs false
attribute [local go_sem high] eqA49
def table_crowned.f (l0 : List (S49)) (a1_0 : Int) (a1_1 : Int) (a1_2 : Int) (a1_3 : Int) (a1_4 : Int) (a1_5 : Int) : Option (Bool) := (table_isLeaf.f a1_0 a1_1 a1_2 a1_3 a1_4 a1_5).bind fun t137 => (if t137 = true then (some false) else (if a1_1 = 1 then (if a1_2 = 1 then (if 0 ≤ a1_5 then (if a1_5 < (l0.length : Int) then ((table_sentinel.f).bind fun bt139 => (some (((J49 l0 a1_5).f0) == bt139.1 && (((J49 l0 a1_5).f1) == bt139.2.1 && (((J49 l0 a1_5).f2) == bt139.2.2.1 && (((J49 l0 a1_5).f3) == bt139.2.2.2.1 && (((J49 l0 a1_5).f4) == bt139.2.2.2.2.1 && (((J49 l0 a1_5).f5) == bt139.2.2.2.2.2)))))))) else (none)) else (none)) else (some false)) else (some false)))
def table_crowned.T1 : Bool × List (List Nat × List Nat) := (true, [([], []), ([0], [0]), ([1], [1]), ([2, 1], [2]), ([3], [3]), ([4, 3], [3, 4]), ([5, 3], [3, 5]), ([3, 6], [3, 6]), ([7, 3], [7]), ([8], [8]), ([9, 8], [8, 9]), ([10, 8], [8, 10]), ([8, 11], [8, 11]), ([12, 8], [12]), ([13], [13]), ([13], [13]), ([15, 13], [13, 15]), ([14, 16, 13], [13, 14, 16]), ([17, 13], [13, 17]), ([13, 13], [13]), ([18, 19, 13], [13, 18, 19]), ([13, 20], [13, 20]), ([21, 19, 0, 1, 2, 3, 4, 5, 6, 7, 8, 9, 10, 11, 12, 13, 14, 15, 16, 17, 18, 19, 20, 21], [21])])
def table_crowned.B1 : List Nat := [0, 1, 3, 7, 15, 31, 63, 127, 255, 511, 1023, 2047, 4095, 8191, 16383, 16383, 49151, 131071, 262143, 16383, 1048575, 2097151, 4194303]
theorem table_crowned.tab1 : rtab .any (opsOf Try.f68 1) = table_crowned.T1 := by kernel_rfl
theorem table_crowned.bits1 : waitsOk table_crowned.T1.2 table_crowned.B1 = true := by kernel_rfl
set_option maxHeartbeats 8000000 in
set_option maxRecDepth 100000 in
theorem table_crowned.calls (A0 : Option Addr) (c0 : Nat) (l0 : List (S49)) (a1_0 : Int) (a1_1 : Int) (a1_2 : Int) (a1_3 : Int) (a1_4 : Int) (a1_5 : Int) (r : Bool) (w : World) (hr0 : Kd.C k49 w A0 l0.length l0) (hc0 : l0.length ≤ c0) (h : table_crowned.f l0 a1_0 a1_1 a1_2 a1_3 a1_4 a1_5 = some r) :
  Calls Try.prog 68 #[.slice A0 l0.length c0, .agg #[.int .i64 a1_0, .int .i64 a1_1, .int .i64 a1_2, .int .i64 a1_3, .int .i64 a1_4, .int .i64 a1_5]] w fun e w' => e = .returned (.bool r) ∧ Below w.heap.size w w' := by
 have hu49 := Try.underlying49
 have HR0 := asd hr0
 have HC0 := asd hc0
 clear hr0 hc0
 have HB := asd (Below.refl w.heap.size w)
 have H : ((table_isLeaf.f a1_0 a1_1 a1_2 a1_3 a1_4 a1_5).bind fun t137 => (if t137 = true then (some false) else (if a1_1 = 1 then (if a1_2 = 1 then (if 0 ≤ a1_5 then (if a1_5 < (l0.length : Int) then ((table_sentinel.f).bind fun bt139 => (some (((J49 l0 a1_5).f0) == bt139.1 && (((J49 l0 a1_5).f1) == bt139.2.1 && (((J49 l0 a1_5).f2) == bt139.2.2.1 && (((J49 l0 a1_5).f3) == bt139.2.2.2.1 && (((J49 l0 a1_5).f4) == bt139.2.2.2.2.1 && (((J49 l0 a1_5).f5) == bt139.2.2.2.2.2)))))))) else (none)) else (none)) else (some false)) else (some false)))) = some r := h
 clear h
 replace H := Option.bind_eq_some_iff.mp H
 obtain ⟨t137, A30, H⟩ := H
 replace H : (if t137 = true then (some false) else (if a1_1 = 1 then (if a1_2 = 1 then (if 0 ≤ a1_5 then (if a1_5 < (l0.length : Int) then ((table_sentinel.f).bind fun bt139 => (some (((J49 l0 a1_5).f0) == bt139.1 && (((J49 l0 a1_5).f1) == bt139.2.1 && (((J49 l0 a1_5).f2) == bt139.2.2.1 && (((J49 l0 a1_5).f3) == bt139.2.2.2.1 && (((J49 l0 a1_5).f4) == bt139.2.2.2.2.1 && (((J49 l0 a1_5).f5) == bt139.2.2.2.2.2)))))))) else (none)) else (none)) else (some false)) else (some false))) = some r := H
 have A3 := asd A30
 clear A30
 by_cases c4 : t137 = true
 ·
  subst c4
  have H1 : (some false) = some r := by rw [if_pos rfl] at H; exact H
  clear H
  have H := H1
  clear H1
  obtain rfl := Option.some.inj H
  go_enter Try.func68, Try.ntmps68
  try go_wp2_with (first | ((with_reducible refine gate_dst (N := 3) rfl ?_); refine box_event ?hg (N := 3) ?hd (cs := #[.int .i64 a1_0, .int .i64 a1_1, .int .i64 a1_2, .int .i64 a1_3, .int .i64 a1_4, .int .i64 a1_5]) (t := 49) ?hr ?_; (case hd => rfl); (case hg => rfl); (case hr => first | (go_simp; done) | (go_simp; rfl)); intro gb136 hg w5 hbox hb; have n0_ := asd (below_step (skB HB.out) hb); have n1_ := asd (hbox); have n2_ := asd ((by rw [hg]; exact (below_size (skB HB.out)) : w.heap.size ≤ gb136)); have n3_ := asd ((by rw [hg]; exact (below_size (skB HB.out)) : w.heap.size ≤ gb136)); clear HB; have HB := n0_; have BK136 := n1_; have GW136 := n2_; have GE136 := n3_; clear n0_ n1_ n2_ n3_; clear hb hbox hg))
  have n0_ := asd (blk_drew BK136.out)
  have n1_ := asd (below_drew1 HB.out)
  clear BK136
  clear HB
  have BK136 := n0_
  have HB := n1_
  clear n0_ n1_
  refine start_ (n := 23) (S := fun w' => w'.cell? ⟨gb136, 0, none⟩ = some (.int .i64 a1_0) ∧ w'.cell? ⟨gb136, 1, none⟩ = some (.int .i64 a1_1) ∧ w'.cell? ⟨gb136, 2, none⟩ = some (.int .i64 a1_2) ∧ w'.cell? ⟨gb136, 3, none⟩ = some (.int .i64 a1_3) ∧ w'.cell? ⟨gb136, 4, none⟩ = some (.int .i64 a1_4) ∧ w'.cell? ⟨gb136, 5, none⟩ = some (.int .i64 a1_5)) (ds := []) #[false,false,false,false,false,false,false,false,false,false,false,false,false,false,false,false,false,false,false,false,false,false,false] (by kernel_rfl) rfl rfl ⟨(blk_cell BK136.out 0).trans rfl, (blk_cell BK136.out 1).trans rfl, (blk_cell BK136.out 2).trans rfl, (blk_cell BK136.out 3).trans rfl, (blk_cell BK136.out 4).trans rfl, (blk_cell BK136.out 5).trans rfl⟩ (fun hHeld => ?_); refine with_tabW table_crowned.tab1 table_crowned.bits1 (fun HT_ HW_ => ?_)
  generalize w5.drew = w6 at BK136 HB hHeld ⊢
  refine take_ (i := 0) (N := some 5) (v := ?_) (a' := ?_) #[true,false,false,false,false,false,false,false,false,false,false,false,false,false,false,false,false,false,false,false,false,false,false] rfl rfl (take_ofW HT_.out HW_.out (by kernel_rfl)) (fun _ _ _ h => h) (Or.inl ⟨by rfl, ?_⟩) hHeld ?_ ?_
  rotate_left
  ·
   rintro w' ⟨s0, s1, s2, s3, s4, s5⟩
   go_simp
   with_reducible rfl
  rotate_left
  ·
   simp only [Act.put, sp]
   rfl
  refine one_ (i := 1) (N := some 6) #[true,true,false,false,false,false,false,false,false,false,false,false,false,false,false,false,false,false,false,false,false,false,false] rfl rfl (one_of HT_.out (by kernel_rfl)) (by decide) (fun K hK => ?_)
  refine goes_ Try.func66 (by kernel_rfl) rfl #[.agg #[.int .i64 a1_0, .int .i64 a1_1, .int .i64 a1_2, .int .i64 a1_3, .int .i64 a1_4, .int .i64 a1_5]] (by rfl) rfl rfl ags ?_
  with_reducible refine (table_isLeaf.calls a1_0 a1_1 a1_2 a1_3 a1_4 a1_5 true _ A3.out).mono ?_
  rintro e w7 ⟨rfl, hb⟩
  refine ⟨_, rfl, ?_⟩
  have n0_ := asd (blk_below (g := gb136) (o := .cells #[.int .i64 a1_0, .int .i64 a1_1, .int .i64 a1_2, .int .i64 a1_3, .int .i64 a1_4, .int .i64 a1_5] 49 (0, 0)) (skK BK136.out) hb)
  have n1_ := asd (below_step (skG HB.out GE136.out GE136.out) hb)
  clear BK136
  clear HB
  have BK136 := n0_
  have HB := n1_
  clear n0_ n1_
  (try clear hb)
  (try clear hb2)
  (try clear hk)
  (try clear hi)
  refine hK.out _ _ ⟨(blk_cell BK136.out 0).trans rfl, (blk_cell BK136.out 1).trans rfl, (blk_cell BK136.out 2).trans rfl, (blk_cell BK136.out 3).trans rfl, (blk_cell BK136.out 4).trans rfl, (blk_cell BK136.out 5).trans rfl⟩ (fun hHeld => ?_)
  clear hK K
  refine norm_ (a' := ?_) ?_ ?_
  rotate_left
  ·
   show Act.put _ (some 6) _ = _
   simp only [Act.put, sp]
   rfl
  refine pure_ (i := 2) (N := some 7) (v := ?_) (a' := ?_) #[true,true,true,false,false,false,false,false,false,false,false,false,false,false,false,false,false,false,false,false,false,false,false] rfl rfl (aK HT_.out) (fun _ _ _ h => h) (Or.inl ⟨by rfl, ?_⟩) ?_ ?_
  rotate_left
  ·
   intro w'
   go_simp
   with_reducible rfl
  rotate_left
  ·
   simp only [Act.put, sp]
   rfl
  refine pure_ (i := 3) (N := some 8) (v := ?_) (a' := ?_) #[true,true,true,true,false,false,false,false,false,false,false,false,false,false,false,false,false,false,false,false,false,false,false] rfl rfl (aK HT_.out) (fun _ _ _ h => h) (Or.inl ⟨by rfl, ?_⟩) ?_ ?_
  rotate_left
  ·
   intro w'
   go_simp
   with_reducible rfl
  rotate_left
  ·
   simp only [Act.put, sp]
   rfl
  refine pure_ (i := 4) (N := some 9) (v := undef) (a' := ?_) #[true,true,true,true,true,false,false,false,false,false,false,false,false,false,false,false,false,false,false,false,false,false,false] rfl rfl (aK HT_.out) (fun _ _ _ h => h) (Or.inr ⟨by rfl, rfl⟩) ?_ ?_
  rotate_left
  ·
   simp only [Act.put, sp]
   rfl
  refine pure_ (i := 5) (N := some 10) (v := undef) (a' := ?_) #[true,true,true,true,true,true,false,false,false,false,false,false,false,false,false,false,false,false,false,false,false,false,false] rfl rfl (aK HT_.out) (fun _ _ _ h => h) (Or.inr ⟨by rfl, rfl⟩) ?_ ?_
  rotate_left
  ·
   simp only [Act.put, sp]
   rfl
  refine pure_ (i := 6) (N := some 11) (v := undef) (a' := ?_) #[true,true,true,true,true,true,true,false,false,false,false,false,false,false,false,false,false,false,false,false,false,false,false] rfl rfl (aK HT_.out) (fun _ _ _ h => h) (Or.inr ⟨by rfl, rfl⟩) ?_ ?_
  rotate_left
  ·
   simp only [Act.put, sp]
   rfl
  refine pure_ (i := 7) (N := some 12) (v := ?_) (a' := ?_) #[true,true,true,true,true,true,true,true,false,false,false,false,false,false,false,false,false,false,false,false,false,false,false] rfl rfl (aK HT_.out) (fun _ _ _ h => h) (Or.inl ⟨by rfl, ?_⟩) ?_ ?_
  rotate_left
  ·
   intro w'
   go_simp
   with_reducible rfl
  rotate_left
  ·
   simp only [Act.put, sp]
   rfl
  refine pure_ (i := 8) (N := some 13) (v := ?_) (a' := ?_) #[true,true,true,true,true,true,true,true,true,false,false,false,false,false,false,false,false,false,false,false,false,false,false] rfl rfl (aK HT_.out) (fun _ _ _ h => h) (Or.inl ⟨by rfl, ?_⟩) ?_ ?_
  rotate_left
  ·
   intro w'
   go_simp
   with_reducible rfl
  rotate_left
  ·
   simp only [Act.put, sp]
   rfl
  refine pure_ (i := 9) (N := some 14) (v := undef) (a' := ?_) #[true,true,true,true,true,true,true,true,true,true,false,false,false,false,false,false,false,false,false,false,false,false,false] rfl rfl (aK HT_.out) (fun _ _ _ h => h) (Or.inr ⟨by rfl, rfl⟩) ?_ ?_
  rotate_left
  ·
   simp only [Act.put, sp]
   rfl
  refine pure_ (i := 10) (N := some 15) (v := undef) (a' := ?_) #[true,true,true,true,true,true,true,true,true,true,true,false,false,false,false,false,false,false,false,false,false,false,false] rfl rfl (aK HT_.out) (fun _ _ _ h => h) (Or.inr ⟨by rfl, rfl⟩) ?_ ?_
  rotate_left
  ·
   simp only [Act.put, sp]
   rfl
  refine pure_ (i := 11) (N := some 16) (v := undef) (a' := ?_) #[true,true,true,true,true,true,true,true,true,true,true,true,false,false,false,false,false,false,false,false,false,false,false] rfl rfl (aK HT_.out) (fun _ _ _ h => h) (Or.inr ⟨by rfl, rfl⟩) ?_ ?_
  rotate_left
  ·
   simp only [Act.put, sp]
   rfl
  refine pure_ (i := 12) (N := some 17) (v := ?_) (a' := ?_) #[true,true,true,true,true,true,true,true,true,true,true,true,true,false,false,false,false,false,false,false,false,false,false] rfl rfl (aK HT_.out) (fun _ _ _ h => h) (Or.inl ⟨by rfl, ?_⟩) ?_ ?_
  rotate_left
  ·
   intro w'
   go_simp
   with_reducible rfl
  rotate_left
  ·
   simp only [Act.put, sp]
   rfl
  refine pure_ (i := 13) (N := some 18) (v := ?_) (a' := ?_) #[true,true,true,true,true,true,true,true,true,true,true,true,true,true,false,false,false,false,false,false,false,false,false] rfl rfl (aK HT_.out) (fun _ _ _ h => h) (Or.inl ⟨by rfl, ?_⟩) ?_ ?_
  rotate_left
  ·
   intro w'
   go_simp
   with_reducible rfl
  rotate_left
  ·
   simp only [Act.put, sp]
   rfl
  refine pure_ (i := 14) (N := some 19) (v := undef) (a' := ?_) #[true,true,true,true,true,true,true,true,true,true,true,true,true,true,true,false,false,false,false,false,false,false,false] rfl rfl (aK HT_.out) (fun _ _ _ h => h) (Or.inr ⟨by rfl, rfl⟩) ?_ ?_
  rotate_left
  ·
   simp only [Act.put, sp]
   rfl
  refine pure_ (i := 15) (N := some 20) (v := undef) (a' := ?_) #[true,true,true,true,true,true,true,true,true,true,true,true,true,true,true,true,false,false,false,false,false,false,false] rfl rfl (aK HT_.out) (fun _ _ _ h => h) (Or.inr ⟨by rfl, rfl⟩) ?_ ?_
  rotate_left
  ·
   simp only [Act.put, sp]
   rfl
  refine pure_ (i := 16) (N := some 21) (v := undef) (a' := ?_) #[true,true,true,true,true,true,true,true,true,true,true,true,true,true,true,true,true,false,false,false,false,false,false] rfl rfl (aK HT_.out) (fun _ _ _ h => h) (Or.inr ⟨by rfl, rfl⟩) ?_ ?_
  rotate_left
  ·
   simp only [Act.put, sp]
   rfl
  refine pure_ (i := 17) (N := some 22) (v := undef) (a' := ?_) #[true,true,true,true,true,true,true,true,true,true,true,true,true,true,true,true,true,true,false,false,false,false,false] rfl rfl (aK HT_.out) (fun _ _ _ h => h) (Or.inr ⟨by rfl, rfl⟩) ?_ ?_
  rotate_left
  ·
   simp only [Act.put, sp]
   rfl
  refine pure_ (i := 18) (N := some 23) (v := undef) (a' := ?_) #[true,true,true,true,true,true,true,true,true,true,true,true,true,true,true,true,true,true,true,false,false,false,false] rfl rfl (aK HT_.out) (fun _ _ _ h => h) (Or.inr ⟨by rfl, rfl⟩) ?_ ?_
  rotate_left
  ·
   simp only [Act.put, sp]
   rfl
  refine pure_ (i := 19) (N := some 24) (v := undef) (a' := ?_) #[true,true,true,true,true,true,true,true,true,true,true,true,true,true,true,true,true,true,true,true,false,false,false] rfl rfl (aK HT_.out) (fun _ _ _ h => h) (Or.inr ⟨by rfl, rfl⟩) ?_ ?_
  rotate_left
  ·
   simp only [Act.put, sp]
   rfl
  refine pure_ (i := 20) (N := some 25) (v := undef) (a' := ?_) #[true,true,true,true,true,true,true,true,true,true,true,true,true,true,true,true,true,true,true,true,true,false,false] rfl rfl (aK HT_.out) (fun _ _ _ h => h) (Or.inr ⟨by rfl, rfl⟩) ?_ ?_
  rotate_left
  ·
   simp only [Act.put, sp]
   rfl
  refine pure_ (i := 21) (N := some 26) (v := ?_) (a' := ?_) #[true,true,true,true,true,true,true,true,true,true,true,true,true,true,true,true,true,true,true,true,true,true,false] rfl rfl (aK HT_.out) (fun _ _ _ h => h) (Or.inl ⟨by rfl, ?_⟩) ?_ ?_
  rotate_left
  ·
   intro w'
   go_simp
   with_reducible rfl
  rotate_left
  ·
   simp only [Act.put, sp]
   rfl
  refine pure_ (i := 22) (N := some 4) (v := ?_) (a' := ?_) #[true,true,true,true,true,true,true,true,true,true,true,true,true,true,true,true,true,true,true,true,true,true,true] rfl rfl (aK HT_.out) (fun _ _ _ h => h) (Or.inl ⟨by rfl, ?_⟩) ?_ ?_
  rotate_left
  ·
   intro w'
   go_simp
   with_reducible rfl
  rotate_left
  ·
   simp only [Act.put, sp]
   rfl
  refine done_ (done_of HT_.out (by kernel_rfl)) ?_
  try go_wp2
  go_ret
  exact ⟨re, skG HB.out GE136.out GE136.out⟩
 ·
  replace c4 := Bool.eq_false_iff.mpr c4
  subst c4
  have H1 : (if a1_1 = 1 then (if a1_2 = 1 then (if 0 ≤ a1_5 then (if a1_5 < (l0.length : Int) then ((table_sentinel.f).bind fun bt139 => (some (((J49 l0 a1_5).f0) == bt139.1 && (((J49 l0 a1_5).f1) == bt139.2.1 && (((J49 l0 a1_5).f2) == bt139.2.2.1 && (((J49 l0 a1_5).f3) == bt139.2.2.2.1 && (((J49 l0 a1_5).f4) == bt139.2.2.2.2.1 && (((J49 l0 a1_5).f5) == bt139.2.2.2.2.2)))))))) else (none)) else (none)) else (some false)) else (some false)) = some r := by rw [if_neg (show ¬ (false = true) by decide)] at H; exact H
  clear H
  have H := H1
  clear H1
  by_cases c8 : a1_1 = 1
  ·
   rw [if_pos c8] at H
   have c8b0 : (a1_1 == 1) = true := beq_iff_eq.mpr c8
   have c8b1 : (a1_1 != 1) = false := bne_eq_false_iff_eq.mpr c8
   clear c8
   by_cases c9 : a1_2 = 1
   ·
    rw [if_pos c9] at H
    have c9b0 : (a1_2 == 1) = true := beq_iff_eq.mpr c9
    have c9b1 : (a1_2 != 1) = false := bne_eq_false_iff_eq.mpr c9
    clear c9
    by_cases c10 : 0 ≤ a1_5
    ·
     rw [if_pos c10] at H
     have c10b0 : decide (0 ≤ a1_5) = true := decide_eq_true c10
     clear c10
     by_cases c11 : a1_5 < (l0.length : Int)
     ·
      rw [if_pos c11] at H
      have c11b0 : decide (a1_5 < (l0.length : Int)) = true := decide_eq_true c11
      clear c11
      replace H := Option.bind_eq_some_iff.mp H
      obtain ⟨⟨t139, t140, t141, t142, t143, t144⟩, A120, H⟩ := H
      replace H : (some (((J49 l0 a1_5).f0) == t139 && (((J49 l0 a1_5).f1) == t140 && (((J49 l0 a1_5).f2) == t141 && (((J49 l0 a1_5).f3) == t142 && (((J49 l0 a1_5).f4) == t143 && (((J49 l0 a1_5).f5) == t144))))))) = some r := H
      have A12 := asd A120
      clear A120
      obtain rfl := Option.some.inj H
      go_enter Try.func68, Try.ntmps68
      try go_wp2_with (first | ((with_reducible refine gate_dst (N := 3) rfl ?_); refine box_event ?hg (N := 3) ?hd (cs := #[.int .i64 a1_0, .int .i64 a1_1, .int .i64 a1_2, .int .i64 a1_3, .int .i64 a1_4, .int .i64 a1_5]) (t := 49) ?hr ?_; (case hd => rfl); (case hg => rfl); (case hr => first | (go_simp; done) | (go_simp; rfl)); intro gb136 hg w13 hbox hb; have n0_ := asd (below_step (skB HB.out) hb); have n1_ := asd (hbox); have n2_ := asd ((by rw [hg]; exact (below_size (skB HB.out)) : w.heap.size ≤ gb136)); have n3_ := asd ((by rw [hg]; exact (below_size (skB HB.out)) : w.heap.size ≤ gb136)); clear HB; have HB := n0_; have BK136 := n1_; have GW136 := n2_; have GE136 := n3_; clear n0_ n1_ n2_ n3_; clear hb hbox hg))
      have n0_ := asd (blk_drew BK136.out)
      have n1_ := asd (below_drew1 HB.out)
      clear BK136
      clear HB
      have BK136 := n0_
      have HB := n1_
      clear n0_ n1_
      have p138 : 0 ≤ (a1_5 : Int) := dt
      have q138 : a1_5 < (l0.length : Int) := dt
      obtain ⟨ad138, e138, hx138_0, hx138_1, hx138_2, hx138_3, hx138_4, hx138_5⟩ := at_T49 HR0.out a1_5 p138 q138
      have hw138_5 := hx138_5
      have hw138_4 := hx138_4
      have hw138_3 := hx138_3
      have hw138_2 := hx138_2
      have hw138_1 := hx138_1
      have hw138_0 := hx138_0
      cases e138
      replace hx138_0 := skc HB.out hx138_0
      replace hx138_1 := skc HB.out hx138_1
      replace hx138_2 := skc HB.out hx138_2
      replace hx138_3 := skc HB.out hx138_3
      replace hx138_4 := skc HB.out hx138_4
      replace hx138_5 := skc HB.out hx138_5
      replace p138 := eq_true p138
      replace q138 := eq_true q138
      refine start_ (n := 23) (S := fun w' => w'.cell? ⟨gb136, 0, none⟩ = some (.int .i64 a1_0) ∧ w'.cell? ⟨gb136, 1, none⟩ = some (.int .i64 a1_1) ∧ w'.cell? ⟨gb136, 2, none⟩ = some (.int .i64 a1_2) ∧ w'.cell? ⟨gb136, 3, none⟩ = some (.int .i64 a1_3) ∧ w'.cell? ⟨gb136, 4, none⟩ = some (.int .i64 a1_4) ∧ w'.cell? ⟨gb136, 5, none⟩ = some (.int .i64 a1_5) ∧ w'.cell? (ad138.add ((a1_5).toNat * 6)) = some (.int .i64 ((J49 l0 a1_5).f0)) ∧ w'.cell? ⟨(ad138.add ((a1_5).toNat * 6)).block, (ad138.add ((a1_5).toNat * 6)).off + 1, none⟩ = some (.int .i64 ((J49 l0 a1_5).f1)) ∧ w'.cell? ⟨(ad138.add ((a1_5).toNat * 6)).block, (ad138.add ((a1_5).toNat * 6)).off + 2, none⟩ = some (.int .i64 ((J49 l0 a1_5).f2)) ∧ w'.cell? ⟨(ad138.add ((a1_5).toNat * 6)).block, (ad138.add ((a1_5).toNat * 6)).off + 3, none⟩ = some (.int .i64 ((J49 l0 a1_5).f3)) ∧ w'.cell? ⟨(ad138.add ((a1_5).toNat * 6)).block, (ad138.add ((a1_5).toNat * 6)).off + 4, none⟩ = some (.int .i64 ((J49 l0 a1_5).f4)) ∧ w'.cell? ⟨(ad138.add ((a1_5).toNat * 6)).block, (ad138.add ((a1_5).toNat * 6)).off + 5, none⟩ = some (.int .i64 ((J49 l0 a1_5).f5))) (ds := []) #[false,false,false,false,false,false,false,false,false,false,false,false,false,false,false,false,false,false,false,false,false,false,false] (by kernel_rfl) rfl rfl ⟨(blk_cell BK136.out 0).trans rfl, (blk_cell BK136.out 1).trans rfl, (blk_cell BK136.out 2).trans rfl, (blk_cell BK136.out 3).trans rfl, (blk_cell BK136.out 4).trans rfl, (blk_cell BK136.out 5).trans rfl, (skc HB.out hw138_0), (skc HB.out hw138_1), (skc HB.out hw138_2), (skc HB.out hw138_3), (skc HB.out hw138_4), (skc HB.out hw138_5)⟩ (fun hHeld => ?_); refine with_tabW table_crowned.tab1 table_crowned.bits1 (fun HT_ HW_ => ?_)
      generalize w13.drew = w14 at BK136 HB hx138_0 hx138_1 hx138_2 hx138_3 hx138_4 hx138_5 hHeld ⊢
      refine take_ (i := 0) (N := some 5) (v := ?_) (a' := ?_) #[true,false,false,false,false,false,false,false,false,false,false,false,false,false,false,false,false,false,false,false,false,false,false] rfl rfl (take_ofW HT_.out HW_.out (by kernel_rfl)) (fun _ _ _ h => h) (Or.inl ⟨by rfl, ?_⟩) hHeld ?_ ?_
      rotate_left
      ·
       rintro w' ⟨s0, s1, s2, s3, s4, s5, s6, s7, s8, s9, s10, s11⟩
       go_simp
       with_reducible rfl
      rotate_left
      ·
       simp only [Act.put, sp]
       rfl
      refine one_ (i := 1) (N := some 6) #[true,true,false,false,false,false,false,false,false,false,false,false,false,false,false,false,false,false,false,false,false,false,false] rfl rfl (one_of HT_.out (by kernel_rfl)) (by decide) (fun K hK => ?_)
      refine goes_ Try.func66 (by kernel_rfl) rfl #[.agg #[.int .i64 a1_0, .int .i64 a1_1, .int .i64 a1_2, .int .i64 a1_3, .int .i64 a1_4, .int .i64 a1_5]] (by rfl) rfl rfl ags ?_
      with_reducible refine (table_isLeaf.calls a1_0 a1_1 a1_2 a1_3 a1_4 a1_5 false _ A3.out).mono ?_
      rintro e w15 ⟨rfl, hb⟩
      refine ⟨_, rfl, ?_⟩
      have n0_ := asd (blk_below (g := gb136) (o := .cells #[.int .i64 a1_0, .int .i64 a1_1, .int .i64 a1_2, .int .i64 a1_3, .int .i64 a1_4, .int .i64 a1_5] 49 (0, 0)) (skK BK136.out) hb)
      have n1_ := asd (below_step (skG HB.out GE136.out GE136.out) hb)
      clear BK136
      clear HB
      have BK136 := n0_
      have HB := n1_
      clear n0_ n1_
      (try clear hb)
      (try clear hb2)
      (try clear hk)
      (try clear hi)
      refine hK.out _ _ ⟨(blk_cell BK136.out 0).trans rfl, (blk_cell BK136.out 1).trans rfl, (blk_cell BK136.out 2).trans rfl, (blk_cell BK136.out 3).trans rfl, (blk_cell BK136.out 4).trans rfl, (blk_cell BK136.out 5).trans rfl, (skc HB.out hw138_0), (skc HB.out hw138_1), (skc HB.out hw138_2), (skc HB.out hw138_3), (skc HB.out hw138_4), (skc HB.out hw138_5)⟩ (fun hHeld => ?_)
      clear hK K
      refine norm_ (a' := ?_) ?_ ?_
      rotate_left
      ·
       show Act.put _ (some 6) _ = _
       simp only [Act.put, sp]
       rfl
      refine pure_ (i := 2) (N := some 7) (v := ?_) (a' := ?_) #[true,true,true,false,false,false,false,false,false,false,false,false,false,false,false,false,false,false,false,false,false,false,false] rfl rfl (aK HT_.out) (fun _ _ _ h => h) (Or.inl ⟨by rfl, ?_⟩) ?_ ?_
      rotate_left
      ·
       intro w'
       go_simp
       with_reducible rfl
      rotate_left
      ·
       simp only [Act.put, sp]
       rfl
      refine pure_ (i := 3) (N := some 8) (v := ?_) (a' := ?_) #[true,true,true,true,false,false,false,false,false,false,false,false,false,false,false,false,false,false,false,false,false,false,false] rfl rfl (aK HT_.out) (fun _ _ _ h => h) (Or.inl ⟨by rfl, ?_⟩) ?_ ?_
      rotate_left
      ·
       intro w'
       go_simp
       with_reducible rfl
      rotate_left
      ·
       simp only [Act.put, sp]
       rfl
      refine pure_ (i := 4) (N := some 9) (v := ?_) (a' := ?_) #[true,true,true,true,true,false,false,false,false,false,false,false,false,false,false,false,false,false,false,false,false,false,false] rfl rfl (aK HT_.out) (fun _ _ _ h => h) (Or.inl ⟨by rfl, ?_⟩) ?_ ?_
      rotate_left
      ·
       intro w'
       go_simp
       with_reducible rfl
      rotate_left
      ·
       simp only [Act.put, sp]
       rfl
      refine take_ (i := 5) (N := some 10) (v := ?_) (a' := ?_) #[true,true,true,true,true,true,false,false,false,false,false,false,false,false,false,false,false,false,false,false,false,false,false] rfl rfl (take_ofW HT_.out HW_.out (by kernel_rfl)) (fun _ _ _ h => h) (Or.inl ⟨by rfl, ?_⟩) hHeld ?_ ?_
      rotate_left
      ·
       rintro w' ⟨s0, s1, s2, s3, s4, s5, s6, s7, s8, s9, s10, s11⟩
       go_simp
       with_reducible rfl
      rotate_left
      ·
       simp only [Act.put, sp]
       rfl
      refine pure_ (i := 6) (N := some 11) (v := ?_) (a' := ?_) #[true,true,true,true,true,true,true,false,false,false,false,false,false,false,false,false,false,false,false,false,false,false,false] rfl rfl (aK HT_.out) (fun _ _ _ h => h) (Or.inl ⟨by rfl, ?_⟩) ?_ ?_
      rotate_left
      ·
       intro w'
       go_simp
       with_reducible rfl
      rotate_left
      ·
       simp only [Act.put, sp]
       rfl
      refine pure_ (i := 7) (N := some 12) (v := ?_) (a' := ?_) #[true,true,true,true,true,true,true,true,false,false,false,false,false,false,false,false,false,false,false,false,false,false,false] rfl rfl (aK HT_.out) (fun _ _ _ h => h) (Or.inl ⟨by rfl, ?_⟩) ?_ ?_
      rotate_left
      ·
       intro w'
       go_simp
       with_reducible rfl
      rotate_left
      ·
       simp only [Act.put, sp]
       rfl
      refine pure_ (i := 8) (N := some 13) (v := ?_) (a' := ?_) #[true,true,true,true,true,true,true,true,true,false,false,false,false,false,false,false,false,false,false,false,false,false,false] rfl rfl (aK HT_.out) (fun _ _ _ h => h) (Or.inl ⟨by rfl, ?_⟩) ?_ ?_
      rotate_left
      ·
       intro w'
       go_simp
       with_reducible rfl
      rotate_left
      ·
       simp only [Act.put, sp]
       rfl
      refine pure_ (i := 9) (N := some 14) (v := ?_) (a' := ?_) #[true,true,true,true,true,true,true,true,true,true,false,false,false,false,false,false,false,false,false,false,false,false,false] rfl rfl (aK HT_.out) (fun _ _ _ h => h) (Or.inl ⟨by rfl, ?_⟩) ?_ ?_
      rotate_left
      ·
       intro w'
       go_simp
       with_reducible rfl
      rotate_left
      ·
       simp only [Act.put, sp]
       rfl
      refine take_ (i := 10) (N := some 15) (v := ?_) (a' := ?_) #[true,true,true,true,true,true,true,true,true,true,true,false,false,false,false,false,false,false,false,false,false,false,false] rfl rfl (take_ofW HT_.out HW_.out (by kernel_rfl)) (fun _ _ _ h => h) (Or.inl ⟨by rfl, ?_⟩) hHeld ?_ ?_
      rotate_left
      ·
       rintro w' ⟨s0, s1, s2, s3, s4, s5, s6, s7, s8, s9, s10, s11⟩
       go_simp
       with_reducible rfl
      rotate_left
      ·
       simp only [Act.put, sp]
       rfl
      refine pure_ (i := 11) (N := some 16) (v := ?_) (a' := ?_) #[true,true,true,true,true,true,true,true,true,true,true,true,false,false,false,false,false,false,false,false,false,false,false] rfl rfl (aK HT_.out) (fun _ _ _ h => h) (Or.inl ⟨by rfl, ?_⟩) ?_ ?_
      rotate_left
      ·
       intro w'
       go_simp
       with_reducible rfl
      rotate_left
      ·
       simp only [Act.put, sp]
       rfl
      refine pure_ (i := 12) (N := some 17) (v := ?_) (a' := ?_) #[true,true,true,true,true,true,true,true,true,true,true,true,true,false,false,false,false,false,false,false,false,false,false] rfl rfl (aK HT_.out) (fun _ _ _ h => h) (Or.inl ⟨by rfl, ?_⟩) ?_ ?_
      rotate_left
      ·
       intro w'
       go_simp
       with_reducible rfl
      rotate_left
      ·
       simp only [Act.put, sp]
       rfl
      refine pure_ (i := 13) (N := some 18) (v := ?_) (a' := ?_) #[true,true,true,true,true,true,true,true,true,true,true,true,true,true,false,false,false,false,false,false,false,false,false] rfl rfl (aK HT_.out) (fun _ _ _ h => h) (Or.inl ⟨by rfl, ?_⟩) ?_ ?_
      rotate_left
      ·
       intro w'
       go_simp
       with_reducible rfl
      rotate_left
      ·
       simp only [Act.put, sp]
       rfl
      refine pure_ (i := 14) (N := some 19) (v := ?_) (a' := ?_) #[true,true,true,true,true,true,true,true,true,true,true,true,true,true,true,false,false,false,false,false,false,false,false] rfl rfl (aK HT_.out) (fun _ _ _ h => h) (Or.inl ⟨by rfl, ?_⟩) ?_ ?_
      rotate_left
      ·
       intro w'
       go_simp
       with_reducible rfl
      rotate_left
      ·
       simp only [Act.put, sp]
       rfl
      refine pure_ (i := 15) (N := some 20) (v := ?_) (a' := ?_) #[true,true,true,true,true,true,true,true,true,true,true,true,true,true,true,true,false,false,false,false,false,false,false] rfl rfl (aK HT_.out) (fun _ _ _ h => h) (Or.inl ⟨by rfl, ?_⟩) ?_ ?_
      rotate_left
      ·
       intro w'
       go_simp
       with_reducible rfl
      rotate_left
      ·
       simp only [Act.put, sp]
       rfl
      refine take_ (i := 16) (N := some 21) (v := ?_) (a' := ?_) #[true,true,true,true,true,true,true,true,true,true,true,true,true,true,true,true,true,false,false,false,false,false,false] rfl rfl (take_ofW HT_.out HW_.out (by kernel_rfl)) (fun _ _ _ h => h) (Or.inl ⟨by rfl, ?_⟩) hHeld ?_ ?_
      rotate_left
      ·
       rintro w' ⟨s0, s1, s2, s3, s4, s5, s6, s7, s8, s9, s10, s11⟩
       go_simp
       with_reducible rfl
      rotate_left
      ·
       simp only [Act.put, sp]
       rfl
      refine pure_ (i := 17) (N := some 22) (v := ?_) (a' := ?_) #[true,true,true,true,true,true,true,true,true,true,true,true,true,true,true,true,true,true,false,false,false,false,false] rfl rfl (aK HT_.out) (fun _ _ _ h => h) (Or.inl ⟨by rfl, ?_⟩) ?_ ?_
      rotate_left
      ·
       intro w'
       go_simp
       with_reducible rfl
      rotate_left
      ·
       simp only [Act.put, sp]
       rfl
      refine take_ (i := 18) (N := some 23) (v := ?_) (a' := ?_) #[true,true,true,true,true,true,true,true,true,true,true,true,true,true,true,true,true,true,true,false,false,false,false] rfl rfl (take_ofW HT_.out HW_.out (by kernel_rfl)) (fun _ _ _ h => h) (Or.inl ⟨by rfl, ?_⟩) hHeld ?_ ?_
      rotate_left
      ·
       rintro w' ⟨s0, s1, s2, s3, s4, s5, s6, s7, s8, s9, s10, s11⟩
       go_simp
       with_reducible rfl
      rotate_left
      ·
       simp only [Act.put, sp]
       rfl
      refine one_ (i := 19) (N := some 24) #[true,true,true,true,true,true,true,true,true,true,true,true,true,true,true,true,true,true,true,true,false,false,false] rfl rfl (one_of HT_.out (by kernel_rfl)) (by decide) (fun K hK => ?_)
      refine goes_ Try.func69 (by kernel_rfl) rfl #[] (by rfl) rfl rfl ags ?_
      with_reducible refine (table_sentinel.calls  t139 t140 t141 t142 t143 t144 _ A12.out).mono ?_
      rintro e w16 ⟨rfl, hb⟩
      refine ⟨_, rfl, ?_⟩
      have n0_ := asd (blk_below (g := gb136) (o := .cells #[.int .i64 a1_0, .int .i64 a1_1, .int .i64 a1_2, .int .i64 a1_3, .int .i64 a1_4, .int .i64 a1_5] 49 (0, 0)) (skK BK136.out) hb)
      have n1_ := asd (below_step (skG HB.out GE136.out GE136.out) hb)
      clear BK136
      clear HB
      have BK136 := n0_
      have HB := n1_
      clear n0_ n1_
      (try clear hb)
      (try clear hb2)
      (try clear hk)
      (try clear hi)
      refine hK.out _ _ ⟨(blk_cell BK136.out 0).trans rfl, (blk_cell BK136.out 1).trans rfl, (blk_cell BK136.out 2).trans rfl, (blk_cell BK136.out 3).trans rfl, (blk_cell BK136.out 4).trans rfl, (blk_cell BK136.out 5).trans rfl, (skc HB.out hw138_0), (skc HB.out hw138_1), (skc HB.out hw138_2), (skc HB.out hw138_3), (skc HB.out hw138_4), (skc HB.out hw138_5)⟩ (fun hHeld => ?_)
      clear hK K
      refine norm_ (a' := ?_) ?_ ?_
      rotate_left
      ·
       show Act.put _ (some 24) _ = _
       simp only [Act.put, sp]
       rfl
      refine pure_ (i := 20) (N := some 25) (v := ?_) (a' := ?_) #[true,true,true,true,true,true,true,true,true,true,true,true,true,true,true,true,true,true,true,true,true,false,false] rfl rfl (aK HT_.out) (fun _ _ _ h => h) (Or.inl ⟨by rfl, ?_⟩) ?_ ?_
      rotate_left
      ·
       intro w'
       go_simp
       with_reducible rfl
      rotate_left
      ·
       simp only [Act.put, sp]
       rfl
      refine pure_ (i := 21) (N := some 26) (v := ?_) (a' := ?_) #[true,true,true,true,true,true,true,true,true,true,true,true,true,true,true,true,true,true,true,true,true,true,false] rfl rfl (aK HT_.out) (fun _ _ _ h => h) (Or.inl ⟨by rfl, ?_⟩) ?_ ?_
      rotate_left
      ·
       intro w'
       go_simp
       with_reducible rfl
      rotate_left
      ·
       simp only [Act.put, sp]
       rfl
      refine pure_ (i := 22) (N := some 4) (v := ?_) (a' := ?_) #[true,true,true,true,true,true,true,true,true,true,true,true,true,true,true,true,true,true,true,true,true,true,true] rfl rfl (aK HT_.out) (fun _ _ _ h => h) (Or.inl ⟨by rfl, ?_⟩) ?_ ?_
      rotate_left
      ·
       intro w'
       go_simp
       with_reducible rfl
      rotate_left
      ·
       simp only [Act.put, sp]
       rfl
      refine done_ (done_of HT_.out (by kernel_rfl)) ?_
      try go_wp2
      go_ret
      exact ⟨re, skG HB.out GE136.out GE136.out⟩
     ·
      rw [if_neg c11] at H
      exact absurd H (by simp)
    ·
     rw [if_neg c10] at H
     exact absurd H (by simp)
   ·
    rw [if_neg c9] at H
    have c9b0 : (a1_2 == 1) = false := beq_eq_false_iff_ne.mpr c9
    have c9b1 : (a1_2 != 1) = true := bne_iff_ne.mpr c9
    obtain rfl := Option.some.inj H
    go_enter Try.func68, Try.ntmps68
    try go_wp2_with (first | ((with_reducible refine gate_dst (N := 3) rfl ?_); refine box_event ?hg (N := 3) ?hd (cs := #[.int .i64 a1_0, .int .i64 a1_1, .int .i64 a1_2, .int .i64 a1_3, .int .i64 a1_4, .int .i64 a1_5]) (t := 49) ?hr ?_; (case hd => rfl); (case hg => rfl); (case hr => first | (go_simp; done) | (go_simp; rfl)); intro gb136 hg w17 hbox hb; have n0_ := asd (below_step (skB HB.out) hb); have n1_ := asd (hbox); have n2_ := asd ((by rw [hg]; exact (below_size (skB HB.out)) : w.heap.size ≤ gb136)); have n3_ := asd ((by rw [hg]; exact (below_size (skB HB.out)) : w.heap.size ≤ gb136)); clear HB; have HB := n0_; have BK136 := n1_; have GW136 := n2_; have GE136 := n3_; clear n0_ n1_ n2_ n3_; clear hb hbox hg))
    have n0_ := asd (blk_drew BK136.out)
    have n1_ := asd (below_drew1 HB.out)
    clear BK136
    clear HB
    have BK136 := n0_
    have HB := n1_
    clear n0_ n1_
    refine start_ (n := 23) (S := fun w' => w'.cell? ⟨gb136, 0, none⟩ = some (.int .i64 a1_0) ∧ w'.cell? ⟨gb136, 1, none⟩ = some (.int .i64 a1_1) ∧ w'.cell? ⟨gb136, 2, none⟩ = some (.int .i64 a1_2) ∧ w'.cell? ⟨gb136, 3, none⟩ = some (.int .i64 a1_3) ∧ w'.cell? ⟨gb136, 4, none⟩ = some (.int .i64 a1_4) ∧ w'.cell? ⟨gb136, 5, none⟩ = some (.int .i64 a1_5)) (ds := []) #[false,false,false,false,false,false,false,false,false,false,false,false,false,false,false,false,false,false,false,false,false,false,false] (by kernel_rfl) rfl rfl ⟨(blk_cell BK136.out 0).trans rfl, (blk_cell BK136.out 1).trans rfl, (blk_cell BK136.out 2).trans rfl, (blk_cell BK136.out 3).trans rfl, (blk_cell BK136.out 4).trans rfl, (blk_cell BK136.out 5).trans rfl⟩ (fun hHeld => ?_); refine with_tabW table_crowned.tab1 table_crowned.bits1 (fun HT_ HW_ => ?_)
    generalize w17.drew = w18 at BK136 HB hHeld ⊢
    refine take_ (i := 0) (N := some 5) (v := ?_) (a' := ?_) #[true,false,false,false,false,false,false,false,false,false,false,false,false,false,false,false,false,false,false,false,false,false,false] rfl rfl (take_ofW HT_.out HW_.out (by kernel_rfl)) (fun _ _ _ h => h) (Or.inl ⟨by rfl, ?_⟩) hHeld ?_ ?_
    rotate_left
    ·
     rintro w' ⟨s0, s1, s2, s3, s4, s5⟩
     go_simp
     with_reducible rfl
    rotate_left
    ·
     simp only [Act.put, sp]
     rfl
    refine one_ (i := 1) (N := some 6) #[true,true,false,false,false,false,false,false,false,false,false,false,false,false,false,false,false,false,false,false,false,false,false] rfl rfl (one_of HT_.out (by kernel_rfl)) (by decide) (fun K hK => ?_)
    refine goes_ Try.func66 (by kernel_rfl) rfl #[.agg #[.int .i64 a1_0, .int .i64 a1_1, .int .i64 a1_2, .int .i64 a1_3, .int .i64 a1_4, .int .i64 a1_5]] (by rfl) rfl rfl ags ?_
    with_reducible refine (table_isLeaf.calls a1_0 a1_1 a1_2 a1_3 a1_4 a1_5 false _ A3.out).mono ?_
    rintro e w19 ⟨rfl, hb⟩
    refine ⟨_, rfl, ?_⟩
    have n0_ := asd (blk_below (g := gb136) (o := .cells #[.int .i64 a1_0, .int .i64 a1_1, .int .i64 a1_2, .int .i64 a1_3, .int .i64 a1_4, .int .i64 a1_5] 49 (0, 0)) (skK BK136.out) hb)
    have n1_ := asd (below_step (skG HB.out GE136.out GE136.out) hb)
    clear BK136
    clear HB
    have BK136 := n0_
    have HB := n1_
    clear n0_ n1_
    (try clear hb)
    (try clear hb2)
    (try clear hk)
    (try clear hi)
    refine hK.out _ _ ⟨(blk_cell BK136.out 0).trans rfl, (blk_cell BK136.out 1).trans rfl, (blk_cell BK136.out 2).trans rfl, (blk_cell BK136.out 3).trans rfl, (blk_cell BK136.out 4).trans rfl, (blk_cell BK136.out 5).trans rfl⟩ (fun hHeld => ?_)
    clear hK K
    refine norm_ (a' := ?_) ?_ ?_
    rotate_left
    ·
     show Act.put _ (some 6) _ = _
     simp only [Act.put, sp]
     rfl
    refine pure_ (i := 2) (N := some 7) (v := ?_) (a' := ?_) #[true,true,true,false,false,false,false,false,false,false,false,false,false,false,false,false,false,false,false,false,false,false,false] rfl rfl (aK HT_.out) (fun _ _ _ h => h) (Or.inl ⟨by rfl, ?_⟩) ?_ ?_
    rotate_left
    ·
     intro w'
     go_simp
     with_reducible rfl
    rotate_left
    ·
     simp only [Act.put, sp]
     rfl
    refine pure_ (i := 3) (N := some 8) (v := ?_) (a' := ?_) #[true,true,true,true,false,false,false,false,false,false,false,false,false,false,false,false,false,false,false,false,false,false,false] rfl rfl (aK HT_.out) (fun _ _ _ h => h) (Or.inl ⟨by rfl, ?_⟩) ?_ ?_
    rotate_left
    ·
     intro w'
     go_simp
     with_reducible rfl
    rotate_left
    ·
     simp only [Act.put, sp]
     rfl
    refine pure_ (i := 4) (N := some 9) (v := ?_) (a' := ?_) #[true,true,true,true,true,false,false,false,false,false,false,false,false,false,false,false,false,false,false,false,false,false,false] rfl rfl (aK HT_.out) (fun _ _ _ h => h) (Or.inl ⟨by rfl, ?_⟩) ?_ ?_
    rotate_left
    ·
     intro w'
     go_simp
     with_reducible rfl
    rotate_left
    ·
     simp only [Act.put, sp]
     rfl
    refine take_ (i := 5) (N := some 10) (v := ?_) (a' := ?_) #[true,true,true,true,true,true,false,false,false,false,false,false,false,false,false,false,false,false,false,false,false,false,false] rfl rfl (take_ofW HT_.out HW_.out (by kernel_rfl)) (fun _ _ _ h => h) (Or.inl ⟨by rfl, ?_⟩) hHeld ?_ ?_
    rotate_left
    ·
     rintro w' ⟨s0, s1, s2, s3, s4, s5⟩
     go_simp
     with_reducible rfl
    rotate_left
    ·
     simp only [Act.put, sp]
     rfl
    refine pure_ (i := 6) (N := some 11) (v := ?_) (a' := ?_) #[true,true,true,true,true,true,true,false,false,false,false,false,false,false,false,false,false,false,false,false,false,false,false] rfl rfl (aK HT_.out) (fun _ _ _ h => h) (Or.inl ⟨by rfl, ?_⟩) ?_ ?_
    rotate_left
    ·
     intro w'
     go_simp
     with_reducible rfl
    rotate_left
    ·
     simp only [Act.put, sp]
     rfl
    refine pure_ (i := 7) (N := some 12) (v := ?_) (a' := ?_) #[true,true,true,true,true,true,true,true,false,false,false,false,false,false,false,false,false,false,false,false,false,false,false] rfl rfl (aK HT_.out) (fun _ _ _ h => h) (Or.inl ⟨by rfl, ?_⟩) ?_ ?_
    rotate_left
    ·
     intro w'
     go_simp
     with_reducible rfl
    rotate_left
    ·
     simp only [Act.put, sp]
     rfl
    refine pure_ (i := 8) (N := some 13) (v := ?_) (a' := ?_) #[true,true,true,true,true,true,true,true,true,false,false,false,false,false,false,false,false,false,false,false,false,false,false] rfl rfl (aK HT_.out) (fun _ _ _ h => h) (Or.inl ⟨by rfl, ?_⟩) ?_ ?_
    rotate_left
    ·
     intro w'
     go_simp
     with_reducible rfl
    rotate_left
    ·
     simp only [Act.put, sp]
     rfl
    refine pure_ (i := 9) (N := some 14) (v := ?_) (a' := ?_) #[true,true,true,true,true,true,true,true,true,true,false,false,false,false,false,false,false,false,false,false,false,false,false] rfl rfl (aK HT_.out) (fun _ _ _ h => h) (Or.inl ⟨by rfl, ?_⟩) ?_ ?_
    rotate_left
    ·
     intro w'
     go_simp
     with_reducible rfl
    rotate_left
    ·
     simp only [Act.put, sp]
     rfl
    refine take_ (i := 10) (N := some 15) (v := ?_) (a' := ?_) #[true,true,true,true,true,true,true,true,true,true,true,false,false,false,false,false,false,false,false,false,false,false,false] rfl rfl (take_ofW HT_.out HW_.out (by kernel_rfl)) (fun _ _ _ h => h) (Or.inl ⟨by rfl, ?_⟩) hHeld ?_ ?_
    rotate_left
    ·
     rintro w' ⟨s0, s1, s2, s3, s4, s5⟩
     go_simp
     with_reducible rfl
    rotate_left
    ·
     simp only [Act.put, sp]
     rfl
    refine pure_ (i := 11) (N := some 16) (v := ?_) (a' := ?_) #[true,true,true,true,true,true,true,true,true,true,true,true,false,false,false,false,false,false,false,false,false,false,false] rfl rfl (aK HT_.out) (fun _ _ _ h => h) (Or.inl ⟨by rfl, ?_⟩) ?_ ?_
    rotate_left
    ·
     intro w'
     go_simp
     with_reducible rfl
    rotate_left
    ·
     simp only [Act.put, sp]
     rfl
    refine pure_ (i := 12) (N := some 17) (v := ?_) (a' := ?_) #[true,true,true,true,true,true,true,true,true,true,true,true,true,false,false,false,false,false,false,false,false,false,false] rfl rfl (aK HT_.out) (fun _ _ _ h => h) (Or.inl ⟨by rfl, ?_⟩) ?_ ?_
    rotate_left
    ·
     intro w'
     go_simp
     with_reducible rfl
    rotate_left
    ·
     simp only [Act.put, sp]
     rfl
    refine pure_ (i := 13) (N := some 18) (v := ?_) (a' := ?_) #[true,true,true,true,true,true,true,true,true,true,true,true,true,true,false,false,false,false,false,false,false,false,false] rfl rfl (aK HT_.out) (fun _ _ _ h => h) (Or.inl ⟨by rfl, ?_⟩) ?_ ?_
    rotate_left
    ·
     intro w'
     go_simp
     with_reducible rfl
    rotate_left
    ·
     simp only [Act.put, sp]
     rfl
    refine pure_ (i := 14) (N := some 19) (v := undef) (a' := ?_) #[true,true,true,true,true,true,true,true,true,true,true,true,true,true,true,false,false,false,false,false,false,false,false] rfl rfl (aK HT_.out) (fun _ _ _ h => h) (Or.inr ⟨by rfl, rfl⟩) ?_ ?_
    rotate_left
    ·
     simp only [Act.put, sp]
     rfl
    refine pure_ (i := 15) (N := some 20) (v := undef) (a' := ?_) #[true,true,true,true,true,true,true,true,true,true,true,true,true,true,true,true,false,false,false,false,false,false,false] rfl rfl (aK HT_.out) (fun _ _ _ h => h) (Or.inr ⟨by rfl, rfl⟩) ?_ ?_
    rotate_left
    ·
     simp only [Act.put, sp]
     rfl
    refine pure_ (i := 16) (N := some 21) (v := undef) (a' := ?_) #[true,true,true,true,true,true,true,true,true,true,true,true,true,true,true,true,true,false,false,false,false,false,false] rfl rfl (aK HT_.out) (fun _ _ _ h => h) (Or.inr ⟨by rfl, rfl⟩) ?_ ?_
    rotate_left
    ·
     simp only [Act.put, sp]
     rfl
    refine pure_ (i := 17) (N := some 22) (v := undef) (a' := ?_) #[true,true,true,true,true,true,true,true,true,true,true,true,true,true,true,true,true,true,false,false,false,false,false] rfl rfl (aK HT_.out) (fun _ _ _ h => h) (Or.inr ⟨by rfl, rfl⟩) ?_ ?_
    rotate_left
    ·
     simp only [Act.put, sp]
     rfl
    refine pure_ (i := 18) (N := some 23) (v := undef) (a' := ?_) #[true,true,true,true,true,true,true,true,true,true,true,true,true,true,true,true,true,true,true,false,false,false,false] rfl rfl (aK HT_.out) (fun _ _ _ h => h) (Or.inr ⟨by rfl, rfl⟩) ?_ ?_
    rotate_left
    ·
     simp only [Act.put, sp]
     rfl
    refine pure_ (i := 19) (N := some 24) (v := undef) (a' := ?_) #[true,true,true,true,true,true,true,true,true,true,true,true,true,true,true,true,true,true,true,true,false,false,false] rfl rfl (aK HT_.out) (fun _ _ _ h => h) (Or.inr ⟨by rfl, rfl⟩) ?_ ?_
    rotate_left
    ·
     simp only [Act.put, sp]
     rfl
    refine pure_ (i := 20) (N := some 25) (v := undef) (a' := ?_) #[true,true,true,true,true,true,true,true,true,true,true,true,true,true,true,true,true,true,true,true,true,false,false] rfl rfl (aK HT_.out) (fun _ _ _ h => h) (Or.inr ⟨by rfl, rfl⟩) ?_ ?_
    rotate_left
    ·
     simp only [Act.put, sp]
     rfl
    refine pure_ (i := 21) (N := some 26) (v := ?_) (a' := ?_) #[true,true,true,true,true,true,true,true,true,true,true,true,true,true,true,true,true,true,true,true,true,true,false] rfl rfl (aK HT_.out) (fun _ _ _ h => h) (Or.inl ⟨by rfl, ?_⟩) ?_ ?_
    rotate_left
    ·
     intro w'
     go_simp
     with_reducible rfl
    rotate_left
    ·
     simp only [Act.put, sp]
     rfl
    refine pure_ (i := 22) (N := some 4) (v := ?_) (a' := ?_) #[true,true,true,true,true,true,true,true,true,true,true,true,true,true,true,true,true,true,true,true,true,true,true] rfl rfl (aK HT_.out) (fun _ _ _ h => h) (Or.inl ⟨by rfl, ?_⟩) ?_ ?_
    rotate_left
    ·
     intro w'
     go_simp
     with_reducible rfl
    rotate_left
    ·
     simp only [Act.put, sp]
     rfl
    refine done_ (done_of HT_.out (by kernel_rfl)) ?_
    try go_wp2
    go_ret
    exact ⟨re, skG HB.out GE136.out GE136.out⟩
  ·
   rw [if_neg c8] at H
   have c8b0 : (a1_1 == 1) = false := beq_eq_false_iff_ne.mpr c8
   have c8b1 : (a1_1 != 1) = true := bne_iff_ne.mpr c8
   obtain rfl := Option.some.inj H
   go_enter Try.func68, Try.ntmps68
   try go_wp2_with (first | ((with_reducible refine gate_dst (N := 3) rfl ?_); refine box_event ?hg (N := 3) ?hd (cs := #[.int .i64 a1_0, .int .i64 a1_1, .int .i64 a1_2, .int .i64 a1_3, .int .i64 a1_4, .int .i64 a1_5]) (t := 49) ?hr ?_; (case hd => rfl); (case hg => rfl); (case hr => first | (go_simp; done) | (go_simp; rfl)); intro gb136 hg w20 hbox hb; have n0_ := asd (below_step (skB HB.out) hb); have n1_ := asd (hbox); have n2_ := asd ((by rw [hg]; exact (below_size (skB HB.out)) : w.heap.size ≤ gb136)); have n3_ := asd ((by rw [hg]; exact (below_size (skB HB.out)) : w.heap.size ≤ gb136)); clear HB; have HB := n0_; have BK136 := n1_; have GW136 := n2_; have GE136 := n3_; clear n0_ n1_ n2_ n3_; clear hb hbox hg))
   have n0_ := asd (blk_drew BK136.out)
   have n1_ := asd (below_drew1 HB.out)
   clear BK136
   clear HB
   have BK136 := n0_
   have HB := n1_
   clear n0_ n1_
   refine start_ (n := 23) (S := fun w' => w'.cell? ⟨gb136, 0, none⟩ = some (.int .i64 a1_0) ∧ w'.cell? ⟨gb136, 1, none⟩ = some (.int .i64 a1_1) ∧ w'.cell? ⟨gb136, 2, none⟩ = some (.int .i64 a1_2) ∧ w'.cell? ⟨gb136, 3, none⟩ = some (.int .i64 a1_3) ∧ w'.cell? ⟨gb136, 4, none⟩ = some (.int .i64 a1_4) ∧ w'.cell? ⟨gb136, 5, none⟩ = some (.int .i64 a1_5)) (ds := []) #[false,false,false,false,false,false,false,false,false,false,false,false,false,false,false,false,false,false,false,false,false,false,false] (by kernel_rfl) rfl rfl ⟨(blk_cell BK136.out 0).trans rfl, (blk_cell BK136.out 1).trans rfl, (blk_cell BK136.out 2).trans rfl, (blk_cell BK136.out 3).trans rfl, (blk_cell BK136.out 4).trans rfl, (blk_cell BK136.out 5).trans rfl⟩ (fun hHeld => ?_); refine with_tabW table_crowned.tab1 table_crowned.bits1 (fun HT_ HW_ => ?_)
   generalize w20.drew = w21 at BK136 HB hHeld ⊢
   refine take_ (i := 0) (N := some 5) (v := ?_) (a' := ?_) #[true,false,false,false,false,false,false,false,false,false,false,false,false,false,false,false,false,false,false,false,false,false,false] rfl rfl (take_ofW HT_.out HW_.out (by kernel_rfl)) (fun _ _ _ h => h) (Or.inl ⟨by rfl, ?_⟩) hHeld ?_ ?_
   rotate_left
   ·
    rintro w' ⟨s0, s1, s2, s3, s4, s5⟩
    go_simp
    with_reducible rfl
   rotate_left
   ·
    simp only [Act.put, sp]
    rfl
   refine one_ (i := 1) (N := some 6) #[true,true,false,false,false,false,false,false,false,false,false,false,false,false,false,false,false,false,false,false,false,false,false] rfl rfl (one_of HT_.out (by kernel_rfl)) (by decide) (fun K hK => ?_)
   refine goes_ Try.func66 (by kernel_rfl) rfl #[.agg #[.int .i64 a1_0, .int .i64 a1_1, .int .i64 a1_2, .int .i64 a1_3, .int .i64 a1_4, .int .i64 a1_5]] (by rfl) rfl rfl ags ?_
   with_reducible refine (table_isLeaf.calls a1_0 a1_1 a1_2 a1_3 a1_4 a1_5 false _ A3.out).mono ?_
   rintro e w22 ⟨rfl, hb⟩
   refine ⟨_, rfl, ?_⟩
   have n0_ := asd (blk_below (g := gb136) (o := .cells #[.int .i64 a1_0, .int .i64 a1_1, .int .i64 a1_2, .int .i64 a1_3, .int .i64 a1_4, .int .i64 a1_5] 49 (0, 0)) (skK BK136.out) hb)
   have n1_ := asd (below_step (skG HB.out GE136.out GE136.out) hb)
   clear BK136
   clear HB
   have BK136 := n0_
   have HB := n1_
   clear n0_ n1_
   (try clear hb)
   (try clear hb2)
   (try clear hk)
   (try clear hi)
   refine hK.out _ _ ⟨(blk_cell BK136.out 0).trans rfl, (blk_cell BK136.out 1).trans rfl, (blk_cell BK136.out 2).trans rfl, (blk_cell BK136.out 3).trans rfl, (blk_cell BK136.out 4).trans rfl, (blk_cell BK136.out 5).trans rfl⟩ (fun hHeld => ?_)
   clear hK K
   refine norm_ (a' := ?_) ?_ ?_
   rotate_left
   ·
    show Act.put _ (some 6) _ = _
    simp only [Act.put, sp]
    rfl
   refine pure_ (i := 2) (N := some 7) (v := ?_) (a' := ?_) #[true,true,true,false,false,false,false,false,false,false,false,false,false,false,false,false,false,false,false,false,false,false,false] rfl rfl (aK HT_.out) (fun _ _ _ h => h) (Or.inl ⟨by rfl, ?_⟩) ?_ ?_
   rotate_left
   ·
    intro w'
    go_simp
    with_reducible rfl
   rotate_left
   ·
    simp only [Act.put, sp]
    rfl
   refine pure_ (i := 3) (N := some 8) (v := ?_) (a' := ?_) #[true,true,true,true,false,false,false,false,false,false,false,false,false,false,false,false,false,false,false,false,false,false,false] rfl rfl (aK HT_.out) (fun _ _ _ h => h) (Or.inl ⟨by rfl, ?_⟩) ?_ ?_
   rotate_left
   ·
    intro w'
    go_simp
    with_reducible rfl
   rotate_left
   ·
    simp only [Act.put, sp]
    rfl
   refine pure_ (i := 4) (N := some 9) (v := ?_) (a' := ?_) #[true,true,true,true,true,false,false,false,false,false,false,false,false,false,false,false,false,false,false,false,false,false,false] rfl rfl (aK HT_.out) (fun _ _ _ h => h) (Or.inl ⟨by rfl, ?_⟩) ?_ ?_
   rotate_left
   ·
    intro w'
    go_simp
    with_reducible rfl
   rotate_left
   ·
    simp only [Act.put, sp]
    rfl
   refine take_ (i := 5) (N := some 10) (v := ?_) (a' := ?_) #[true,true,true,true,true,true,false,false,false,false,false,false,false,false,false,false,false,false,false,false,false,false,false] rfl rfl (take_ofW HT_.out HW_.out (by kernel_rfl)) (fun _ _ _ h => h) (Or.inl ⟨by rfl, ?_⟩) hHeld ?_ ?_
   rotate_left
   ·
    rintro w' ⟨s0, s1, s2, s3, s4, s5⟩
    go_simp
    with_reducible rfl
   rotate_left
   ·
    simp only [Act.put, sp]
    rfl
   refine pure_ (i := 6) (N := some 11) (v := ?_) (a' := ?_) #[true,true,true,true,true,true,true,false,false,false,false,false,false,false,false,false,false,false,false,false,false,false,false] rfl rfl (aK HT_.out) (fun _ _ _ h => h) (Or.inl ⟨by rfl, ?_⟩) ?_ ?_
   rotate_left
   ·
    intro w'
    go_simp
    with_reducible rfl
   rotate_left
   ·
    simp only [Act.put, sp]
    rfl
   refine pure_ (i := 7) (N := some 12) (v := ?_) (a' := ?_) #[true,true,true,true,true,true,true,true,false,false,false,false,false,false,false,false,false,false,false,false,false,false,false] rfl rfl (aK HT_.out) (fun _ _ _ h => h) (Or.inl ⟨by rfl, ?_⟩) ?_ ?_
   rotate_left
   ·
    intro w'
    go_simp
    with_reducible rfl
   rotate_left
   ·
    simp only [Act.put, sp]
    rfl
   refine pure_ (i := 8) (N := some 13) (v := ?_) (a' := ?_) #[true,true,true,true,true,true,true,true,true,false,false,false,false,false,false,false,false,false,false,false,false,false,false] rfl rfl (aK HT_.out) (fun _ _ _ h => h) (Or.inl ⟨by rfl, ?_⟩) ?_ ?_
   rotate_left
   ·
    intro w'
    go_simp
    with_reducible rfl
   rotate_left
   ·
    simp only [Act.put, sp]
    rfl
   refine pure_ (i := 9) (N := some 14) (v := undef) (a' := ?_) #[true,true,true,true,true,true,true,true,true,true,false,false,false,false,false,false,false,false,false,false,false,false,false] rfl rfl (aK HT_.out) (fun _ _ _ h => h) (Or.inr ⟨by rfl, rfl⟩) ?_ ?_
   rotate_left
   ·
    simp only [Act.put, sp]
    rfl
   refine pure_ (i := 10) (N := some 15) (v := undef) (a' := ?_) #[true,true,true,true,true,true,true,true,true,true,true,false,false,false,false,false,false,false,false,false,false,false,false] rfl rfl (aK HT_.out) (fun _ _ _ h => h) (Or.inr ⟨by rfl, rfl⟩) ?_ ?_
   rotate_left
   ·
    simp only [Act.put, sp]
    rfl
   refine pure_ (i := 11) (N := some 16) (v := undef) (a' := ?_) #[true,true,true,true,true,true,true,true,true,true,true,true,false,false,false,false,false,false,false,false,false,false,false] rfl rfl (aK HT_.out) (fun _ _ _ h => h) (Or.inr ⟨by rfl, rfl⟩) ?_ ?_
   rotate_left
   ·
    simp only [Act.put, sp]
    rfl
   refine pure_ (i := 12) (N := some 17) (v := ?_) (a' := ?_) #[true,true,true,true,true,true,true,true,true,true,true,true,true,false,false,false,false,false,false,false,false,false,false] rfl rfl (aK HT_.out) (fun _ _ _ h => h) (Or.inl ⟨by rfl, ?_⟩) ?_ ?_
   rotate_left
   ·
    intro w'
    go_simp
    with_reducible rfl
   rotate_left
   ·
    simp only [Act.put, sp]
    rfl
   refine pure_ (i := 13) (N := some 18) (v := ?_) (a' := ?_) #[true,true,true,true,true,true,true,true,true,true,true,true,true,true,false,false,false,false,false,false,false,false,false] rfl rfl (aK HT_.out) (fun _ _ _ h => h) (Or.inl ⟨by rfl, ?_⟩) ?_ ?_
   rotate_left
   ·
    intro w'
    go_simp
    with_reducible rfl
   rotate_left
   ·
    simp only [Act.put, sp]
    rfl
   refine pure_ (i := 14) (N := some 19) (v := undef) (a' := ?_) #[true,true,true,true,true,true,true,true,true,true,true,true,true,true,true,false,false,false,false,false,false,false,false] rfl rfl (aK HT_.out) (fun _ _ _ h => h) (Or.inr ⟨by rfl, rfl⟩) ?_ ?_
   rotate_left
   ·
    simp only [Act.put, sp]
    rfl
   refine pure_ (i := 15) (N := some 20) (v := undef) (a' := ?_) #[true,true,true,true,true,true,true,true,true,true,true,true,true,true,true,true,false,false,false,false,false,false,false] rfl rfl (aK HT_.out) (fun _ _ _ h => h) (Or.inr ⟨by rfl, rfl⟩) ?_ ?_
   rotate_left
   ·
    simp only [Act.put, sp]
    rfl
   refine pure_ (i := 16) (N := some 21) (v := undef) (a' := ?_) #[true,true,true,true,true,true,true,true,true,true,true,true,true,true,true,true,true,false,false,false,false,false,false] rfl rfl (aK HT_.out) (fun _ _ _ h => h) (Or.inr ⟨by rfl, rfl⟩) ?_ ?_
   rotate_left
   ·
    simp only [Act.put, sp]
    rfl
   refine pure_ (i := 17) (N := some 22) (v := undef) (a' := ?_) #[true,true,true,true,true,true,true,true,true,true,true,true,true,true,true,true,true,true,false,false,false,false,false] rfl rfl (aK HT_.out) (fun _ _ _ h => h) (Or.inr ⟨by rfl, rfl⟩) ?_ ?_
   rotate_left
   ·
    simp only [Act.put, sp]
    rfl
   refine pure_ (i := 18) (N := some 23) (v := undef) (a' := ?_) #[true,true,true,true,true,true,true,true,true,true,true,true,true,true,true,true,true,true,true,false,false,false,false] rfl rfl (aK HT_.out) (fun _ _ _ h => h) (Or.inr ⟨by rfl, rfl⟩) ?_ ?_
   rotate_left
   ·
    simp only [Act.put, sp]
    rfl
   refine pure_ (i := 19) (N := some 24) (v := undef) (a' := ?_) #[true,true,true,true,true,true,true,true,true,true,true,true,true,true,true,true,true,true,true,true,false,false,false] rfl rfl (aK HT_.out) (fun _ _ _ h => h) (Or.inr ⟨by rfl, rfl⟩) ?_ ?_
   rotate_left
   ·
    simp only [Act.put, sp]
    rfl
   refine pure_ (i := 20) (N := some 25) (v := undef) (a' := ?_) #[true,true,true,true,true,true,true,true,true,true,true,true,true,true,true,true,true,true,true,true,true,false,false] rfl rfl (aK HT_.out) (fun _ _ _ h => h) (Or.inr ⟨by rfl, rfl⟩) ?_ ?_
   rotate_left
   ·
    simp only [Act.put, sp]
    rfl
   refine pure_ (i := 21) (N := some 26) (v := ?_) (a' := ?_) #[true,true,true,true,true,true,true,true,true,true,true,true,true,true,true,true,true,true,true,true,true,true,false] rfl rfl (aK HT_.out) (fun _ _ _ h => h) (Or.inl ⟨by rfl, ?_⟩) ?_ ?_
   rotate_left
   ·
    intro w'
    go_simp
    with_reducible rfl
   rotate_left
   ·
    simp only [Act.put, sp]
    rfl
   refine pure_ (i := 22) (N := some 4) (v := ?_) (a' := ?_) #[true,true,true,true,true,true,true,true,true,true,true,true,true,true,true,true,true,true,true,true,true,true,true] rfl rfl (aK HT_.out) (fun _ _ _ h => h) (Or.inl ⟨by rfl, ?_⟩) ?_ ?_
   rotate_left
   ·
    intro w'
    go_simp
    with_reducible rfl
   rotate_left
   ·
    simp only [Act.put, sp]
    rfl
   refine done_ (done_of HT_.out (by kernel_rfl)) ?_
   try go_wp2
   go_ret
   exact ⟨re, skG HB.out GE136.out GE136.out⟩
end Go.Proofs.Ytmmjkebboonnkaa.P
/- F28 -/
namespace Go.Proofs.Ytmmjkebboonnkaa.P
open Go.RowKit Go.Proofs.YtmmjkebboonnkaaW.PrintWords Go.Proofs.YtmmjkebboonnkaaW.PrintLast Go.Proofs.YtmmjkebboonnkaaW.PrintMore
attribute [local go_sem] max2_int min2_int max_two min_two max_three min_three max_four min_four   -- for this text's walks alone
set_option linter.unusedVariables false
set_option linter.unusedSimpArgs false
def larchref17_leaf.f (a0_0 : Int) (a0_1 : Int) (a0_2 : Int) (a0_3 : Int) (a0_4 : Int) (a0_5 : Int) : Option (Bool) := if a0_4 = (-1) then (some (a0_5 == (-1))) else (some false)
set_option maxHeartbeats 8000000 in
set_option maxRecDepth 100000 in
theorem larchref17_leaf.calls (a0_0 : Int) (a0_1 : Int) (a0_2 : Int) (a0_3 : Int) (a0_4 : Int) (a0_5 : Int) (r : Bool) (w : World) (h : larchref17_leaf.f a0_0 a0_1 a0_2 a0_3 a0_4 a0_5 = some r) :
  Calls Try.prog 53 #[.agg #[.int .i64 a0_0, .int .i64 a0_1, .int .i64 a0_2, .int .i64 a0_3, .int .i64 a0_4, .int .i64 a0_5]] w fun e w' => e = .returned (.bool r) ∧ Below w.heap.size w w' := by
 have hu49 := Try.underlying49
 have HB := asd (Below.refl w.heap.size w)
 have H : (if a0_4 = (-1) then (some (a0_5 == (-1))) else (some false)) = some r := h
 clear h
 by_cases c2 : a0_4 = (-1)
 ·
  rw [if_pos c2] at H
  have c2b0 : (a0_4 == (-1)) = true := beq_iff_eq.mpr c2
  have c2b1 : (a0_4 != (-1)) = false := bne_eq_false_iff_eq.mpr c2
  clear c2
  obtain rfl := Option.some.inj H
  go_enter Try.func53, Try.ntmps53
  go_wp2_with (first | ((with_reducible refine gate_dst (N := 1) rfl ?_); refine box_event ?hg (N := 1) ?hd (cs := #[.int .i64 a0_0, .int .i64 a0_1, .int .i64 a0_2, .int .i64 a0_3, .int .i64 a0_4, .int .i64 a0_5]) (t := 49) ?hr ?_; (case hd => rfl); (case hg => rfl); (case hr => first | (go_simp; done) | (go_simp; rfl)); intro gb282 hg w3 hbox hb; have n0_ := asd (below_step (skB HB.out) hb); have n1_ := asd (hbox); have n2_ := asd ((by rw [hg]; exact (below_size (skB HB.out)) : w.heap.size ≤ gb282)); have n3_ := asd ((by rw [hg]; exact (below_size (skB HB.out)) : w.heap.size ≤ gb282)); clear HB; have HB := n0_; have BK282 := n1_; have GW282 := n2_; have GE282 := n3_; clear n0_ n1_ n2_ n3_; clear hb hbox hg; obtain ⟨hcz4_0, hcz4_1, hcz4_2, hcz4_3, hcz4_4, hcz4_5, hfz4_0, hfz4_1, hfz4_2, hfz4_3, hfz4_4, hfz4_5⟩ := bk6 BK282.out))
  go_ret
  exact ⟨re, skG HB.out GE282.out GE282.out⟩
 ·
  rw [if_neg c2] at H
  have c2b0 : (a0_4 == (-1)) = false := beq_eq_false_iff_ne.mpr c2
  have c2b1 : (a0_4 != (-1)) = true := bne_iff_ne.mpr c2
  obtain rfl := Option.some.inj H
  go_enter Try.func53, Try.ntmps53
  go_wp2_with (first | ((with_reducible refine gate_dst (N := 1) rfl ?_); refine box_event ?hg (N := 1) ?hd (cs := #[.int .i64 a0_0, .int .i64 a0_1, .int .i64 a0_2, .int .i64 a0_3, .int .i64 a0_4, .int .i64 a0_5]) (t := 49) ?hr ?_; (case hd => rfl); (case hg => rfl); (case hr => first | (go_simp; done) | (go_simp; rfl)); intro gb282 hg w5 hbox hb; have n0_ := asd (below_step (skB HB.out) hb); have n1_ := asd (hbox); have n2_ := asd ((by rw [hg]; exact (below_size (skB HB.out)) : w.heap.size ≤ gb282)); have n3_ := asd ((by rw [hg]; exact (below_size (skB HB.out)) : w.heap.size ≤ gb282)); clear HB; have HB := n0_; have BK282 := n1_; have GW282 := n2_; have GE282 := n3_; clear n0_ n1_ n2_ n3_; clear hb hbox hg; obtain ⟨hcz6_0, hcz6_1, hcz6_2, hcz6_3, hcz6_4, hcz6_5, hfz6_0, hfz6_1, hfz6_2, hfz6_3, hfz6_4, hfz6_5⟩ := bk6 BK282.out))
  go_ret
  exact ⟨re, skG HB.out GE282.out GE282.out⟩
end Go.Proofs.Ytmmjkebboonnkaa.P
/- F29 -/
namespace Go.Proofs.Ytmmjkebboonnkaa.P
open Go.RowKit Go.Proofs.YtmmjkebboonnkaaW.PrintWords Go.Proofs.YtmmjkebboonnkaaW.PrintLast Go.Proofs.YtmmjkebboonnkaaW.PrintMore
attribute [local go_sem] max2_int min2_int max_two min_two max_three min_three max_four min_four   -- for this text's walks alone
set_option linter.unusedVariables false
set_option linter.unusedSimpArgs false
def larchref17_Order.l0 : Nat → List (S49) → List Int → List Int → Option (List Int)
 | 0, _, _, _ => none
 | k + 1, x0, x5, x6 => if (x6.length : Int) > 0 then (if 0 ≤ (wrap64 ((x6.length : Int) - 1)) then (if (wrap64 ((x6.length : Int) - 1)) < (x6.length : Int) then (if (wrap64 ((x6.length : Int) - 1)) ≤ (x6.length : Int) then ((some (x6.take ((wrap64 ((x6.length : Int) - 1)) : Int).toNat : List Int)).bind fun y287 => (if x5.length < 17592186044416 then ((some (x5 ++ [rd x6 (wrap64 ((x6.length : Int) - 1))] : List Int)).bind fun y290 => (if 0 ≤ (rd x6 (wrap64 ((x6.length : Int) - 1))) then (if (rd x6 (wrap64 ((x6.length : Int) - 1))) < (x0.length : Int) then ((larchref17_leaf.f ((J49 x0 (rd x6 (wrap64 ((x6.length : Int) - 1)))).f0) ((J49 x0 (rd x6 (wrap64 ((x6.length : Int) - 1)))).f1) ((J49 x0 (rd x6 (wrap64 ((x6.length : Int) - 1)))).f2) ((J49 x0 (rd x6 (wrap64 ((x6.length : Int) - 1)))).f3) ((J49 x0 (rd x6 (wrap64 ((x6.length : Int) - 1)))).f4) ((J49 x0 (rd x6 (wrap64 ((x6.length : Int) - 1)))).f5)).bind fun t294 => (if t294 = true then (larchref17_Order.l0 k x0 y290 y287) else ((some (([(J49 x0 (rd x6 (wrap64 ((x6.length : Int) - 1)))).f5, (J49 x0 (rd x6 (wrap64 ((x6.length : Int) - 1)))).f4] : List Int) : List Int)).bind fun y297 => (if y287.length + y297.length < 17592186044416 then (larchref17_Order.l0 k x0 y290 (y287 ++ y297)) else (none))))) else (none)) else (none))) else (none))) else (none)) else (none)) else (none)) else (some x5)
def larchref17_Order.f (k : Nat) (l0 : List (S49)) (a1 : Int) : Option (List Int) := larchref17_Order.l0 k l0 ([] : List Int) (([a1] : List Int))
def larchref17_Order.T8 : Bool × List (List Nat × List Nat) := (true, [([], []), ([], []), ([], []), ([1, 2], [1, 2]), ([3], [3]), ([4], [4]), ([], []), ([], []), ([6, 7], [6, 7]), ([8], [8]), ([9], [9]), ([5, 10], [5, 10]), ([0, 11], [0, 11]), ([12, 12, 0, 1, 2, 3, 4, 5, 6, 7, 8, 9, 10, 11, 12], [0, 12])])
def larchref17_Order.B8 : List Nat := [0, 0, 0, 6, 14, 30, 0, 0, 192, 448, 960, 2046, 4095, 8191]
theorem larchref17_Order.tab8 : rtab .any (opsOf Try.f27 8) = larchref17_Order.T8 := by kernel_rfl
theorem larchref17_Order.bits8 : waitsOk larchref17_Order.T8.2 larchref17_Order.B8 = true := by kernel_rfl
set_option maxHeartbeats 8000000 in
set_option maxRecDepth 100000 in
theorem larchref17_Order.calls (k : Nat) (A0 : Option Addr) (c0 : Nat) (l0 : List (S49)) (a1 : Int) (r : List Int) (w : World) (hr0 : Kd.C k49 w A0 l0.length l0) (hc0 : l0.length ≤ c0) (h : larchref17_Order.f k l0 a1 = some r) :
  Calls Try.prog 27 #[.slice A0 l0.length c0, .int .i64 a1] w fun e w' => ∃ v0_ : Value, e = .returned (v0_) ∧ Kd.R (Kd.int .i64) 3 w' w.heap.size (fun _ => True) v0_ r ∧ Below w.heap.size w w' := by
 have hu49 := Try.underlying49
 have HR0 := asd hr0
 have HC0 := asd hc0
 clear hr0 hc0
 have HB := asd (Below.refl w.heap.size w)
 have H : (larchref17_Order.l0 k l0 ([] : List Int) (([a1] : List Int))) = some r := h
 clear h
 obtain ⟨y283, hy283⟩ : ∃ y_ : List Int, y_ = (([a1] : List Int)) := ⟨_, rfl⟩
 replace H : (larchref17_Order.l0 k l0 ([] : List Int) y283) = some r := by first | (rw [hy283]; with_reducible exact H) | (have H2_ := (Option.bind_some _ _).symm.trans H; rw [hy283]; with_reducible exact H2_) | (have H2_ := (Option.bind_some _ _).symm.trans H; with_reducible exact H2_) | with_reducible exact H | (rw [hy283]; exact H) | exact H
 have Ny283 := asd hy283
 clear hy283
 have H' := asd H
 clear H
 go_enter Try.func27, Try.ntmps27
 go_wp2_with (first | ((with_reducible refine gate_dst (N := 9) rfl ?_); refine Kd.R_lit (Kd.int .i64) _ 3 ?hg (N := 9) ?hd (xs := ([a1] : List Int)) (inner := [.int .i64 a1]) (ok := fun _ => True) (okp := fun _ => True) ?hr ?hp (fun _ hk => hk) trivial (Below.refl _ _) (Nat.le_refl _) (by simp) ?_; (case hd => rfl); (case hg => rfl); (case hr => first | (go_simp; done) | (go_simp; rfl)); (case hp => exact (Reps.one (show Kd.M (Kd.int .i64) _ _ _ a1 [.int .i64 a1] from rfl) (Reps.none _ _))); intro v284 w3 ho4 hb hg_ hnew_; clear hg_ hnew_; (first | rw [← Ny283.out] at ho4 | (simp only [Int.reduceToNat] at ho4; rw [← Ny283.out] at ho4)); have n0_ := asd (Kd.R_lower ho4 (below_size (skB HB.out))); have n1_ := asd (below_step (skB HB.out) hb); clear HB; have HO285 := n0_; have HB := n1_; clear n0_ n1_; clear hb ho4))
 go_loopg [5, 6] k (fun kq v5 v6 w' => ∃ (x5_1 : List Int) (x6_1 : List Int), Aside0 (larchref17_Order.l0 kq l0 x5_1 x6_1 = some r) ∧ Aside0 (kq ≤ k) ∧ Aside0 (Kd.R (Kd.int .i64) 3 w' w.heap.size (fun k_ => some k_ ≠ (v6 : Value).ownBlock) v5 x5_1) ∧ Aside0 (Kd.R (Kd.int .i64) 3 w' w.heap.size (fun k_ => some k_ ≠ (v5 : Value).ownBlock) v6 x6_1) ∧ Aside0 (Below w.heap.size w w'))
 case atStart => exact ⟨(([] : List Int)), (y283), H', ⟨Nat.le_refl _⟩, ⟨by first | exact Kd.R_nil _ _ _ _ _ | exact Kd.N_nil _ _ _ _ _ | exact Kd.V_nil _ _ _ _ _ | exact Kd.Q_nil _ _ _ _ _ | exact Kd.S_nil _ _ _ _ _⟩, ⟨skR (Kd.R_mono HO285.out (fun _ hk => (by simp [Value.ownBlock])))⟩, ⟨skB HB.out⟩⟩
 case round =>
  clear H'
  try clear c2
  try clear p2
  obtain ⟨x5_1, x6_1, HA, HK1, HO_5, HO_6, HB⟩ := hrel
  cases gk with
  | zero => exact absurd HA.out (by simp [larchref17_Order.l0])
  | succ k1 =>
   have H := HA.out
   clear HA
   simp only [larchref17_Order.l0] at H
   by_cases c5 : (x6_1.length : Int) > 0
   ·
    rw [if_pos c5] at H
    have c5b0 : decide (0 < (x6_1.length : Int)) = true := decide_eq_true c5
    have c5b1 : decide (0 < x6_1.length) = true := decide_eq_true (by omega)
    clear c5
    obtain ⟨ji6, hji6⟩ : ∃ j_ : Int, (wrap64 ((x6_1.length : Int) - 1)) = j_ := ⟨_, rfl⟩
    replace H : (if 0 ≤ (ji6) then (if (ji6) < (x6_1.length : Int) then (if (ji6) ≤ (x6_1.length : Int) then ((some (x6_1.take ((ji6) : Int).toNat : List Int)).bind fun y287 => (if x5_1.length < 17592186044416 then ((some (x5_1 ++ [rd x6_1 (ji6)] : List Int)).bind fun y290 => (if 0 ≤ (rd x6_1 (ji6)) then (if (rd x6_1 (ji6)) < (l0.length : Int) then ((larchref17_leaf.f ((J49 l0 (rd x6_1 (ji6))).f0) ((J49 l0 (rd x6_1 (ji6))).f1) ((J49 l0 (rd x6_1 (ji6))).f2) ((J49 l0 (rd x6_1 (ji6))).f3) ((J49 l0 (rd x6_1 (ji6))).f4) ((J49 l0 (rd x6_1 (ji6))).f5)).bind fun t294 => (if t294 = true then (larchref17_Order.l0 k1 l0 y290 y287) else ((some (([(J49 l0 (rd x6_1 (ji6))).f5, (J49 l0 (rd x6_1 (ji6))).f4] : List Int) : List Int)).bind fun y297 => (if y287.length + y297.length < 17592186044416 then (larchref17_Order.l0 k1 l0 y290 (y287 ++ y297)) else (none))))) else (none)) else (none))) else (none))) else (none)) else (none)) else (none)) = some r := by first | (rw [hji6] at H; exact H) | (simp only [hji6] at H ⊢; exact H)
    have hji6w : (IntKind.i64.wrap ((x6_1.length : Int) - 1)) = ji6 := (i64_w _).trans hji6
    by_cases c7 : 0 ≤ (ji6)
    ·
     rw [if_pos c7] at H
     have c7b0 : decide (0 ≤ (ji6)) = true := decide_eq_true c7
     clear c7
     by_cases c8 : (ji6) < (x6_1.length : Int)
     ·
      rw [if_pos c8] at H
      have c8b0 : decide ((ji6) < (x6_1.length : Int)) = true := decide_eq_true c8
      clear c8
      by_cases c9 : (ji6) ≤ (x6_1.length : Int)
      ·
       rw [if_pos c9] at H
       have c9b0 := eq_true c9
       have c9b1 : decide ((ji6) ≤ (x6_1.length : Int)) = true := decide_eq_true c9
       clear c9
       obtain ⟨y287, hy287⟩ : ∃ y_ : List Int, y_ = (x6_1.take ((ji6) : Int).toNat) := ⟨_, rfl⟩
       replace H : (if x5_1.length < 17592186044416 then ((some (x5_1 ++ [rd x6_1 (ji6)] : List Int)).bind fun y290 => (if 0 ≤ (rd x6_1 (ji6)) then (if (rd x6_1 (ji6)) < (l0.length : Int) then ((larchref17_leaf.f ((J49 l0 (rd x6_1 (ji6))).f0) ((J49 l0 (rd x6_1 (ji6))).f1) ((J49 l0 (rd x6_1 (ji6))).f2) ((J49 l0 (rd x6_1 (ji6))).f3) ((J49 l0 (rd x6_1 (ji6))).f4) ((J49 l0 (rd x6_1 (ji6))).f5)).bind fun t294 => (if t294 = true then (larchref17_Order.l0 k1 l0 y290 y287) else ((some (([(J49 l0 (rd x6_1 (ji6))).f5, (J49 l0 (rd x6_1 (ji6))).f4] : List Int) : List Int)).bind fun y297 => (if y287.length + y297.length < 17592186044416 then (larchref17_Order.l0 k1 l0 y290 (y287 ++ y297)) else (none))))) else (none)) else (none))) else (none)) = some r := by first | (rw [hy287]; with_reducible exact H) | (have H2_ := (Option.bind_some _ _).symm.trans H; rw [hy287]; with_reducible exact H2_) | (have H2_ := (Option.bind_some _ _).symm.trans H; with_reducible exact H2_) | with_reducible exact H | (rw [hy287]; exact H) | exact H
       have Ny287 := asd hy287
       clear hy287
       by_cases c10 : x5_1.length < 17592186044416
       ·
        rw [if_pos c10] at H
        have LMc10 := asd c10
        clear c10
        obtain ⟨y290, hy290⟩ : ∃ y_ : List Int, y_ = (x5_1 ++ [rd x6_1 (ji6)]) := ⟨_, rfl⟩
        replace H : (if 0 ≤ (rd x6_1 (ji6)) then (if (rd x6_1 (ji6)) < (l0.length : Int) then ((larchref17_leaf.f ((J49 l0 (rd x6_1 (ji6))).f0) ((J49 l0 (rd x6_1 (ji6))).f1) ((J49 l0 (rd x6_1 (ji6))).f2) ((J49 l0 (rd x6_1 (ji6))).f3) ((J49 l0 (rd x6_1 (ji6))).f4) ((J49 l0 (rd x6_1 (ji6))).f5)).bind fun t294 => (if t294 = true then (larchref17_Order.l0 k1 l0 y290 y287) else ((some (([(J49 l0 (rd x6_1 (ji6))).f5, (J49 l0 (rd x6_1 (ji6))).f4] : List Int) : List Int)).bind fun y297 => (if y287.length + y297.length < 17592186044416 then (larchref17_Order.l0 k1 l0 y290 (y287 ++ y297)) else (none))))) else (none)) else (none)) = some r := by first | (rw [hy290]; with_reducible exact H) | (have H2_ := (Option.bind_some _ _).symm.trans H; rw [hy290]; with_reducible exact H2_) | (have H2_ := (Option.bind_some _ _).symm.trans H; with_reducible exact H2_) | with_reducible exact H | (rw [hy290]; exact H) | exact H
        have Ny290 := asd hy290
        clear hy290
        by_cases c11 : 0 ≤ (rd x6_1 (ji6))
        ·
         rw [if_pos c11] at H
         have c11b0 : decide (0 ≤ (rd x6_1 (ji6))) = true := decide_eq_true c11
         clear c11
         by_cases c12 : (rd x6_1 (ji6)) < (l0.length : Int)
         ·
          rw [if_pos c12] at H
          have c12b0 : decide ((rd x6_1 (ji6)) < (l0.length : Int)) = true := decide_eq_true c12
          clear c12
          replace H := Option.bind_eq_some_iff.mp H
          obtain ⟨t294, A130, H⟩ := H
          replace H : (if t294 = true then (larchref17_Order.l0 k1 l0 y290 y287) else ((some (([(J49 l0 (rd x6_1 (ji6))).f5, (J49 l0 (rd x6_1 (ji6))).f4] : List Int) : List Int)).bind fun y297 => (if y287.length + y297.length < 17592186044416 then (larchref17_Order.l0 k1 l0 y290 (y287 ++ y297)) else (none)))) = some r := H
          have A13 := asd A130
          clear A130
          by_cases c14 : t294 = true
          ·
           subst c14
           have H1 : (larchref17_Order.l0 k1 l0 y290 y287) = some r := by rw [if_pos rfl] at H; exact H
           clear H
           have H := H1
           clear H1
           have H' := asd H
           clear H
           obtain ⟨Ao15, co15, eo15⟩ := Kd.R_slice HO_6.out
           subst eo15
           have p286 : 0 ≤ ((ji6) : Int) := dt
           have q286 : (ji6) < (x6_1.length : Int) := dt
           obtain ⟨ad286, e286, hx286_0⟩ := Kd.at_int (Kd.R_reads' HO_6.out).2.2 (ji6) p286 q286
           cases e286
           replace p286 := eq_true p286
           replace q286 := eq_true q286
           have q16 : ((ji6) : Int) ≤ ((x6_1.length : Int) : Int) := dt
           obtain ⟨i016, hi016, _, hsz16, _⟩ := info_parts info3
           have hcut16 := cut_to (P := Try.prog) 23 3 .i64 Try.underlying23 hi016 (some ad286) x6_1.length co15 (ji6) dt q16 (Kd.R_reads' HO_6.out).2.1
           have hr16 := Kd.R_take (m := ((ji6) : Int).toNat) HO_6.out (by omega)
           have hy16 : y287.length = ((ji6) : Int).toNat := (by rw [Ny287.out, List.length_take]; omega)
           rw [← Ny287.out] at hr16
           rw [← hy16] at hr16 hcut16
           clear hy16 hi016 hsz16 HO_6
           have HO289 := asd hr16
           clear hr16
           replace q16 := eq_true q16
           go_wp2_with (first | ((with_reducible refine gate_builtin (b := .append) (xs := #[.tmp 24, .tmp 26]) rfl ?_); at_builtin; refine Kd.R_append (Kd.int .i64) (w0 := w) w.heap.size rfl (.tmp 24) (.tmp 26) 23 3 (.int .i64 0) 8 rfl Try.underlying23 info3 rfl (by decide) (by omega) u5 x5_1 (rd x6_1 (ji6)) [.int .i64 (rd x6_1 (ji6))] (fun k_ => some k_ ≠ (.slice (some ad286) y287.length co15 : Value).ownBlock) (fun _ => False) rfl rfl ?aP (fun _ hk => hk.elim) ?aF ?aO ?aB ?aS ?aL ?_; (case aP => exact rfl); (case aB => exact (skB HB.out)); (case aF => exact (fun k_ hk => Kd.fresh' (Kd.R_lt (skR HO289.out)) k_ hk)); (case aO => exact (skR HO_5.out)); (case aS => exact (below_size (skB HB.out))); (case aL => have := LMc10.out; omega); intro v291 w17 ho hb hg hat; rw [← Ny290.out] at ho; have n0_ := asd (Kd.R_after (ok := (fun _ => True)) (skR (Kd.R_mono HO289.out (fun _ hk => ⟨trivial, hk⟩))) hg hat); have n1_ := asd (hb); have n2_ := asd (ho); clear HO289; clear HB; clear HO_5; have HO289 := n0_; have HB := n1_; have HO292 := n2_; clear n0_ n1_ n2_; clear ho hb hg hat; have p293 : 0 ≤ ((rd x6_1 (ji6)) : Int) := dt; have q293 : (rd x6_1 (ji6)) < (l0.length : Int) := dt; obtain ⟨ad293, e293, hx293_0, hx293_1, hx293_2, hx293_3, hx293_4, hx293_5⟩ := at_T49 HR0.out (rd x6_1 (ji6)) p293 q293; cases e293; replace hx293_0 := skc HB.out hx293_0; replace hx293_1 := skc HB.out hx293_1; replace hx293_2 := skc HB.out hx293_2; replace hx293_3 := skc HB.out hx293_3; replace hx293_4 := skc HB.out hx293_4; replace hx293_5 := skc HB.out hx293_5; replace p293 := eq_true p293; replace q293 := eq_true q293) | ((with_reducible refine gate_callee (f := 53) rfl ?_); refine goesL_ (some 32) rfl rfl Try.func53 (by kernel_rfl) rfl #[.agg #[.int .i64 ((J49 l0 (rd x6_1 (ji6))).f0), .int .i64 ((J49 l0 (rd x6_1 (ji6))).f1), .int .i64 ((J49 l0 (rd x6_1 (ji6))).f2), .int .i64 ((J49 l0 (rd x6_1 (ji6))).f3), .int .i64 ((J49 l0 (rd x6_1 (ji6))).f4), .int .i64 ((J49 l0 (rd x6_1 (ji6))).f5)]] rfl (by (try simp only [List.map_toArray, List.map_cons, List.map_nil]); first | done | (simp only [hji6]; rfl) | rfl | (simp only [List.length_drop, List.length_take]; rfl)) ?_; (with_reducible refine (larchref17_leaf.calls ((J49 l0 (rd x6_1 (ji6))).f0) ((J49 l0 (rd x6_1 (ji6))).f1) ((J49 l0 (rd x6_1 (ji6))).f2) ((J49 l0 (rd x6_1 (ji6))).f3) ((J49 l0 (rd x6_1 (ji6))).f4) ((J49 l0 (rd x6_1 (ji6))).f5) true _ A13.out).mono ?_); rintro e w18 ⟨rfl, hb⟩; refine ⟨_, rfl, ?_⟩; have n0_ := asd (Kd.R_below (skR HO289.out) hb); have n1_ := asd (Kd.R_below (skR HO292.out) hb); have n2_ := asd (below_step (skB HB.out) hb); clear HO289; clear HO292; clear HB; have HO289 := n0_; have HO292 := n1_; have HB := n2_; clear n0_ n1_ n2_; (try clear hb); (try clear hb2); (try clear hk); (try clear hi)))
           go_roundg k1
           case measure => have := HK1.out; omega
           case rel => exact ⟨(y290), (y287), H', ⟨by have := HK1.out; omega⟩, ⟨skR HO292.out⟩, ⟨skR (Kd.R_mono HO289.out (fun _ hk => hk.2))⟩, ⟨skB HB.out⟩⟩
          ·
           replace c14 := Bool.eq_false_iff.mpr c14
           subst c14
           have H1 : ((some (([(J49 l0 (rd x6_1 (ji6))).f5, (J49 l0 (rd x6_1 (ji6))).f4] : List Int) : List Int)).bind fun y297 => (if y287.length + y297.length < 17592186044416 then (larchref17_Order.l0 k1 l0 y290 (y287 ++ y297)) else (none))) = some r := by rw [if_neg (show ¬ (false = true) by decide)] at H; exact H
           clear H
           have H := H1
           clear H1
           obtain ⟨y297, hy297⟩ : ∃ y_ : List Int, y_ = (([(J49 l0 (rd x6_1 (ji6))).f5, (J49 l0 (rd x6_1 (ji6))).f4] : List Int)) := ⟨_, rfl⟩
           replace H : (if y287.length + y297.length < 17592186044416 then (larchref17_Order.l0 k1 l0 y290 (y287 ++ y297)) else (none)) = some r := by first | (rw [hy297]; with_reducible exact H) | (have H2_ := (Option.bind_some _ _).symm.trans H; rw [hy297]; with_reducible exact H2_) | (have H2_ := (Option.bind_some _ _).symm.trans H; with_reducible exact H2_) | with_reducible exact H | (rw [hy297]; exact H) | exact H
           have Ny297 := asd hy297
           clear hy297
           by_cases c19 : y287.length + y297.length < 17592186044416
           ·
            rw [if_pos c19] at H
            have LMc19 := asd c19
            clear c19
            obtain ⟨y300, hy300⟩ : ∃ y_ : List Int, y_ = (y287 ++ y297) := ⟨_, rfl⟩
            replace H : (larchref17_Order.l0 k1 l0 y290 y300) = some r := by first | (rw [hy300]; with_reducible exact H) | (have H2_ := (Option.bind_some _ _).symm.trans H; rw [hy300]; with_reducible exact H2_) | (have H2_ := (Option.bind_some _ _).symm.trans H; with_reducible exact H2_) | with_reducible exact H | (rw [hy300]; exact H) | exact H
            have Ny300 := asd hy300
            clear hy300
            have H' := asd H
            clear H
            obtain ⟨Ao20, co20, eo20⟩ := Kd.R_slice HO_6.out
            subst eo20
            have p286 : 0 ≤ ((ji6) : Int) := dt
            have q286 : (ji6) < (x6_1.length : Int) := dt
            obtain ⟨ad286, e286, hx286_0⟩ := Kd.at_int (Kd.R_reads' HO_6.out).2.2 (ji6) p286 q286
            cases e286
            replace p286 := eq_true p286
            replace q286 := eq_true q286
            have q21 : ((ji6) : Int) ≤ ((x6_1.length : Int) : Int) := dt
            obtain ⟨i021, hi021, _, hsz21, _⟩ := info_parts info3
            have hcut21 := cut_to (P := Try.prog) 23 3 .i64 Try.underlying23 hi021 (some ad286) x6_1.length co20 (ji6) dt q21 (Kd.R_reads' HO_6.out).2.1
            have hr21 := Kd.R_take (m := ((ji6) : Int).toNat) HO_6.out (by omega)
            have hy21 : y287.length = ((ji6) : Int).toNat := (by rw [Ny287.out, List.length_take]; omega)
            rw [← Ny287.out] at hr21
            rw [← hy21] at hr21 hcut21
            clear hy21 hi021 hsz21 HO_6
            have HO289 := asd hr21
            clear hr21
            replace q21 := eq_true q21
            try go_wp2_with (first | ((with_reducible refine gate_builtin (b := .append) (xs := #[.tmp 24, .tmp 26]) rfl ?_); at_builtin; refine Kd.R_append (Kd.int .i64) (w0 := w) w.heap.size rfl (.tmp 24) (.tmp 26) 23 3 (.int .i64 0) 8 rfl Try.underlying23 info3 rfl (by decide) (by omega) u5 x5_1 (rd x6_1 (ji6)) [.int .i64 (rd x6_1 (ji6))] (fun k_ => some k_ ≠ (.slice (some ad286) y287.length co20 : Value).ownBlock) (fun _ => False) rfl rfl ?aP (fun _ hk => hk.elim) ?aF ?aO ?aB ?aS ?aL ?_; (case aP => exact rfl); (case aB => exact (skB HB.out)); (case aF => exact (fun k_ hk => Kd.fresh' (Kd.R_lt (skR HO289.out)) k_ hk)); (case aO => exact (skR HO_5.out)); (case aS => exact (below_size (skB HB.out))); (case aL => have := LMc10.out; omega); intro v291 w22 ho hb hg hat; rw [← Ny290.out] at ho; have n0_ := asd (Kd.R_after (ok := (fun _ => True)) (skR (Kd.R_mono HO289.out (fun _ hk => ⟨trivial, hk⟩))) hg hat); have n1_ := asd (hb); have n2_ := asd (ho); clear HO289; clear HB; clear HO_5; have HO289 := n0_; have HB := n1_; have HO292 := n2_; clear n0_ n1_ n2_; clear ho hb hg hat; have p293 : 0 ≤ ((rd x6_1 (ji6)) : Int) := dt; have q293 : (rd x6_1 (ji6)) < (l0.length : Int) := dt; obtain ⟨ad293, e293, hx293_0, hx293_1, hx293_2, hx293_3, hx293_4, hx293_5⟩ := at_T49 HR0.out (rd x6_1 (ji6)) p293 q293; cases e293; replace hx293_0 := skc HB.out hx293_0; replace hx293_1 := skc HB.out hx293_1; replace hx293_2 := skc HB.out hx293_2; replace hx293_3 := skc HB.out hx293_3; replace hx293_4 := skc HB.out hx293_4; replace hx293_5 := skc HB.out hx293_5; replace p293 := eq_true p293; replace q293 := eq_true q293) | ((with_reducible refine gate_callee (f := 53) rfl ?_); refine goesL_ (some 32) rfl rfl Try.func53 (by kernel_rfl) rfl #[.agg #[.int .i64 ((J49 l0 (rd x6_1 (ji6))).f0), .int .i64 ((J49 l0 (rd x6_1 (ji6))).f1), .int .i64 ((J49 l0 (rd x6_1 (ji6))).f2), .int .i64 ((J49 l0 (rd x6_1 (ji6))).f3), .int .i64 ((J49 l0 (rd x6_1 (ji6))).f4), .int .i64 ((J49 l0 (rd x6_1 (ji6))).f5)]] rfl (by (try simp only [List.map_toArray, List.map_cons, List.map_nil]); first | done | (simp only [hji6]; rfl) | rfl | (simp only [List.length_drop, List.length_take]; rfl)) ?_; (with_reducible refine (larchref17_leaf.calls ((J49 l0 (rd x6_1 (ji6))).f0) ((J49 l0 (rd x6_1 (ji6))).f1) ((J49 l0 (rd x6_1 (ji6))).f2) ((J49 l0 (rd x6_1 (ji6))).f3) ((J49 l0 (rd x6_1 (ji6))).f4) ((J49 l0 (rd x6_1 (ji6))).f5) false _ A13.out).mono ?_); rintro e w23 ⟨rfl, hb⟩; refine ⟨_, rfl, ?_⟩; have n0_ := asd (Kd.R_below (skR HO289.out) hb); have n1_ := asd (Kd.R_below (skR HO292.out) hb); have n2_ := asd (below_step (skB HB.out) hb); clear HO289; clear HO292; clear HB; have HO289 := n0_; have HO292 := n1_; have HB := n2_; clear n0_ n1_ n2_; (try clear hb); (try clear hb2); (try clear hk); (try clear hi)))
            have n0_ := asd (Kd.R_drew HO289.out)
            have n1_ := asd (Kd.R_drew HO292.out)
            have n2_ := asd (below_drew1 HB.out)
            clear HO289
            clear HO292
            clear HB
            have HO289 := n0_
            have HO292 := n1_
            have HB := n2_
            clear n0_ n1_ n2_
            have p295 : 0 ≤ ((rd x6_1 (ji6)) : Int) := dt
            have q295 : (rd x6_1 (ji6)) < (l0.length : Int) := dt
            obtain ⟨ad295, e295, hx295_0, hx295_1, hx295_2, hx295_3, hx295_4, hx295_5⟩ := at_T49 HR0.out (rd x6_1 (ji6)) p295 q295
            have hw295_5 := hx295_5
            have hw295_4 := hx295_4
            have hw295_3 := hx295_3
            have hw295_2 := hx295_2
            have hw295_1 := hx295_1
            have hw295_0 := hx295_0
            obtain rfl : ad293 = ad295 := (by injection e295)
            replace hx295_0 := skc HB.out hx295_0
            replace hx295_1 := skc HB.out hx295_1
            replace hx295_2 := skc HB.out hx295_2
            replace hx295_3 := skc HB.out hx295_3
            replace hx295_4 := skc HB.out hx295_4
            replace hx295_5 := skc HB.out hx295_5
            replace p295 := eq_true p295
            replace q295 := eq_true q295
            have p296 : 0 ≤ ((rd x6_1 (ji6)) : Int) := dt
            have q296 : (rd x6_1 (ji6)) < (l0.length : Int) := dt
            obtain ⟨ad296, e296, hx296_0, hx296_1, hx296_2, hx296_3, hx296_4, hx296_5⟩ := at_T49 HR0.out (rd x6_1 (ji6)) p296 q296
            have hw296_5 := hx296_5
            have hw296_4 := hx296_4
            have hw296_3 := hx296_3
            have hw296_2 := hx296_2
            have hw296_1 := hx296_1
            have hw296_0 := hx296_0
            obtain rfl : ad293 = ad296 := (by injection e296)
            replace hx296_0 := skc HB.out hx296_0
            replace hx296_1 := skc HB.out hx296_1
            replace hx296_2 := skc HB.out hx296_2
            replace hx296_3 := skc HB.out hx296_3
            replace hx296_4 := skc HB.out hx296_4
            replace hx296_5 := skc HB.out hx296_5
            replace p296 := eq_true p296
            replace q296 := eq_true q296
            refine start_ (n := 14) (S := fun w' => w'.cell? (ad293.add (((rd x6_1 (ji6))).toNat * 6)) = some (.int .i64 ((J49 l0 (rd x6_1 (ji6))).f0)) ∧ w'.cell? ⟨(ad293.add (((rd x6_1 (ji6))).toNat * 6)).block, (ad293.add (((rd x6_1 (ji6))).toNat * 6)).off + 1, none⟩ = some (.int .i64 ((J49 l0 (rd x6_1 (ji6))).f1)) ∧ w'.cell? ⟨(ad293.add (((rd x6_1 (ji6))).toNat * 6)).block, (ad293.add (((rd x6_1 (ji6))).toNat * 6)).off + 2, none⟩ = some (.int .i64 ((J49 l0 (rd x6_1 (ji6))).f2)) ∧ w'.cell? ⟨(ad293.add (((rd x6_1 (ji6))).toNat * 6)).block, (ad293.add (((rd x6_1 (ji6))).toNat * 6)).off + 3, none⟩ = some (.int .i64 ((J49 l0 (rd x6_1 (ji6))).f3)) ∧ w'.cell? ⟨(ad293.add (((rd x6_1 (ji6))).toNat * 6)).block, (ad293.add (((rd x6_1 (ji6))).toNat * 6)).off + 4, none⟩ = some (.int .i64 ((J49 l0 (rd x6_1 (ji6))).f4)) ∧ w'.cell? ⟨(ad293.add (((rd x6_1 (ji6))).toNat * 6)).block, (ad293.add (((rd x6_1 (ji6))).toNat * 6)).off + 5, none⟩ = some (.int .i64 ((J49 l0 (rd x6_1 (ji6))).f5)) ∧ w'.cell? (ad293.add (((rd x6_1 (ji6))).toNat * 6)) = some (.int .i64 ((J49 l0 (rd x6_1 (ji6))).f0)) ∧ w'.cell? ⟨(ad293.add (((rd x6_1 (ji6))).toNat * 6)).block, (ad293.add (((rd x6_1 (ji6))).toNat * 6)).off + 1, none⟩ = some (.int .i64 ((J49 l0 (rd x6_1 (ji6))).f1)) ∧ w'.cell? ⟨(ad293.add (((rd x6_1 (ji6))).toNat * 6)).block, (ad293.add (((rd x6_1 (ji6))).toNat * 6)).off + 2, none⟩ = some (.int .i64 ((J49 l0 (rd x6_1 (ji6))).f2)) ∧ w'.cell? ⟨(ad293.add (((rd x6_1 (ji6))).toNat * 6)).block, (ad293.add (((rd x6_1 (ji6))).toNat * 6)).off + 3, none⟩ = some (.int .i64 ((J49 l0 (rd x6_1 (ji6))).f3)) ∧ w'.cell? ⟨(ad293.add (((rd x6_1 (ji6))).toNat * 6)).block, (ad293.add (((rd x6_1 (ji6))).toNat * 6)).off + 4, none⟩ = some (.int .i64 ((J49 l0 (rd x6_1 (ji6))).f4)) ∧ w'.cell? ⟨(ad293.add (((rd x6_1 (ji6))).toNat * 6)).block, (ad293.add (((rd x6_1 (ji6))).toNat * 6)).off + 5, none⟩ = some (.int .i64 ((J49 l0 (rd x6_1 (ji6))).f5))) (ds := []) #[false,false,false,false,false,false,false,false,false,false,false,false,false,false] (by kernel_rfl) rfl rfl ⟨(skc HB.out hw295_0), (skc HB.out hw295_1), (skc HB.out hw295_2), (skc HB.out hw295_3), (skc HB.out hw295_4), (skc HB.out hw295_5), (skc HB.out hw296_0), (skc HB.out hw296_1), (skc HB.out hw296_2), (skc HB.out hw296_3), (skc HB.out hw296_4), (skc HB.out hw296_5)⟩ (fun hHeld => ?_); refine with_tabW larchref17_Order.tab8 larchref17_Order.bits8 (fun HT_ HW_ => ?_)
            generalize w23.drew = w24 at HO289 HO292 HB hx295_0 hx295_1 hx295_2 hx295_3 hx295_4 hx295_5 hx296_0 hx296_1 hx296_2 hx296_3 hx296_4 hx296_5 hHeld ⊢
            refine pure_ (i := 0) (N := some 34) (v := ?_) (a' := ?_) #[true,false,false,false,false,false,false,false,false,false,false,false,false,false] rfl rfl (aK HT_.out) (fun _ _ _ h => h) (Or.inl ⟨by rfl, ?_⟩) ?_ ?_
            rotate_left
            ·
             intro w'
             go_simp
             with_reducible rfl
            rotate_left
            ·
             simp only [Act.put, sp]
             rfl
            refine pure_ (i := 1) (N := some 35) (v := ?_) (a' := ?_) #[true,true,false,false,false,false,false,false,false,false,false,false,false,false] rfl rfl (aK HT_.out) (fun _ _ _ h => h) (Or.inl ⟨by rfl, ?_⟩) ?_ ?_
            rotate_left
            ·
             intro w'
             go_simp
             with_reducible rfl
            rotate_left
            ·
             simp only [Act.put, sp]
             rfl
            refine pure_ (i := 2) (N := some 36) (v := ?_) (a' := ?_) #[true,true,true,false,false,false,false,false,false,false,false,false,false,false] rfl rfl (aK HT_.out) (fun _ _ _ h => h) (Or.inl ⟨by rfl, ?_⟩) ?_ ?_
            rotate_left
            ·
             intro w'
             go_simp
             with_reducible rfl
            rotate_left
            ·
             simp only [Act.put, sp]
             rfl
            refine pure_ (i := 3) (N := some 37) (v := ?_) (a' := ?_) #[true,true,true,true,false,false,false,false,false,false,false,false,false,false] rfl rfl (aK HT_.out) (fun _ _ _ h => h) (Or.inl ⟨by rfl, ?_⟩) ?_ ?_
            rotate_left
            ·
             intro w'
             go_simp
             with_reducible rfl
            rotate_left
            ·
             simp only [Act.put, sp]
             rfl
            refine pure_ (i := 4) (N := some 38) (v := ?_) (a' := ?_) #[true,true,true,true,true,false,false,false,false,false,false,false,false,false] rfl rfl (aK HT_.out) (fun _ _ _ h => h) (Or.inl ⟨by rfl, ?_⟩) ?_ ?_
            rotate_left
            ·
             intro w'
             go_simp
             with_reducible rfl
            rotate_left
            ·
             simp only [Act.put, sp]
             rfl
            refine pure_ (i := 6) (N := some 40) (v := ?_) (a' := ?_) #[true,true,true,true,true,false,true,false,false,false,false,false,false,false] rfl rfl (aK HT_.out) (fun _ _ _ h => h) (Or.inl ⟨by rfl, ?_⟩) ?_ ?_
            rotate_left
            ·
             intro w'
             go_simp
             with_reducible rfl
            rotate_left
            ·
             simp only [Act.put, sp]
             rfl
            refine pure_ (i := 7) (N := some 41) (v := ?_) (a' := ?_) #[true,true,true,true,true,false,true,true,false,false,false,false,false,false] rfl rfl (aK HT_.out) (fun _ _ _ h => h) (Or.inl ⟨by rfl, ?_⟩) ?_ ?_
            rotate_left
            ·
             intro w'
             go_simp
             with_reducible rfl
            rotate_left
            ·
             simp only [Act.put, sp]
             rfl
            refine pure_ (i := 8) (N := some 42) (v := ?_) (a' := ?_) #[true,true,true,true,true,false,true,true,true,false,false,false,false,false] rfl rfl (aK HT_.out) (fun _ _ _ h => h) (Or.inl ⟨by rfl, ?_⟩) ?_ ?_
            rotate_left
            ·
             intro w'
             go_simp
             with_reducible rfl
            rotate_left
            ·
             simp only [Act.put, sp]
             rfl
            refine pure_ (i := 9) (N := some 43) (v := ?_) (a' := ?_) #[true,true,true,true,true,false,true,true,true,true,false,false,false,false] rfl rfl (aK HT_.out) (fun _ _ _ h => h) (Or.inl ⟨by rfl, ?_⟩) ?_ ?_
            rotate_left
            ·
             intro w'
             go_simp
             with_reducible rfl
            rotate_left
            ·
             simp only [Act.put, sp]
             rfl
            refine take_ (i := 5) (N := some 39) (v := ?_) (a' := ?_) #[true,true,true,true,true,true,true,true,true,true,false,false,false,false] rfl rfl (take_ofW HT_.out HW_.out (by kernel_rfl)) (fun _ _ _ h => h) (Or.inl ⟨by rfl, ?_⟩) hHeld ?_ ?_
            rotate_left
            ·
             rintro w' ⟨s0, s1, s2, s3, s4, s5, s6, s7, s8, s9, s10, s11⟩
             go_simp
             with_reducible rfl
            rotate_left
            ·
             simp only [Act.put, sp]
             rfl
            refine take_ (i := 10) (N := some 44) (v := ?_) (a' := ?_) #[true,true,true,true,true,true,true,true,true,true,true,false,false,false] rfl rfl (take_ofW HT_.out HW_.out (by kernel_rfl)) (fun _ _ _ h => h) (Or.inl ⟨by rfl, ?_⟩) hHeld ?_ ?_
            rotate_left
            ·
             rintro w' ⟨s0, s1, s2, s3, s4, s5, s6, s7, s8, s9, s10, s11⟩
             go_simp
             with_reducible rfl
            rotate_left
            ·
             simp only [Act.put, sp]
             rfl
            refine one_ (i := 11) (N := some 45) #[true,true,true,true,true,true,true,true,true,true,true,true,false,false] rfl rfl (one_of HT_.out (by kernel_rfl)) (by decide) (fun K hK => ?_)
            refine Kd.R_lit_step (Kd.int .i64) _ 3 ?hg (N := 45) ?hd (xs := ([(J49 l0 (rd x6_1 (ji6))).f5, (J49 l0 (rd x6_1 (ji6))).f4] : List Int)) (inner := [.int .i64 ((J49 l0 (rd x6_1 (ji6))).f5), .int .i64 ((J49 l0 (rd x6_1 (ji6))).f4)]) (ok := fun _ => True) (okp := fun _ => True) ?hr ?hp (fun _ hk => hk) trivial (Below.refl _ _) (Nat.le_refl _) (by simp) ?_; (case hd => rfl); (case hg => rfl); (case hr => first | (go_simp; done) | (go_simp; rfl)); (case hp => exact (Reps.one (show Kd.M (Kd.int .i64) _ _ _ ((J49 l0 (rd x6_1 (ji6))).f5) [.int .i64 ((J49 l0 (rd x6_1 (ji6))).f5)] from rfl) (Reps.one (show Kd.M (Kd.int .i64) _ _ _ ((J49 l0 (rd x6_1 (ji6))).f4) [.int .i64 ((J49 l0 (rd x6_1 (ji6))).f4)] from rfl) (Reps.none _ _))))
            intro v298 w25 ho26 hb hg_ hnew_
            clear hg_ hnew_
            (first | rw [← Ny297.out] at ho26 | (simp only [Int.reduceToNat] at ho26; rw [← Ny297.out] at ho26))
            have n0_ := asd (Kd.R_elder' (skR HO289.out) (Kd.R_base ho26) hb)
            have n1_ := asd (Kd.R_elder' (skR HO292.out) (Kd.R_base ho26) hb)
            have n2_ := asd (Kd.R_lower (Kd.R_new' (Kd.R_new' ho26 (Kd.R_lt (skR HO289.out))) (Kd.R_lt (skR HO292.out))) (below_size (skB HB.out)))
            have n3_ := asd (below_step (skB HB.out) hb)
            clear HO289
            clear HO292
            clear HB
            have HO289 := n0_
            have HO292 := n1_
            have HO299 := n2_
            have HB := n3_
            clear n0_ n1_ n2_ n3_
            clear hb ho26
            obtain ⟨Ao28, co28, eo28⟩ := Kd.R_slice HO299.out
            (first | subst eo28 | (injection eo28 with f1_ f2_ f3_; have f4_ := f1_.symm; have f5_ := f3_.symm; clear f1_ f2_ f3_; subst f4_; subst f5_))
            refine hK.out _ _ ⟨(skc HB.out hw295_0), (skc HB.out hw295_1), (skc HB.out hw295_2), (skc HB.out hw295_3), (skc HB.out hw295_4), (skc HB.out hw295_5), (skc HB.out hw296_0), (skc HB.out hw296_1), (skc HB.out hw296_2), (skc HB.out hw296_3), (skc HB.out hw296_4), (skc HB.out hw296_5)⟩ (fun hHeld => ?_)
            clear hK K
            refine norm_ (a' := ?_) ?_ ?_
            rotate_left
            ·
             show Act.put _ (some 45) _ = _
             simp only [Act.put, sp]
             rfl
            refine one_ (i := 12) (N := some 46) #[true,true,true,true,true,true,true,true,true,true,true,true,true,false] rfl rfl (one_of HT_.out (by kernel_rfl)) (by decide) (fun K hK => ?_)
            refine Kd.R_append_rows_step (Kd.int .i64) (w0 := w) w.heap.size (by rfl) (.tmp 34) (.tmp 45) 23 3 (.int .i64 0) 8 rfl Try.underlying23 info3 rfl (by decide) (by omega) (.slice (some ad286) y287.length co20) y287 y297 _ _ _ (fun k_ => some k_ ≠ (v291 : Value).ownBlock ∧ some k_ ≠ (.slice Ao28 y297.length co28 : Value).ownBlock) (fun _ => False) rfl rfl ?aO ?aR (fun _ _ h => h) (fun _ h => h.elim) ?aF ?aB ?aS ?aL ?_
            (case aR => exact skC (Kd.R_reads' HO299.out).2.2)
            (case aB => exact (skB HB.out))
            (case aF => exact (fun k_ hk => ⟨Kd.fresh' (Kd.R_lt (skR HO292.out)) k_ hk, Kd.fresh' (Kd.R_lt (skR HO299.out)) k_ hk⟩))
            (case aO => exact (skR (Kd.R_mono HO289.out (fun _ hk => ⟨hk.1.2, hk.2⟩))))
            (case aS => exact (below_size (skB HB.out)))
            (case aL => have := LMc19.out; omega)
            intro v301 w27 ho hb hg hat
            rw [← Ny300.out] at ho
            have n0_ := asd (Kd.R_after (ok := (fun k_ => some k_ ≠ (.slice Ao28 y297.length co28 : Value).ownBlock)) (skR (Kd.R_mono HO292.out (fun _ hk => ⟨hk.2, hk.1⟩))) hg hat)
            have n1_ := asd (Kd.R_after (ok := (fun k_ => some k_ ≠ (v291 : Value).ownBlock)) (skR (Kd.R_mono HO299.out (fun _ hk => ⟨hk.2, hk.1.2⟩))) hg hat)
            have n2_ := asd (hb)
            have n3_ := asd (ho)
            clear HO292
            clear HO299
            clear HB
            clear HO289
            have HO292 := n0_
            have HO299 := n1_
            have HB := n2_
            have HO302 := n3_
            clear n0_ n1_ n2_ n3_
            clear ho hb hg hat
            refine hK.out _ _ ⟨(skc HB.out hw295_0), (skc HB.out hw295_1), (skc HB.out hw295_2), (skc HB.out hw295_3), (skc HB.out hw295_4), (skc HB.out hw295_5), (skc HB.out hw296_0), (skc HB.out hw296_1), (skc HB.out hw296_2), (skc HB.out hw296_3), (skc HB.out hw296_4), (skc HB.out hw296_5)⟩ (fun hHeld => ?_)
            clear hK K
            refine norm_ (a' := ?_) ?_ ?_
            rotate_left
            ·
             show Act.put _ (some 46) _ = _
             simp only [Act.put, sp]
             rfl
            refine pure_ (i := 13) (N := some 6) (v := ?_) (a' := ?_) #[true,true,true,true,true,true,true,true,true,true,true,true,true,true] rfl rfl (aK HT_.out) (fun _ _ _ h => h) (Or.inl ⟨by rfl, ?_⟩) ?_ ?_
            rotate_left
            ·
             intro w'
             go_simp
             with_reducible rfl
            rotate_left
            ·
             simp only [Act.put, sp]
             rfl
            refine done_ (done_of HT_.out (by kernel_rfl)) ?_
            try go_wp2
            go_roundg k1
            case measure => have := HK1.out; omega
            case rel => exact ⟨(y290), (y300), H', ⟨by have := HK1.out; omega⟩, ⟨skR (Kd.R_mono HO292.out (fun _ hk => hk.2))⟩, ⟨skR (Kd.R_mono HO302.out (fun _ hk => hk.1))⟩, ⟨skB HB.out⟩⟩
           ·
            rw [if_neg c19] at H
            exact absurd H (by simp)
         ·
          rw [if_neg c12] at H
          exact absurd H (by simp)
        ·
         rw [if_neg c11] at H
         exact absurd H (by simp)
       ·
        rw [if_neg c10] at H
        exact absurd H (by simp)
      ·
       rw [if_neg c9] at H
       exact absurd H (by simp)
     ·
      rw [if_neg c8] at H
      exact absurd H (by simp)
    ·
     rw [if_neg c7] at H
     exact absurd H (by simp)
   ·
    rw [if_neg c5] at H
    have c5b0 : decide (0 < (x6_1.length : Int)) = false := decide_eq_false c5
    have c5b1 : decide (0 < x6_1.length) = false := decide_eq_false (by omega)
    clear c5
    obtain rfl := Option.some.inj H
    obtain ⟨Ao29, co29, eo29⟩ := Kd.R_slice HO_6.out
    subst eo29
    go_wp2
    go_ret
    exact ⟨_, re, skR (Kd.R_mono HO_5.out (fun _ hk => trivial)), skB HB.out⟩
end Go.Proofs.Ytmmjkebboonnkaa.P
/- F32 -/
namespace Go.Proofs.Ytmmjkebboonnkaa.P
open Go.RowKit Go.Proofs.YtmmjkebboonnkaaW.PrintWords Go.Proofs.YtmmjkebboonnkaaW.PrintLast Go.Proofs.YtmmjkebboonnkaaW.PrintMore
attribute [local go_sem] max2_int min2_int max_two min_two max_three min_three max_four min_four   -- for this text's walks alone
set_option linter.unusedVariables false
set_option linter.unusedSimpArgs false
mutual
def larchref17_Check.l0 : Nat → List (S49) → List Int → Int → Option (Int)
 | 0, _, _, _ => none
 | k + 1, x0, x3, x4 => if x4 < (x0.length : Int) then (if 0 ≤ x4 then (if ((J49 x0 x4).f1) = 0 then (if ((J49 x0 x4).f1) = 1 then (if ((J49 x0 x4).f0) = 0 then (if ((J49 x0 x4).f3) = 0 then (if ((J49 x0 x4).f2) < 0 then (larchref17_Check.j1 k x0 x3 x4 true ((J49 x0 x4).f0) ((J49 x0 x4).f1) ((J49 x0 x4).f2) ((J49 x0 x4).f3) ((J49 x0 x4).f4) ((J49 x0 x4).f5)) else (larchref17_Check.j1 k x0 x3 x4 (decide (((J49 x0 x4).f2) > 1000000)) ((J49 x0 x4).f0) ((J49 x0 x4).f1) ((J49 x0 x4).f2) ((J49 x0 x4).f3) ((J49 x0 x4).f4) ((J49 x0 x4).f5))) else (larchref17_Check.j1 k x0 x3 x4 true ((J49 x0 x4).f0) ((J49 x0 x4).f1) ((J49 x0 x4).f2) ((J49 x0 x4).f3) ((J49 x0 x4).f4) ((J49 x0 x4).f5))) else (larchref17_Check.j1 k x0 x3 x4 true ((J49 x0 x4).f0) ((J49 x0 x4).f1) ((J49 x0 x4).f2) ((J49 x0 x4).f3) ((J49 x0 x4).f4) ((J49 x0 x4).f5))) else (if ((J49 x0 x4).f2) < 0 then (larchref17_Check.j1 k x0 x3 x4 true ((J49 x0 x4).f0) ((J49 x0 x4).f1) ((J49 x0 x4).f2) ((J49 x0 x4).f3) ((J49 x0 x4).f4) ((J49 x0 x4).f5)) else (larchref17_Check.j1 k x0 x3 x4 (decide (((J49 x0 x4).f2) > 1000000)) ((J49 x0 x4).f0) ((J49 x0 x4).f1) ((J49 x0 x4).f2) ((J49 x0 x4).f3) ((J49 x0 x4).f4) ((J49 x0 x4).f5)))) else (if ((J49 x0 x4).f1) = 1 then (if ((J49 x0 x4).f0) = 0 then (if ((J49 x0 x4).f3) = 0 then (if ((J49 x0 x4).f2) < 0 then (larchref17_Check.j1 k x0 x3 x4 true ((J49 x0 x4).f0) ((J49 x0 x4).f1) ((J49 x0 x4).f2) ((J49 x0 x4).f3) ((J49 x0 x4).f4) ((J49 x0 x4).f5)) else (larchref17_Check.j1 k x0 x3 x4 (decide (((J49 x0 x4).f2) > 1000000)) ((J49 x0 x4).f0) ((J49 x0 x4).f1) ((J49 x0 x4).f2) ((J49 x0 x4).f3) ((J49 x0 x4).f4) ((J49 x0 x4).f5))) else (larchref17_Check.j1 k x0 x3 x4 true ((J49 x0 x4).f0) ((J49 x0 x4).f1) ((J49 x0 x4).f2) ((J49 x0 x4).f3) ((J49 x0 x4).f4) ((J49 x0 x4).f5))) else (larchref17_Check.j1 k x0 x3 x4 true ((J49 x0 x4).f0) ((J49 x0 x4).f1) ((J49 x0 x4).f2) ((J49 x0 x4).f3) ((J49 x0 x4).f4) ((J49 x0 x4).f5))) else (larchref17_Check.j1 k x0 x3 x4 true ((J49 x0 x4).f0) ((J49 x0 x4).f1) ((J49 x0 x4).f2) ((J49 x0 x4).f3) ((J49 x0 x4).f4) ((J49 x0 x4).f5)))) else (none)) else (larchref17_Check.l1 k x0 x3 1)
def larchref17_Check.j1 : Nat → List (S49) → List Int → Int → Bool → Int → Int → Int → Int → Int → Int → Option (Int)
 | 0, _, _, _, _, _, _, _, _, _, _ => none
 | k + 1, x0, x3, x4, x58, x327000, x327001, x327002, x327003, x327004, x327005 => if x58 = true then (some 3) else ((larchref17_leaf.f x327000 x327001 x327002 x327003 x327004 x327005).bind fun t327 => (if t327 = true then (larchref17_Check.l0 k x0 x3 (wrap64 (x4 + 1))) else (if x327003 = 0 then (if x327004 < 1 then (some 3) else (if x327004 ≥ (x0.length : Int) then (some 3) else (if x327005 < 1 then (some 3) else (if x327005 ≥ (x0.length : Int) then (some 3) else (if x327004 = x327005 then (some 3) else (if 0 ≤ x327004 then (if x327004 < (x3.length : Int) then ((some (x3.set (x327004 : Int).toNat (wrap64 ((rd x3 x327004) + 1)) : List Int)).bind fun y329 => (if 0 ≤ x327005 then (if x327005 < (x3.length : Int) then (larchref17_Check.l0 k x0 (y329.set (x327005 : Int).toNat (wrap64 ((rd y329 x327005) + 1))) (wrap64 (x4 + 1))) else (none)) else (none))) else (none)) else (none))))))) else (some 3))))
def larchref17_Check.l1 : Nat → List (S49) → List Int → Int → Option (Int)
 | 0, _, _, _ => none
 | k + 1, x0, x3, x6 => if x6 < (x0.length : Int) then (if 0 ≤ x6 then (if x6 < (x3.length : Int) then (if (rd x3 x6) = 1 then (larchref17_Check.l1 k x0 x3 (wrap64 (x6 + 1))) else (some 3)) else (none)) else (none)) else (if 0 < (x3.length : Int) then (if (rd x3 0) = 0 then ((larchref17_Order.f k x0 0).bind fun t334 => (if (t334.length : Int) = (x0.length : Int) then (some 0) else (some 3))) else (some 3)) else (none))
end
def larchref17_Check.f (k : Nat) (l0 : List (S49)) : Option (Int) := if (l0.length : Int) > 100000 then (some 2) else (if (l0.length : Int) = 0 then (some 3) else (if 0 ≤ (l0.length : Int) then (if ((l0.length : Int) : Int).toNat ≤ 35184372088832 then (larchref17_Check.l0 k l0 (List.replicate ((l0.length : Int) : Int).toNat 0) 0) else (none)) else (none)))
end Go.Proofs.Ytmmjkebboonnkaa.P
/- F30 -/
namespace Go.Proofs.Ytmmjkebboonnkaa.P
open Go.RowKit Go.Proofs.YtmmjkebboonnkaaW.PrintWords Go.Proofs.YtmmjkebboonnkaaW.PrintLast Go.Proofs.YtmmjkebboonnkaaW.PrintMore
attribute [local go_sem] max2_int min2_int max_two min_two max_three min_three max_four min_four   -- for this text's walks alone
set_option linter.unusedVariables false
set_option linter.unusedSimpArgs false
def larchref17_sentinel.f (a0_0 : Int) (a0_1 : Int) (a0_2 : Int) (a0_3 : Int) (a0_4 : Int) (a0_5 : Int) : Option (Bool) := (larchref17_leaf.f a0_0 a0_1 a0_2 a0_3 a0_4 a0_5).bind fun t304 => (if t304 = true then (if a0_1 = 1 then (some (a0_2 == 1)) else (some false)) else (some false))
end Go.Proofs.Ytmmjkebboonnkaa.P
/- F31 -/
namespace Go.Proofs.Ytmmjkebboonnkaa.P
open Go.RowKit Go.Proofs.YtmmjkebboonnkaaW.PrintWords Go.Proofs.YtmmjkebboonnkaaW.PrintLast Go.Proofs.YtmmjkebboonnkaaW.PrintMore
attribute [local go_sem] max2_int min2_int max_two min_two max_three min_three max_four min_four   -- for this text's walks alone
set_option linter.unusedVariables false
set_option linter.unusedSimpArgs false
mutual
def larchref17_Root.j0 : Nat → List (S49) → Bool → Int → Int → Int → Int → Int → Int → Option (Int × Bool)
 | 0, _, _, _, _, _, _, _, _ => none
 | k + 1, x0, x31, x307000, x307001, x307002, x307003, x307004, x307005 => if x31 = true then (some ((-1), false)) else (if 0 ≤ x307004 then (if x307004 < (x0.length : Int) then ((larchref17_sentinel.f ((J49 x0 x307004).f0) ((J49 x0 x307004).f1) ((J49 x0 x307004).f2) ((J49 x0 x307004).f3) ((J49 x0 x307004).f4) ((J49 x0 x307004).f5)).bind fun t311 => (if t311 = true then (some ((-1), true)) else ((larchref17_leaf.f ((J49 x0 x307004).f0) ((J49 x0 x307004).f1) ((J49 x0 x307004).f2) ((J49 x0 x307004).f3) ((J49 x0 x307004).f4) ((J49 x0 x307004).f5)).bind fun t314 => (if t314 = true then (larchref17_Root.j1 k x0 true ((J49 x0 x307004).f0) ((J49 x0 x307004).f1) ((J49 x0 x307004).f2) ((J49 x0 x307004).f3) ((J49 x0 x307004).f4) ((J49 x0 x307004).f5)) else (if ((J49 x0 x307004).f1) = 1 then (if ((J49 x0 x307004).f2) = 1 then (if 0 ≤ ((J49 x0 x307004).f5) then (if ((J49 x0 x307004).f5) < (x0.length : Int) then ((larchref17_sentinel.f ((J49 x0 ((J49 x0 x307004).f5)).f0) ((J49 x0 ((J49 x0 x307004).f5)).f1) ((J49 x0 ((J49 x0 x307004).f5)).f2) ((J49 x0 ((J49 x0 x307004).f5)).f3) ((J49 x0 ((J49 x0 x307004).f5)).f4) ((J49 x0 ((J49 x0 x307004).f5)).f5)).bind fun t316 => (larchref17_Root.j1 k x0 (!t316) ((J49 x0 x307004).f0) ((J49 x0 x307004).f1) ((J49 x0 x307004).f2) ((J49 x0 x307004).f3) ((J49 x0 x307004).f4) ((J49 x0 x307004).f5))) else (none)) else (none)) else (larchref17_Root.j1 k x0 true ((J49 x0 x307004).f0) ((J49 x0 x307004).f1) ((J49 x0 x307004).f2) ((J49 x0 x307004).f3) ((J49 x0 x307004).f4) ((J49 x0 x307004).f5))) else (larchref17_Root.j1 k x0 true ((J49 x0 x307004).f0) ((J49 x0 x307004).f1) ((J49 x0 x307004).f2) ((J49 x0 x307004).f3) ((J49 x0 x307004).f4) ((J49 x0 x307004).f5))))))) else (none)) else (none))
def larchref17_Root.j1 : Nat → List (S49) → Bool → Int → Int → Int → Int → Int → Int → Option (Int × Bool)
 | 0, _, _, _, _, _, _, _, _ => none
 | k + 1, x0, x63, x314000, x314001, x314002, x314003, x314004, x314005 => if x63 = true then (some ((-1), false)) else ((larchref17_Order.f k x0 x314004).bind fun t317 => (larchref17_Root.l0 k x0 t317 0 x314000 x314001 x314002 x314003 x314004 x314005))
def larchref17_Root.l0 : Nat → List (S49) → List Int → Int → Int → Int → Int → Int → Int → Int → Option (Int × Bool)
 | 0, _, _, _, _, _, _, _, _, _ => none
 | k + 1, x0, x6, x7, x314000, x314001, x314002, x314003, x314004, x314005 => if x7 < (x6.length : Int) then (if 0 ≤ x7 then (if 0 ≤ (rd x6 x7) then (if (rd x6 x7) < (x0.length : Int) then (if ((J49 x0 (rd x6 x7)).f1) = 0 then (larchref17_Root.l0 k x0 x6 (wrap64 (x7 + 1)) x314000 x314001 x314002 x314003 x314004 x314005) else (some ((-1), false))) else (none)) else (none)) else (none)) else (some (x314004, true))
end
def larchref17_Root.f (k : Nat) (l0 : List (S49)) : Option (Int × Bool) := if 0 < (l0.length : Int) then ((larchref17_leaf.f ((J49 l0 0).f0) ((J49 l0 0).f1) ((J49 l0 0).f2) ((J49 l0 0).f3) ((J49 l0 0).f4) ((J49 l0 0).f5)).bind fun t307 => (if t307 = true then (larchref17_Root.j0 k l0 true ((J49 l0 0).f0) ((J49 l0 0).f1) ((J49 l0 0).f2) ((J49 l0 0).f3) ((J49 l0 0).f4) ((J49 l0 0).f5)) else (if ((J49 l0 0).f1) = 1 then (if ((J49 l0 0).f2) = 1 then (if 0 ≤ ((J49 l0 0).f5) then (if ((J49 l0 0).f5) < (l0.length : Int) then ((larchref17_sentinel.f ((J49 l0 ((J49 l0 0).f5)).f0) ((J49 l0 ((J49 l0 0).f5)).f1) ((J49 l0 ((J49 l0 0).f5)).f2) ((J49 l0 ((J49 l0 0).f5)).f3) ((J49 l0 ((J49 l0 0).f5)).f4) ((J49 l0 ((J49 l0 0).f5)).f5)).bind fun t309 => (larchref17_Root.j0 k l0 (!t309) ((J49 l0 0).f0) ((J49 l0 0).f1) ((J49 l0 0).f2) ((J49 l0 0).f3) ((J49 l0 0).f4) ((J49 l0 0).f5))) else (none)) else (none)) else (larchref17_Root.j0 k l0 true ((J49 l0 0).f0) ((J49 l0 0).f1) ((J49 l0 0).f2) ((J49 l0 0).f3) ((J49 l0 0).f4) ((J49 l0 0).f5))) else (larchref17_Root.j0 k l0 true ((J49 l0 0).f0) ((J49 l0 0).f1) ((J49 l0 0).f2) ((J49 l0 0).f3) ((J49 l0 0).f4) ((J49 l0 0).f5))))) else (none)
end Go.Proofs.Ytmmjkebboonnkaa.P
/- F33 -/
namespace Go.Proofs.Ytmmjkebboonnkaa.P
open Go.RowKit Go.Proofs.YtmmjkebboonnkaaW.PrintWords Go.Proofs.YtmmjkebboonnkaaW.PrintLast Go.Proofs.YtmmjkebboonnkaaW.PrintMore
attribute [local go_sem] max2_int min2_int max_two min_two max_three min_three max_four min_four   -- for this text's walks alone
set_option linter.unusedVariables false
set_option linter.unusedSimpArgs false
def larchref17_keys.f (k : Nat) (l0 : List (S49)) : Option (List Int × Int) := (larchref17_Check.f k l0).bind fun t337 => (if t337 = 0 then ((larchref17_Root.f k l0).bind fun bt338 => (if bt338.2 = true then (if bt338.1 < 0 then (some (([] : List Int), 0)) else ((larchref17_Order.f k l0 bt338.1).bind fun t340 => (some (t340, 0)))) else (some (([] : List Int), 3)))) else (some (([] : List Int), t337)))
end Go.Proofs.Ytmmjkebboonnkaa.P
/- F2 -/
namespace Go.Proofs.Ytmmjkebboonnkaa.P
open Go.RowKit Go.Proofs.YtmmjkebboonnkaaW.PrintWords Go.Proofs.YtmmjkebboonnkaaW.PrintLast Go.Proofs.YtmmjkebboonnkaaW.PrintMore
attribute [local go_sem] max2_int min2_int max_two min_two max_three min_three max_four min_four   -- for this text's walks alone
set_option linter.unusedVariables false
set_option linter.unusedSimpArgs false
def larchref17_SameInts.l0 : Nat → List Int → List Int → Int → Option (Bool)
 | 0, _, _, _ => none
 | k + 1, x0, x1, x5 => if x5 < (x0.length : Int) then (if 0 ≤ x5 then (if x5 < (x1.length : Int) then (if (rd x0 x5) = (rd x1 x5) then (larchref17_SameInts.l0 k x0 x1 (wrap64 (x5 + 1))) else (some false)) else (none)) else (none)) else (some true)
def larchref17_SameInts.f (k : Nat) (l0 : List Int) (l1 : List Int) : Option (Bool) := if (l0.length : Int) = (l1.length : Int) then (larchref17_SameInts.l0 k l0 l1 0) else (some false)
theorem larchref17_SameInts.mono_l : ∀ k, (∀ y0 y1 y2, LeO (larchref17_SameInts.l0 k y0 y1 y2) (larchref17_SameInts.l0 (k + 1) y0 y1 y2))
 | 0 => fun _ _ _ r h => by simp [larchref17_SameInts.l0] at h
 | k + 1 => by
  have ih0 := larchref17_SameInts.mono_l k
  ·
   intro y0 y1 y2
   unfold larchref17_SameInts.l0
   repeat' first
   | (with_reducible exact ih0 _ _ _)
   | (with_reducible exact LeO.refl _)
   | (with_reducible exact LeO.none _)
   | (with_reducible refine LeO.ite ?_ ?_)
   | (with_reducible refine LeO.bind ?_ (fun _ => ?_))
   | exact ih0 _ _ _
   | exact LeO.none _
   | refine LeO.ite ?_ ?_
   | refine LeO.bind ?_ (fun _ => ?_)
theorem larchref17_SameInts.mono : ∀ a0 a1 k, LeO (larchref17_SameInts.f k a0 a1) (larchref17_SameInts.f (k + 1) a0 a1) := by
 intro a0 a1 k
 have ih0 := larchref17_SameInts.mono_l k
 unfold larchref17_SameInts.f
 repeat' first
   | (with_reducible exact ih0 _ _ _)
   | (with_reducible exact LeO.refl _)
   | (with_reducible exact LeO.none _)
   | (with_reducible refine LeO.ite ?_ ?_)
   | (with_reducible refine LeO.bind ?_ (fun _ => ?_))
   | exact ih0 _ _ _
   | exact LeO.none _
   | refine LeO.ite ?_ ?_
   | refine LeO.bind ?_ (fun _ => ?_)
set_option maxHeartbeats 8000000 in
set_option maxRecDepth 100000 in
theorem larchref17_SameInts.calls (k : Nat) (A0 : Option Addr) (c0 : Nat) (l0 : List Int) (A1 : Option Addr) (c1 : Nat) (l1 : List Int) (r : Bool) (w : World) (hr0 : Kd.C (Kd.int .i64) w A0 l0.length l0) (hc0 : l0.length ≤ c0) (hr1 : Kd.C (Kd.int .i64) w A1 l1.length l1) (hc1 : l1.length ≤ c1) (h : larchref17_SameInts.f k l0 l1 = some r) :
  Calls Try.prog 12 #[.slice A0 l0.length c0, .slice A1 l1.length c1] w fun e w' => e = .returned (.bool r) ∧ Drawn0 w w' := by
 have HR0 := asd hr0
 have HC0 := asd hc0
 clear hr0 hc0
 have HR1 := asd hr1
 have HC1 := asd hc1
 clear hr1 hc1
 have H : (if (l0.length : Int) = (l1.length : Int) then (larchref17_SameInts.l0 k l0 l1 0) else (some false)) = some r := h
 clear h
 by_cases c3 : (l0.length : Int) = (l1.length : Int)
 ·
  rw [if_pos c3] at H
  have c3b0 : ((l0.length : Int) == (l1.length : Int)) = true := beq_iff_eq.mpr c3
  have c3b1 : ((l0.length : Int) != (l1.length : Int)) = false := bne_eq_false_iff_eq.mpr c3
  have c3b2 : (l0.length == l1.length) = true := by first | simpa using c3 | (simp at c3 ⊢; omega)
  clear c3
  have H' := asd H
  clear H
  go_enter Try.func12, Try.ntmps12
  go_wp2
  repeat (go_quiet (fail); try go_wp2)
  go_loopg [5] k (fun kq v5 w' => ∃ (x5_1 : Int), v5 = .int .i64 x5_1 ∧ Aside0 (larchref17_SameInts.l0 kq l0 l1 x5_1 = some r) ∧ Aside0 (kq ≤ k) ∧ Drawn0 w w')
  case atStart => exact ⟨(0), rs, H', ⟨Nat.le_refl _⟩, by repeat (first | exact Drawn0.refl _ | apply Drawn0.step)⟩
  case round =>
   clear H'
   try clear c1
   try clear p2
   try clear c3
   try clear c3b0
   try clear c3b1
   try clear c3b2
   obtain ⟨x5_1, rfl, HA, HK1, ⟨m1, rfl⟩⟩ := hrel
   cases gk with
   | zero => exact absurd HA.out (by simp [larchref17_SameInts.l0])
   | succ k1 =>
    have H := HA.out
    clear HA
    simp only [larchref17_SameInts.l0] at H
    by_cases c4 : x5_1 < (l0.length : Int)
    ·
     rw [if_pos c4] at H
     have c4b0 : decide (x5_1 < (l0.length : Int)) = true := decide_eq_true c4
     clear c4
     by_cases c5 : 0 ≤ x5_1
     ·
      rw [if_pos c5] at H
      have c5b0 : decide (0 ≤ x5_1) = true := decide_eq_true c5
      clear c5
      by_cases c6 : x5_1 < (l1.length : Int)
      ·
       rw [if_pos c6] at H
       have c6b0 : decide (x5_1 < (l1.length : Int)) = true := decide_eq_true c6
       clear c6
       by_cases c7 : (rd l0 x5_1) = (rd l1 x5_1)
       ·
        rw [if_pos c7] at H
        have c7b0 : ((rd l0 x5_1) == (rd l1 x5_1)) = true := beq_iff_eq.mpr c7
        have c7b1 : ((rd l0 x5_1) != (rd l1 x5_1)) = false := bne_eq_false_iff_eq.mpr c7
        clear c7
        have H' := asd H
        clear H
        have p101 : 0 ≤ (x5_1 : Int) := dt
        have q101 : x5_1 < (l0.length : Int) := dt
        obtain ⟨ad101, e101, hx101_0⟩ := Kd.at_int HR0.out x5_1 p101 q101
        cases e101
        replace p101 := eq_true p101
        replace q101 := eq_true q101
        have p102 : 0 ≤ (x5_1 : Int) := dt
        have q102 : x5_1 < (l1.length : Int) := dt
        obtain ⟨ad102, e102, hx102_0⟩ := Kd.at_int HR1.out x5_1 p102 q102
        cases e102
        replace p102 := eq_true p102
        replace q102 := eq_true q102
        go_wp2
        repeat (go_quiet (fail); try go_wp2)
        go_roundg k1
        case measure => have := HK1.out; omega
        case rel => exact ⟨(wrap64 (x5_1 + 1)), rs, H', ⟨by have := HK1.out; omega⟩, by repeat (first | exact Drawn0.refl _ | apply Drawn0.step)⟩
       ·
        rw [if_neg c7] at H
        have c7b0 : ((rd l0 x5_1) == (rd l1 x5_1)) = false := beq_eq_false_iff_ne.mpr c7
        have c7b1 : ((rd l0 x5_1) != (rd l1 x5_1)) = true := bne_iff_ne.mpr c7
        obtain rfl := Option.some.inj H
        have p101 : 0 ≤ (x5_1 : Int) := dt
        have q101 : x5_1 < (l0.length : Int) := dt
        obtain ⟨ad101, e101, hx101_0⟩ := Kd.at_int HR0.out x5_1 p101 q101
        cases e101
        replace p101 := eq_true p101
        replace q101 := eq_true q101
        have p102 : 0 ≤ (x5_1 : Int) := dt
        have q102 : x5_1 < (l1.length : Int) := dt
        obtain ⟨ad102, e102, hx102_0⟩ := Kd.at_int HR1.out x5_1 p102 q102
        cases e102
        replace p102 := eq_true p102
        replace q102 := eq_true q102
        go_wp2
        repeat (go_quiet (fail); try go_wp2)
        go_ret
        exact ⟨by first | rfl | (simp; done) | (simp [*]; done), by repeat (first | exact Drawn0.refl _ | apply Drawn0.step)⟩
      ·
       rw [if_neg c6] at H
       exact absurd H (by simp)
     ·
      rw [if_neg c5] at H
      exact absurd H (by simp)
    ·
     rw [if_neg c4] at H
     have c4b0 : decide (x5_1 < (l0.length : Int)) = false := decide_eq_false c4
     clear c4
     obtain rfl := Option.some.inj H
     go_wp2
     repeat (go_quiet (fail); try go_wp2)
     go_ret
     exact ⟨by first | rfl | (simp; done) | (simp [*]; done), by repeat (first | exact Drawn0.refl _ | apply Drawn0.step)⟩
 ·
  rw [if_neg c3] at H
  have c3b0 : ((l0.length : Int) == (l1.length : Int)) = false := beq_eq_false_iff_ne.mpr c3
  have c3b1 : ((l0.length : Int) != (l1.length : Int)) = true := bne_iff_ne.mpr c3
  have c3b2 : (l0.length == l1.length) = false := by first | simpa using c3 | (simp at c3 ⊢; omega)
  obtain rfl := Option.some.inj H
  go_enter Try.func12, Try.ntmps12
  go_wp2
  repeat (go_quiet (fail); try go_wp2)
  go_ret
  exact ⟨by first | rfl | (simp; done) | (simp [*]; done), by repeat (first | exact Drawn0.refl _ | apply Drawn0.step)⟩
end Go.Proofs.Ytmmjkebboonnkaa.P
/- F25 -/
namespace Go.Proofs.Ytmmjkebboonnkaa.P
open Go.RowKit Go.Proofs.YtmmjkebboonnkaaW.PrintWords Go.Proofs.YtmmjkebboonnkaaW.PrintLast Go.Proofs.YtmmjkebboonnkaaW.PrintMore
attribute [local go_sem] max2_int min2_int max_two min_two max_three min_three max_four min_four   -- for this text's walks alone
set_option linter.unusedVariables false
set_option linter.unusedSimpArgs false
def larchlaw17_a.f  : Option ((List (S49))) := some (([(⟨0, 1, 1, 0, 1, 6⟩ : S49), (⟨0, 1, 1, 0, 2, 5⟩ : S49), (⟨7, 0, 1, 0, 3, 4⟩ : S49), (⟨5, 0, 1, 0, (-1), (-1)⟩ : S49), (⟨7, 0, 1, 0, (-1), (-1)⟩ : S49), (⟨0, 1, 1, 0, (-1), (-1)⟩ : S49), (⟨0, 1, 1, 0, (-1), (-1)⟩ : S49)] : List (S49)))
set_option maxHeartbeats 8000000 in
set_option maxRecDepth 100000 in
theorem larchlaw17_a.calls  (r : List (S49)) (w : World) (h : larchlaw17_a.f  = some r) :
  Calls Try.prog 43 #[] w fun e w' => ∃ v0_ : Value, e = .returned (v0_) ∧ Kd.R k49 49 w' w.heap.size (fun _ => True) v0_ r ∧ Below w.heap.size w w' := by
 have hu49 := Try.underlying49
 have HB := asd (Below.refl w.heap.size w)
 have H : (some (([(⟨0, 1, 1, 0, 1, 6⟩ : S49), (⟨0, 1, 1, 0, 2, 5⟩ : S49), (⟨7, 0, 1, 0, 3, 4⟩ : S49), (⟨5, 0, 1, 0, (-1), (-1)⟩ : S49), (⟨7, 0, 1, 0, (-1), (-1)⟩ : S49), (⟨0, 1, 1, 0, (-1), (-1)⟩ : S49), (⟨0, 1, 1, 0, (-1), (-1)⟩ : S49)] : List (S49)))) = some r := h
 clear h
 obtain ⟨y246, hy246⟩ : ∃ y_ : List (S49), y_ = (([(⟨0, 1, 1, 0, 1, 6⟩ : S49), (⟨0, 1, 1, 0, 2, 5⟩ : S49), (⟨7, 0, 1, 0, 3, 4⟩ : S49), (⟨5, 0, 1, 0, (-1), (-1)⟩ : S49), (⟨7, 0, 1, 0, (-1), (-1)⟩ : S49), (⟨0, 1, 1, 0, (-1), (-1)⟩ : S49), (⟨0, 1, 1, 0, (-1), (-1)⟩ : S49)] : List (S49))) := ⟨_, rfl⟩
 replace H : (some y246) = some r := by first | (rw [hy246]; with_reducible exact H) | (have H2_ := (Option.bind_some _ _).symm.trans H; rw [hy246]; with_reducible exact H2_) | (have H2_ := (Option.bind_some _ _).symm.trans H; with_reducible exact H2_) | with_reducible exact H | (rw [hy246]; exact H) | exact H
 have Ny246 := asd hy246
 clear hy246
 obtain rfl := Option.some.inj H
 go_enter Try.func43, Try.ntmps43
 go_wp2_with (first | ((with_reducible refine gate_dst (N := 8) rfl ?_); refine Kd.R_lit k49 _ 49 ?hg (N := 8) ?hd (xs := ([(⟨0, 1, 1, 0, 1, 6⟩ : S49), (⟨0, 1, 1, 0, 2, 5⟩ : S49), (⟨7, 0, 1, 0, 3, 4⟩ : S49), (⟨5, 0, 1, 0, (-1), (-1)⟩ : S49), (⟨7, 0, 1, 0, (-1), (-1)⟩ : S49), (⟨0, 1, 1, 0, (-1), (-1)⟩ : S49), (⟨0, 1, 1, 0, (-1), (-1)⟩ : S49)] : List (S49))) (inner := [.int .i64 0, .int .i64 1, .int .i64 1, .int .i64 0, .int .i64 1, .int .i64 6, .int .i64 0, .int .i64 1, .int .i64 1, .int .i64 0, .int .i64 2, .int .i64 5, .int .i64 7, .int .i64 0, .int .i64 1, .int .i64 0, .int .i64 3, .int .i64 4, .int .i64 5, .int .i64 0, .int .i64 1, .int .i64 0, .int .i64 (-1), .int .i64 (-1), .int .i64 7, .int .i64 0, .int .i64 1, .int .i64 0, .int .i64 (-1), .int .i64 (-1), .int .i64 0, .int .i64 1, .int .i64 1, .int .i64 0, .int .i64 (-1), .int .i64 (-1), .int .i64 0, .int .i64 1, .int .i64 1, .int .i64 0, .int .i64 (-1), .int .i64 (-1)]) (ok := fun _ => True) (okp := fun _ => True) ?hr ?hp (fun _ hk => hk) trivial (Below.refl _ _) (Nat.le_refl _) (by simp) ?_; (case hd => rfl); (case hg => rfl); (case hr => first | (go_simp; done) | (go_simp; rfl)); (case hp => exact (Reps.c6 (show Kd.M k49 _ _ _ (⟨0, 1, 1, 0, 1, 6⟩ : S49) [.int .i64 0, .int .i64 1, .int .i64 1, .int .i64 0, .int .i64 1, .int .i64 6] from (k49_mkM _ _ _ (⟨0, 1, 1, 0, 1, 6⟩ : S49) )) (Reps.c6 (show Kd.M k49 _ _ _ (⟨0, 1, 1, 0, 2, 5⟩ : S49) [.int .i64 0, .int .i64 1, .int .i64 1, .int .i64 0, .int .i64 2, .int .i64 5] from (k49_mkM _ _ _ (⟨0, 1, 1, 0, 2, 5⟩ : S49) )) (Reps.c6 (show Kd.M k49 _ _ _ (⟨7, 0, 1, 0, 3, 4⟩ : S49) [.int .i64 7, .int .i64 0, .int .i64 1, .int .i64 0, .int .i64 3, .int .i64 4] from (k49_mkM _ _ _ (⟨7, 0, 1, 0, 3, 4⟩ : S49) )) (Reps.c6 (show Kd.M k49 _ _ _ (⟨5, 0, 1, 0, (-1), (-1)⟩ : S49) [.int .i64 5, .int .i64 0, .int .i64 1, .int .i64 0, .int .i64 (-1), .int .i64 (-1)] from (k49_mkM _ _ _ (⟨5, 0, 1, 0, (-1), (-1)⟩ : S49) )) (Reps.c6 (show Kd.M k49 _ _ _ (⟨7, 0, 1, 0, (-1), (-1)⟩ : S49) [.int .i64 7, .int .i64 0, .int .i64 1, .int .i64 0, .int .i64 (-1), .int .i64 (-1)] from (k49_mkM _ _ _ (⟨7, 0, 1, 0, (-1), (-1)⟩ : S49) )) (Reps.c6 (show Kd.M k49 _ _ _ (⟨0, 1, 1, 0, (-1), (-1)⟩ : S49) [.int .i64 0, .int .i64 1, .int .i64 1, .int .i64 0, .int .i64 (-1), .int .i64 (-1)] from (k49_mkM _ _ _ (⟨0, 1, 1, 0, (-1), (-1)⟩ : S49) )) (Reps.c6 (show Kd.M k49 _ _ _ (⟨0, 1, 1, 0, (-1), (-1)⟩ : S49) [.int .i64 0, .int .i64 1, .int .i64 1, .int .i64 0, .int .i64 (-1), .int .i64 (-1)] from (k49_mkM _ _ _ (⟨0, 1, 1, 0, (-1), (-1)⟩ : S49) )) (Reps.none _ _))))))))); intro v247 w1 ho2 hb hg_ hnew_; clear hg_ hnew_; (first | rw [← Ny246.out] at ho2 | (simp only [Int.reduceToNat] at ho2; rw [← Ny246.out] at ho2)); have n0_ := asd (Kd.R_lower ho2 (below_size (skB HB.out))); have n1_ := asd (below_step (skB HB.out) hb); clear HB; have HO248 := n0_; have HB := n1_; clear n0_ n1_; clear hb ho2))
 go_ret
 exact ⟨_, re, skR HO248.out, skB HB.out⟩
end Go.Proofs.Ytmmjkebboonnkaa.P
/- F16 -/
namespace Go.Proofs.Ytmmjkebboonnkaa.P
open Go.RowKit Go.Proofs.YtmmjkebboonnkaaW.PrintWords Go.Proofs.YtmmjkebboonnkaaW.PrintLast Go.Proofs.YtmmjkebboonnkaaW.PrintMore
attribute [local go_sem] max2_int min2_int max_two min_two max_three min_three max_four min_four   -- for this text's walks alone
set_option linter.unusedVariables false
set_option linter.unusedSimpArgs false
def table_path.l0 : Nat → List (S49) → Int → Int → List Int → Option (List Int)
 | 0, _, _, _, _ => none
 | k + 1, x0, x1, x5, x6 => if 0 ≤ x5 then (if x5 < (x0.length : Int) then ((table_isLeaf.f ((J49 x0 x5).f0) ((J49 x0 x5).f1) ((J49 x0 x5).f2) ((J49 x0 x5).f3) ((J49 x0 x5).f4) ((J49 x0 x5).f5)).bind fun t202 => (if t202 = true then (some x6) else (if ((J49 x0 x5).f1) = 1 then (if x6.length < 17592186044416 then (table_path.l0 k x0 x1 ((J49 x0 x5).f4) (x6 ++ [(J49 x0 x5).f4])) else (none)) else (if x1 < ((J49 x0 x5).f0) then (if x6.length < 17592186044416 then (table_path.l0 k x0 x1 ((J49 x0 x5).f4) (x6 ++ [(J49 x0 x5).f4])) else (none)) else (if x6.length < 17592186044416 then (table_path.l0 k x0 x1 ((J49 x0 x5).f5) (x6 ++ [(J49 x0 x5).f5])) else (none)))))) else (none)) else (none)
def table_path.f (k : Nat) (l0 : List (S49)) (a1 : Int) : Option (List Int) := table_path.l0 k l0 a1 0 (([0] : List Int))
theorem table_path.mono_l : ∀ k, (∀ y0 y1 y2 y3, LeO (table_path.l0 k y0 y1 y2 y3) (table_path.l0 (k + 1) y0 y1 y2 y3))
 | 0 => fun _ _ _ _ r h => by simp [table_path.l0] at h
 | k + 1 => by
  have ih0 := table_path.mono_l k
  ·
   intro y0 y1 y2 y3
   unfold table_path.l0
   repeat' first
   | (with_reducible exact ih0 _ _ _ _)
   | (with_reducible exact LeO.refl _)
   | (with_reducible exact LeO.none _)
   | (with_reducible refine LeO.ite ?_ ?_)
   | (with_reducible refine LeO.bind ?_ (fun _ => ?_))
   | exact ih0 _ _ _ _
   | exact LeO.none _
   | refine LeO.ite ?_ ?_
   | refine LeO.bind ?_ (fun _ => ?_)
theorem table_path.mono : ∀ a0 a1 k, LeO (table_path.f k a0 a1) (table_path.f (k + 1) a0 a1) := by
 intro a0 a1 k
 have ih0 := table_path.mono_l k
 unfold table_path.f
 repeat' first
   | (with_reducible exact ih0 _ _ _ _)
   | (with_reducible exact LeO.refl _)
   | (with_reducible exact LeO.none _)
   | (with_reducible refine LeO.ite ?_ ?_)
   | (with_reducible refine LeO.bind ?_ (fun _ => ?_))
   | exact ih0 _ _ _ _
   | exact LeO.none _
   | refine LeO.ite ?_ ?_
   | refine LeO.bind ?_ (fun _ => ?_)
set_option maxHeartbeats 8000000 in
set_option maxRecDepth 100000 in
theorem table_path.calls (k : Nat) (A0 : Option Addr) (c0 : Nat) (l0 : List (S49)) (a1 : Int) (r : List Int) (w : World) (hr0 : Kd.C k49 w A0 l0.length l0) (hc0 : l0.length ≤ c0) (h : table_path.f k l0 a1 = some r) :
  Calls Try.prog 61 #[.slice A0 l0.length c0, .int .i64 a1] w fun e w' => ∃ v0_ : Value, e = .returned (v0_) ∧ Kd.R (Kd.int .i64) 3 w' w.heap.size (fun _ => True) v0_ r ∧ Below w.heap.size w w' := by
 have hu49 := Try.underlying49
 have HR0 := asd hr0
 have HC0 := asd hc0
 clear hr0 hc0
 have HB := asd (Below.refl w.heap.size w)
 have H : (table_path.l0 k l0 a1 0 (([0] : List Int))) = some r := h
 clear h
 obtain ⟨y198, hy198⟩ : ∃ y_ : List Int, y_ = (([0] : List Int)) := ⟨_, rfl⟩
 replace H : (table_path.l0 k l0 a1 0 y198) = some r := by first | (rw [hy198]; with_reducible exact H) | (have H2_ := (Option.bind_some _ _).symm.trans H; rw [hy198]; with_reducible exact H2_) | (have H2_ := (Option.bind_some _ _).symm.trans H; with_reducible exact H2_) | with_reducible exact H | (rw [hy198]; exact H) | exact H
 have Ny198 := asd hy198
 clear hy198
 have H' := asd H
 clear H
 go_enter Try.func61, Try.ntmps61
 go_wp2_with (first | ((with_reducible refine gate_dst (N := 8) rfl ?_); refine Kd.R_lit (Kd.int .i64) _ 3 ?hg (N := 8) ?hd (xs := ([0] : List Int)) (inner := [.int .i64 0]) (ok := fun _ => True) (okp := fun _ => True) ?hr ?hp (fun _ hk => hk) trivial (Below.refl _ _) (Nat.le_refl _) (by simp) ?_; (case hd => rfl); (case hg => rfl); (case hr => first | (go_simp; done) | (go_simp; rfl)); (case hp => exact (Reps.one (show Kd.M (Kd.int .i64) _ _ _ 0 [.int .i64 0] from rfl) (Reps.none _ _))); intro v199 w3 ho4 hb hg_ hnew_; clear hg_ hnew_; (first | rw [← Ny198.out] at ho4 | (simp only [Int.reduceToNat] at ho4; rw [← Ny198.out] at ho4)); have n0_ := asd (Kd.R_lower ho4 (below_size (skB HB.out))); have n1_ := asd (below_step (skB HB.out) hb); clear HB; have HO200 := n0_; have HB := n1_; clear n0_ n1_; clear hb ho4))
 go_loopg [5, 6] k (fun kq v5 v6 w' => ∃ (x5_1 : Int) (x6_1 : List Int), v5 = .int .i64 x5_1 ∧ Aside0 (table_path.l0 kq l0 a1 x5_1 x6_1 = some r) ∧ Aside0 (kq ≤ k) ∧ Aside0 (Kd.R (Kd.int .i64) 3 w' w.heap.size (fun _ => True) v6 x6_1) ∧ Aside0 (Below w.heap.size w w'))
 case atStart => exact ⟨(0), (y198), rs, H', ⟨Nat.le_refl _⟩, ⟨skR HO200.out⟩, ⟨skB HB.out⟩⟩
 case round =>
  clear H'
  try clear p2
  obtain ⟨x5_1, x6_1, rfl, HA, HK1, HO_6, HB⟩ := hrel
  cases gk with
  | zero => exact absurd HA.out (by simp [table_path.l0])
  | succ k1 =>
   have H := HA.out
   clear HA
   simp only [table_path.l0] at H
   by_cases c5 : 0 ≤ x5_1
   ·
    rw [if_pos c5] at H
    have c5b0 : decide (0 ≤ x5_1) = true := decide_eq_true c5
    clear c5
    by_cases c6 : x5_1 < (l0.length : Int)
    ·
     rw [if_pos c6] at H
     have c6b0 : decide (x5_1 < (l0.length : Int)) = true := decide_eq_true c6
     clear c6
     replace H := Option.bind_eq_some_iff.mp H
     obtain ⟨t202, A70, H⟩ := H
     replace H : (if t202 = true then (some x6_1) else (if ((J49 l0 x5_1).f1) = 1 then (if x6_1.length < 17592186044416 then (table_path.l0 k1 l0 a1 ((J49 l0 x5_1).f4) (x6_1 ++ [(J49 l0 x5_1).f4])) else (none)) else (if a1 < ((J49 l0 x5_1).f0) then (if x6_1.length < 17592186044416 then (table_path.l0 k1 l0 a1 ((J49 l0 x5_1).f4) (x6_1 ++ [(J49 l0 x5_1).f4])) else (none)) else (if x6_1.length < 17592186044416 then (table_path.l0 k1 l0 a1 ((J49 l0 x5_1).f5) (x6_1 ++ [(J49 l0 x5_1).f5])) else (none))))) = some r := H
     have A7 := asd A70
     clear A70
     by_cases c8 : t202 = true
     ·
      subst c8
      have H1 : (some x6_1) = some r := by rw [if_pos rfl] at H; exact H
      clear H
      have H := H1
      clear H1
      obtain rfl := Option.some.inj H
      have p201 : 0 ≤ (x5_1 : Int) := dt
      have q201 : x5_1 < (l0.length : Int) := dt
      obtain ⟨ad201, e201, hx201_0, hx201_1, hx201_2, hx201_3, hx201_4, hx201_5⟩ := at_T49 HR0.out x5_1 p201 q201
      cases e201
      replace hx201_0 := skc HB.out hx201_0
      replace hx201_1 := skc HB.out hx201_1
      replace hx201_2 := skc HB.out hx201_2
      replace hx201_3 := skc HB.out hx201_3
      replace hx201_4 := skc HB.out hx201_4
      replace hx201_5 := skc HB.out hx201_5
      replace p201 := eq_true p201
      replace q201 := eq_true q201
      go_wp2_with (first | ((with_reducible refine gate_callee (f := 66) rfl ?_); refine goesL_ (some 13) rfl rfl Try.func66 (by kernel_rfl) rfl #[.agg #[.int .i64 ((J49 l0 x5_1).f0), .int .i64 ((J49 l0 x5_1).f1), .int .i64 ((J49 l0 x5_1).f2), .int .i64 ((J49 l0 x5_1).f3), .int .i64 ((J49 l0 x5_1).f4), .int .i64 ((J49 l0 x5_1).f5)]] rfl ags ?_; (with_reducible refine (table_isLeaf.calls ((J49 l0 x5_1).f0) ((J49 l0 x5_1).f1) ((J49 l0 x5_1).f2) ((J49 l0 x5_1).f3) ((J49 l0 x5_1).f4) ((J49 l0 x5_1).f5) true _ A7.out).mono ?_); rintro e w9 ⟨rfl, hb⟩; refine ⟨_, rfl, ?_⟩; have n0_ := asd (Kd.R_below (skR HO_6.out) hb); have n1_ := asd (below_step (skB HB.out) hb); clear HO_6; clear HB; have HO_6 := n0_; have HB := n1_; clear n0_ n1_; (try clear hb); (try clear hb2); (try clear hk); (try clear hi)))
      go_ret
      exact ⟨_, re, skR HO_6.out, skB HB.out⟩
     ·
      replace c8 := Bool.eq_false_iff.mpr c8
      subst c8
      have H1 : (if ((J49 l0 x5_1).f1) = 1 then (if x6_1.length < 17592186044416 then (table_path.l0 k1 l0 a1 ((J49 l0 x5_1).f4) (x6_1 ++ [(J49 l0 x5_1).f4])) else (none)) else (if a1 < ((J49 l0 x5_1).f0) then (if x6_1.length < 17592186044416 then (table_path.l0 k1 l0 a1 ((J49 l0 x5_1).f4) (x6_1 ++ [(J49 l0 x5_1).f4])) else (none)) else (if x6_1.length < 17592186044416 then (table_path.l0 k1 l0 a1 ((J49 l0 x5_1).f5) (x6_1 ++ [(J49 l0 x5_1).f5])) else (none)))) = some r := by rw [if_neg (show ¬ (false = true) by decide)] at H; exact H
      clear H
      have H := H1
      clear H1
      by_cases c10 : ((J49 l0 x5_1).f1) = 1
      ·
       rw [if_pos c10] at H
       have c10b0 : (((J49 l0 x5_1).f1) == 1) = true := beq_iff_eq.mpr c10
       have c10b1 : (((J49 l0 x5_1).f1) != 1) = false := bne_eq_false_iff_eq.mpr c10
       clear c10
       by_cases c11 : x6_1.length < 17592186044416
       ·
        rw [if_pos c11] at H
        have LMc11 := asd c11
        clear c11
        obtain ⟨y205, hy205⟩ : ∃ y_ : List Int, y_ = (x6_1 ++ [(J49 l0 x5_1).f4]) := ⟨_, rfl⟩
        replace H : (table_path.l0 k1 l0 a1 ((J49 l0 x5_1).f4) y205) = some r := by first | (rw [hy205]; with_reducible exact H) | (have H2_ := (Option.bind_some _ _).symm.trans H; rw [hy205]; with_reducible exact H2_) | (have H2_ := (Option.bind_some _ _).symm.trans H; with_reducible exact H2_) | with_reducible exact H | (rw [hy205]; exact H) | exact H
        have Ny205 := asd hy205
        clear hy205
        have H' := asd H
        clear H
        have p201 : 0 ≤ (x5_1 : Int) := dt
        have q201 : x5_1 < (l0.length : Int) := dt
        obtain ⟨ad201, e201, hx201_0, hx201_1, hx201_2, hx201_3, hx201_4, hx201_5⟩ := at_T49 HR0.out x5_1 p201 q201
        cases e201
        replace hx201_0 := skc HB.out hx201_0
        replace hx201_1 := skc HB.out hx201_1
        replace hx201_2 := skc HB.out hx201_2
        replace hx201_3 := skc HB.out hx201_3
        replace hx201_4 := skc HB.out hx201_4
        replace hx201_5 := skc HB.out hx201_5
        replace p201 := eq_true p201
        replace q201 := eq_true q201
        go_wp2_with (first | ((with_reducible refine gate_callee (f := 66) rfl ?_); refine goesL_ (some 13) rfl rfl Try.func66 (by kernel_rfl) rfl #[.agg #[.int .i64 ((J49 l0 x5_1).f0), .int .i64 ((J49 l0 x5_1).f1), .int .i64 ((J49 l0 x5_1).f2), .int .i64 ((J49 l0 x5_1).f3), .int .i64 ((J49 l0 x5_1).f4), .int .i64 ((J49 l0 x5_1).f5)]] rfl ags ?_; (with_reducible refine (table_isLeaf.calls ((J49 l0 x5_1).f0) ((J49 l0 x5_1).f1) ((J49 l0 x5_1).f2) ((J49 l0 x5_1).f3) ((J49 l0 x5_1).f4) ((J49 l0 x5_1).f5) false _ A7.out).mono ?_); rintro e w12 ⟨rfl, hb⟩; refine ⟨_, rfl, ?_⟩; have n0_ := asd (Kd.R_below (skR HO_6.out) hb); have n1_ := asd (below_step (skB HB.out) hb); clear HO_6; clear HB; have HO_6 := n0_; have HB := n1_; clear n0_ n1_; (try clear hb); (try clear hb2); (try clear hk); (try clear hi); have p203 : 0 ≤ (x5_1 : Int) := dt; have q203 : x5_1 < (l0.length : Int) := dt; obtain ⟨ad203, e203, hx203_0, hx203_1, hx203_2, hx203_3, hx203_4, hx203_5⟩ := at_T49 HR0.out x5_1 p203 q203; obtain rfl : ad201 = ad203 := (by injection e203); replace hx203_0 := skc HB.out hx203_0; replace hx203_1 := skc HB.out hx203_1; replace hx203_2 := skc HB.out hx203_2; replace hx203_3 := skc HB.out hx203_3; replace hx203_4 := skc HB.out hx203_4; replace hx203_5 := skc HB.out hx203_5; replace p203 := eq_true p203; replace q203 := eq_true q203; have p204 : 0 ≤ (x5_1 : Int) := dt; have q204 : x5_1 < (l0.length : Int) := dt; obtain ⟨ad204, e204, hx204_0, hx204_1, hx204_2, hx204_3, hx204_4, hx204_5⟩ := at_T49 HR0.out x5_1 p204 q204; obtain rfl : ad201 = ad204 := (by injection e204); replace hx204_0 := skc HB.out hx204_0; replace hx204_1 := skc HB.out hx204_1; replace hx204_2 := skc HB.out hx204_2; replace hx204_3 := skc HB.out hx204_3; replace hx204_4 := skc HB.out hx204_4; replace hx204_5 := skc HB.out hx204_5; replace p204 := eq_true p204; replace q204 := eq_true q204) | ((with_reducible refine gate_builtin (b := .append) (xs := #[.tmp 40, .tmp 42]) rfl ?_); at_builtin; refine Kd.R_append (Kd.int .i64) (w0 := w) w.heap.size rfl (.tmp 40) (.tmp 42) 23 3 (.int .i64 0) 8 rfl Try.underlying23 info3 rfl (by decide) (by omega) u6 x6_1 ((J49 l0 x5_1).f4) [.int .i64 ((J49 l0 x5_1).f4)] (fun _ => True) (fun _ => False) rfl rfl ?aP (fun _ hk => hk.elim) ?aF ?aO ?aB ?aS ?aL ?_; (case aP => exact rfl); (case aB => exact (skB HB.out)); (case aF => exact (fun _ _ => trivial)); (case aO => exact (skR HO_6.out)); (case aS => exact (below_size (skB HB.out))); (case aL => have := LMc11.out; omega); intro v206 w13 ho hb hg hat; rw [← Ny205.out] at ho; have n0_ := asd (hb); have n1_ := asd (ho); clear HB; clear HO_6; have HB := n0_; have HO207 := n1_; clear n0_ n1_; clear ho hb hg hat))
        go_roundg k1
        case measure => have := HK1.out; omega
        case rel => exact ⟨((J49 l0 x5_1).f4), (y205), rs, H', ⟨by have := HK1.out; omega⟩, ⟨skR HO207.out⟩, ⟨skB HB.out⟩⟩
       ·
        rw [if_neg c11] at H
        exact absurd H (by simp)
      ·
       rw [if_neg c10] at H
       have c10b0 : (((J49 l0 x5_1).f1) == 1) = false := beq_eq_false_iff_ne.mpr c10
       have c10b1 : (((J49 l0 x5_1).f1) != 1) = true := bne_iff_ne.mpr c10
       by_cases c14 : a1 < ((J49 l0 x5_1).f0)
       ·
        rw [if_pos c14] at H
        have c14b0 : decide (a1 < ((J49 l0 x5_1).f0)) = true := decide_eq_true c14
        clear c14
        by_cases c15 : x6_1.length < 17592186044416
        ·
         rw [if_pos c15] at H
         have LMc15 := asd c15
         clear c15
         obtain ⟨y210, hy210⟩ : ∃ y_ : List Int, y_ = (x6_1 ++ [(J49 l0 x5_1).f4]) := ⟨_, rfl⟩
         replace H : (table_path.l0 k1 l0 a1 ((J49 l0 x5_1).f4) y210) = some r := by first | (rw [hy210]; with_reducible exact H) | (have H2_ := (Option.bind_some _ _).symm.trans H; rw [hy210]; with_reducible exact H2_) | (have H2_ := (Option.bind_some _ _).symm.trans H; with_reducible exact H2_) | with_reducible exact H | (rw [hy210]; exact H) | exact H
         have Ny210 := asd hy210
         clear hy210
         have H' := asd H
         clear H
         have p201 : 0 ≤ (x5_1 : Int) := dt
         have q201 : x5_1 < (l0.length : Int) := dt
         obtain ⟨ad201, e201, hx201_0, hx201_1, hx201_2, hx201_3, hx201_4, hx201_5⟩ := at_T49 HR0.out x5_1 p201 q201
         cases e201
         replace hx201_0 := skc HB.out hx201_0
         replace hx201_1 := skc HB.out hx201_1
         replace hx201_2 := skc HB.out hx201_2
         replace hx201_3 := skc HB.out hx201_3
         replace hx201_4 := skc HB.out hx201_4
         replace hx201_5 := skc HB.out hx201_5
         replace p201 := eq_true p201
         replace q201 := eq_true q201
         go_wp2_with (first | ((with_reducible refine gate_callee (f := 66) rfl ?_); refine goesL_ (some 13) rfl rfl Try.func66 (by kernel_rfl) rfl #[.agg #[.int .i64 ((J49 l0 x5_1).f0), .int .i64 ((J49 l0 x5_1).f1), .int .i64 ((J49 l0 x5_1).f2), .int .i64 ((J49 l0 x5_1).f3), .int .i64 ((J49 l0 x5_1).f4), .int .i64 ((J49 l0 x5_1).f5)]] rfl ags ?_; (with_reducible refine (table_isLeaf.calls ((J49 l0 x5_1).f0) ((J49 l0 x5_1).f1) ((J49 l0 x5_1).f2) ((J49 l0 x5_1).f3) ((J49 l0 x5_1).f4) ((J49 l0 x5_1).f5) false _ A7.out).mono ?_); rintro e w16 ⟨rfl, hb⟩; refine ⟨_, rfl, ?_⟩; have n0_ := asd (Kd.R_below (skR HO_6.out) hb); have n1_ := asd (below_step (skB HB.out) hb); clear HO_6; clear HB; have HO_6 := n0_; have HB := n1_; clear n0_ n1_; (try clear hb); (try clear hb2); (try clear hk); (try clear hi); have p203 : 0 ≤ (x5_1 : Int) := dt; have q203 : x5_1 < (l0.length : Int) := dt; obtain ⟨ad203, e203, hx203_0, hx203_1, hx203_2, hx203_3, hx203_4, hx203_5⟩ := at_T49 HR0.out x5_1 p203 q203; obtain rfl : ad201 = ad203 := (by injection e203); replace hx203_0 := skc HB.out hx203_0; replace hx203_1 := skc HB.out hx203_1; replace hx203_2 := skc HB.out hx203_2; replace hx203_3 := skc HB.out hx203_3; replace hx203_4 := skc HB.out hx203_4; replace hx203_5 := skc HB.out hx203_5; replace p203 := eq_true p203; replace q203 := eq_true q203; have p208 : 0 ≤ (x5_1 : Int) := dt; have q208 : x5_1 < (l0.length : Int) := dt; obtain ⟨ad208, e208, hx208_0, hx208_1, hx208_2, hx208_3, hx208_4, hx208_5⟩ := at_T49 HR0.out x5_1 p208 q208; obtain rfl : ad201 = ad208 := (by injection e208); replace hx208_0 := skc HB.out hx208_0; replace hx208_1 := skc HB.out hx208_1; replace hx208_2 := skc HB.out hx208_2; replace hx208_3 := skc HB.out hx208_3; replace hx208_4 := skc HB.out hx208_4; replace hx208_5 := skc HB.out hx208_5; replace p208 := eq_true p208; replace q208 := eq_true q208; have p209 : 0 ≤ (x5_1 : Int) := dt; have q209 : x5_1 < (l0.length : Int) := dt; obtain ⟨ad209, e209, hx209_0, hx209_1, hx209_2, hx209_3, hx209_4, hx209_5⟩ := at_T49 HR0.out x5_1 p209 q209; obtain rfl : ad201 = ad209 := (by injection e209); replace hx209_0 := skc HB.out hx209_0; replace hx209_1 := skc HB.out hx209_1; replace hx209_2 := skc HB.out hx209_2; replace hx209_3 := skc HB.out hx209_3; replace hx209_4 := skc HB.out hx209_4; replace hx209_5 := skc HB.out hx209_5; replace p209 := eq_true p209; replace q209 := eq_true q209) | ((with_reducible refine gate_builtin (b := .append) (xs := #[.tmp 40, .tmp 42]) rfl ?_); at_builtin; refine Kd.R_append (Kd.int .i64) (w0 := w) w.heap.size rfl (.tmp 40) (.tmp 42) 23 3 (.int .i64 0) 8 rfl Try.underlying23 info3 rfl (by decide) (by omega) u6 x6_1 ((J49 l0 x5_1).f4) [.int .i64 ((J49 l0 x5_1).f4)] (fun _ => True) (fun _ => False) rfl rfl ?aP (fun _ hk => hk.elim) ?aF ?aO ?aB ?aS ?aL ?_; (case aP => exact rfl); (case aB => exact (skB HB.out)); (case aF => exact (fun _ _ => trivial)); (case aO => exact (skR HO_6.out)); (case aS => exact (below_size (skB HB.out))); (case aL => have := LMc15.out; omega); intro v211 w17 ho hb hg hat; rw [← Ny210.out] at ho; have n0_ := asd (hb); have n1_ := asd (ho); clear HB; clear HO_6; have HB := n0_; have HO212 := n1_; clear n0_ n1_; clear ho hb hg hat))
         go_roundg k1
         case measure => have := HK1.out; omega
         case rel => exact ⟨((J49 l0 x5_1).f4), (y210), rs, H', ⟨by have := HK1.out; omega⟩, ⟨skR HO212.out⟩, ⟨skB HB.out⟩⟩
        ·
         rw [if_neg c15] at H
         exact absurd H (by simp)
       ·
        rw [if_neg c14] at H
        have c14b0 : decide (a1 < ((J49 l0 x5_1).f0)) = false := decide_eq_false c14
        clear c14
        by_cases c18 : x6_1.length < 17592186044416
        ·
         rw [if_pos c18] at H
         have LMc18 := asd c18
         clear c18
         obtain ⟨y214, hy214⟩ : ∃ y_ : List Int, y_ = (x6_1 ++ [(J49 l0 x5_1).f5]) := ⟨_, rfl⟩
         replace H : (table_path.l0 k1 l0 a1 ((J49 l0 x5_1).f5) y214) = some r := by first | (rw [hy214]; with_reducible exact H) | (have H2_ := (Option.bind_some _ _).symm.trans H; rw [hy214]; with_reducible exact H2_) | (have H2_ := (Option.bind_some _ _).symm.trans H; with_reducible exact H2_) | with_reducible exact H | (rw [hy214]; exact H) | exact H
         have Ny214 := asd hy214
         clear hy214
         have H' := asd H
         clear H
         have p201 : 0 ≤ (x5_1 : Int) := dt
         have q201 : x5_1 < (l0.length : Int) := dt
         obtain ⟨ad201, e201, hx201_0, hx201_1, hx201_2, hx201_3, hx201_4, hx201_5⟩ := at_T49 HR0.out x5_1 p201 q201
         cases e201
         replace hx201_0 := skc HB.out hx201_0
         replace hx201_1 := skc HB.out hx201_1
         replace hx201_2 := skc HB.out hx201_2
         replace hx201_3 := skc HB.out hx201_3
         replace hx201_4 := skc HB.out hx201_4
         replace hx201_5 := skc HB.out hx201_5
         replace p201 := eq_true p201
         replace q201 := eq_true q201
         go_wp2_with (first | ((with_reducible refine gate_callee (f := 66) rfl ?_); refine goesL_ (some 13) rfl rfl Try.func66 (by kernel_rfl) rfl #[.agg #[.int .i64 ((J49 l0 x5_1).f0), .int .i64 ((J49 l0 x5_1).f1), .int .i64 ((J49 l0 x5_1).f2), .int .i64 ((J49 l0 x5_1).f3), .int .i64 ((J49 l0 x5_1).f4), .int .i64 ((J49 l0 x5_1).f5)]] rfl ags ?_; (with_reducible refine (table_isLeaf.calls ((J49 l0 x5_1).f0) ((J49 l0 x5_1).f1) ((J49 l0 x5_1).f2) ((J49 l0 x5_1).f3) ((J49 l0 x5_1).f4) ((J49 l0 x5_1).f5) false _ A7.out).mono ?_); rintro e w19 ⟨rfl, hb⟩; refine ⟨_, rfl, ?_⟩; have n0_ := asd (Kd.R_below (skR HO_6.out) hb); have n1_ := asd (below_step (skB HB.out) hb); clear HO_6; clear HB; have HO_6 := n0_; have HB := n1_; clear n0_ n1_; (try clear hb); (try clear hb2); (try clear hk); (try clear hi); have p203 : 0 ≤ (x5_1 : Int) := dt; have q203 : x5_1 < (l0.length : Int) := dt; obtain ⟨ad203, e203, hx203_0, hx203_1, hx203_2, hx203_3, hx203_4, hx203_5⟩ := at_T49 HR0.out x5_1 p203 q203; obtain rfl : ad201 = ad203 := (by injection e203); replace hx203_0 := skc HB.out hx203_0; replace hx203_1 := skc HB.out hx203_1; replace hx203_2 := skc HB.out hx203_2; replace hx203_3 := skc HB.out hx203_3; replace hx203_4 := skc HB.out hx203_4; replace hx203_5 := skc HB.out hx203_5; replace p203 := eq_true p203; replace q203 := eq_true q203; have p208 : 0 ≤ (x5_1 : Int) := dt; have q208 : x5_1 < (l0.length : Int) := dt; obtain ⟨ad208, e208, hx208_0, hx208_1, hx208_2, hx208_3, hx208_4, hx208_5⟩ := at_T49 HR0.out x5_1 p208 q208; obtain rfl : ad201 = ad208 := (by injection e208); replace hx208_0 := skc HB.out hx208_0; replace hx208_1 := skc HB.out hx208_1; replace hx208_2 := skc HB.out hx208_2; replace hx208_3 := skc HB.out hx208_3; replace hx208_4 := skc HB.out hx208_4; replace hx208_5 := skc HB.out hx208_5; replace p208 := eq_true p208; replace q208 := eq_true q208; have p213 : 0 ≤ (x5_1 : Int) := dt; have q213 : x5_1 < (l0.length : Int) := dt; obtain ⟨ad213, e213, hx213_0, hx213_1, hx213_2, hx213_3, hx213_4, hx213_5⟩ := at_T49 HR0.out x5_1 p213 q213; obtain rfl : ad201 = ad213 := (by injection e213); replace hx213_0 := skc HB.out hx213_0; replace hx213_1 := skc HB.out hx213_1; replace hx213_2 := skc HB.out hx213_2; replace hx213_3 := skc HB.out hx213_3; replace hx213_4 := skc HB.out hx213_4; replace hx213_5 := skc HB.out hx213_5; replace p213 := eq_true p213; replace q213 := eq_true q213) | ((with_reducible refine gate_builtin (b := .append) (xs := #[.tmp 40, .tmp 42]) rfl ?_); at_builtin; refine Kd.R_append (Kd.int .i64) (w0 := w) w.heap.size rfl (.tmp 40) (.tmp 42) 23 3 (.int .i64 0) 8 rfl Try.underlying23 info3 rfl (by decide) (by omega) u6 x6_1 ((J49 l0 x5_1).f5) [.int .i64 ((J49 l0 x5_1).f5)] (fun _ => True) (fun _ => False) rfl rfl ?aP (fun _ hk => hk.elim) ?aF ?aO ?aB ?aS ?aL ?_; (case aP => exact rfl); (case aB => exact (skB HB.out)); (case aF => exact (fun _ _ => trivial)); (case aO => exact (skR HO_6.out)); (case aS => exact (below_size (skB HB.out))); (case aL => have := LMc18.out; omega); intro v215 w20 ho hb hg hat; rw [← Ny214.out] at ho; have n0_ := asd (hb); have n1_ := asd (ho); clear HB; clear HO_6; have HB := n0_; have HO216 := n1_; clear n0_ n1_; clear ho hb hg hat))
         go_roundg k1
         case measure => have := HK1.out; omega
         case rel => exact ⟨((J49 l0 x5_1).f5), (y214), rs, H', ⟨by have := HK1.out; omega⟩, ⟨skR HO216.out⟩, ⟨skB HB.out⟩⟩
        ·
         rw [if_neg c18] at H
         exact absurd H (by simp)
    ·
     rw [if_neg c6] at H
     exact absurd H (by simp)
   ·
    rw [if_neg c5] at H
    exact absurd H (by simp)
end Go.Proofs.Ytmmjkebboonnkaa.P
/- F27 -/
namespace Go.Proofs.Ytmmjkebboonnkaa.P
open Go.RowKit Go.Proofs.YtmmjkebboonnkaaW.PrintWords Go.Proofs.YtmmjkebboonnkaaW.PrintLast Go.Proofs.YtmmjkebboonnkaaW.PrintMore
attribute [local go_sem] max2_int min2_int max_two min_two max_three min_three max_four min_four   -- for this text's walks alone
set_option linter.unusedVariables false
set_option linter.unusedSimpArgs false
def larchlaw17_copied.f (l0 : List (S49)) : Option ((List (S49))) := (some (([] : List (S49)) : List (S49))).bind fun y276 => (if y276.length + l0.length < 2932031007402 then (some (y276 ++ l0)) else (none))
set_option maxHeartbeats 8000000 in
set_option maxRecDepth 100000 in
theorem larchlaw17_copied.calls (A0 : Option Addr) (c0 : Nat) (l0 : List (S49)) (r : List (S49)) (w : World) (hr0 : Kd.C k49 w A0 l0.length l0) (hc0 : l0.length ≤ c0) (h : larchlaw17_copied.f l0 = some r) :
  Calls Try.prog 10 #[.slice A0 l0.length c0] w fun e w' => ∃ v0_ : Value, e = .returned (v0_) ∧ Kd.R k49 49 w' w.heap.size (fun _ => True) v0_ r ∧ Below w.heap.size w w' := by
 have HR0 := asd hr0
 have HC0 := asd hc0
 clear hr0 hc0
 have HB := asd (Below.refl w.heap.size w)
 have H : ((some (([] : List (S49)) : List (S49))).bind fun y276 => (if y276.length + l0.length < 2932031007402 then (some (y276 ++ l0)) else (none))) = some r := h
 clear h
 obtain ⟨y276, hy276⟩ : ∃ y_ : List (S49), y_ = (([] : List (S49))) := ⟨_, rfl⟩
 replace H : (if y276.length + l0.length < 2932031007402 then (some (y276 ++ l0)) else (none)) = some r := by first | (rw [hy276]; with_reducible exact H) | (have H2_ := (Option.bind_some _ _).symm.trans H; rw [hy276]; with_reducible exact H2_) | (have H2_ := (Option.bind_some _ _).symm.trans H; with_reducible exact H2_) | with_reducible exact H | (rw [hy276]; exact H) | exact H
 have Ny276 := asd hy276
 clear hy276
 by_cases c2 : y276.length + l0.length < 2932031007402
 ·
  rw [if_pos c2] at H
  have LMc2 := asd c2
  clear c2
  obtain ⟨y279, hy279⟩ : ∃ y_ : List (S49), y_ = (y276 ++ l0) := ⟨_, rfl⟩
  replace H : (some y279) = some r := by first | (rw [hy279]; with_reducible exact H) | (have H2_ := (Option.bind_some _ _).symm.trans H; rw [hy279]; with_reducible exact H2_) | (have H2_ := (Option.bind_some _ _).symm.trans H; with_reducible exact H2_) | with_reducible exact H | (rw [hy279]; exact H) | exact H
  have Ny279 := asd hy279
  clear hy279
  obtain rfl := Option.some.inj H
  go_enter Try.func10, Try.ntmps10
  go_wp2_with (first | ((with_reducible refine gate_dst (N := 3) rfl ?_); refine Kd.R_lit k49 _ 49 ?hg (N := 3) ?hd (xs := ([] : List (S49))) (inner := []) (ok := fun _ => True) (okp := fun _ => True) ?hr ?hp (fun _ hk => hk) trivial (Below.refl _ _) (Nat.le_refl _) (by simp) ?_; (case hd => rfl); (case hg => rfl); (case hr => first | (go_simp; done) | (go_simp; rfl)); (case hp => exact (Reps.none _ _)); intro v277 w3 ho4 hb hg_ hnew_; clear hg_ hnew_; (first | rw [← Ny276.out] at ho4 | (simp only [Int.reduceToNat] at ho4; rw [← Ny276.out] at ho4)); have n0_ := asd (Kd.R_lower ho4 (below_size (skB HB.out))); have n1_ := asd (below_step (skB HB.out) hb); clear HB; have HO278 := n0_; have HB := n1_; clear n0_ n1_; clear hb ho4) | ((with_reducible refine gate_builtin (b := .append) (xs := #[.tmp 3, .tmp 4]) rfl ?_); at_builtin; refine Kd.R_append_rows k49 (w0 := w) w.heap.size rfl (.tmp 3) (.tmp 4) 22 49 (.agg #[(.int .i64 0), (.int .i64 0), (.int .i64 0), (.int .i64 0), (.int .i64 0), (.int .i64 0)]) 48 rfl Try.underlying22 info49 rfl (by decide) (by omega) v277 y276 l0 _ _ _ (fun _ => True) (fun _ => False) rfl rfl ?aO ?aR (fun _ _ h => h) (fun _ h => h.elim) ?aF ?aB ?aS ?aL ?_; (case aR => exact skC (Kd.C_below HR0.out HB.out)); (case aB => exact (skB HB.out)); (case aF => exact (fun _ _ => trivial)); (case aO => exact (skR HO278.out)); (case aS => exact (below_size (skB HB.out))); (case aL => have := LMc2.out; omega); intro v280 w5 ho hb hg hat; rw [← Ny279.out] at ho; have n0_ := asd (hb); have n1_ := asd (ho); clear HB; clear HO278; have HB := n0_; have HO281 := n1_; clear n0_ n1_; clear ho hb hg hat))
  go_ret
  exact ⟨_, re, skR HO281.out, skB HB.out⟩
 ·
  rw [if_neg c2] at H
  exact absurd H (by simp)
end Go.Proofs.Ytmmjkebboonnkaa.P
/- F44 -/
namespace Go.Proofs.Ytmmjkebboonnkaa.P
open Go.RowKit Go.Proofs.YtmmjkebboonnkaaW.PrintWords Go.Proofs.YtmmjkebboonnkaaW.PrintLast Go.Proofs.YtmmjkebboonnkaaW.PrintMore
attribute [local go_sem] max2_int min2_int max_two min_two max_three min_three max_four min_four   -- for this text's walks alone
set_option linter.unusedVariables false
set_option linter.unusedSimpArgs false
end Go.Proofs.Ytmmjkebboonnkaa.P
/- F48 -/
namespace Go.Proofs.Ytmmjkebboonnkaa.P
open Go.RowKit Go.Proofs.YtmmjkebboonnkaaW.PrintWords Go.Proofs.YtmmjkebboonnkaaW.PrintLast Go.Proofs.YtmmjkebboonnkaaW.PrintMore
attribute [local go_sem] max2_int min2_int max_two min_two max_three min_three max_four min_four   -- for this text's walks alone
set_option linter.unusedVariables false
set_option linter.unusedSimpArgs false
attribute [local go_sem high] eqA49
end Go.Proofs.Ytmmjkebboonnkaa.P
/- F34 -/
namespace Go.Proofs.Ytmmjkebboonnkaa.P
open Go.RowKit Go.Proofs.YtmmjkebboonnkaaW.PrintWords Go.Proofs.YtmmjkebboonnkaaW.PrintLast Go.Proofs.YtmmjkebboonnkaaW.PrintMore
attribute [local go_sem] max2_int min2_int max_two min_two max_three min_three max_four min_four   -- for this text's walks alone
set_option linter.unusedVariables false
set_option linter.unusedSimpArgs false
def larchref17_reds.l0 : Nat → List (S49) → List Int → List Bool → Int → Option (List Bool)
 | 0, _, _, _, _ => none
 | k + 1, x0, x1, x5, x6 => if x6 < (x1.length : Int) then (if 0 ≤ x6 then (if 0 ≤ (rd x1 x6) then (if (rd x1 x6) < (x0.length : Int) then ((larchref17_leaf.f ((J49 x0 (rd x1 x6)).f0) ((J49 x0 (rd x1 x6)).f1) ((J49 x0 (rd x1 x6)).f2) ((J49 x0 (rd x1 x6)).f3) ((J49 x0 (rd x1 x6)).f4) ((J49 x0 (rd x1 x6)).f5)).bind fun t349 => (if t349 = true then (larchref17_reds.l0 k x0 x1 x5 (wrap64 (x6 + 1))) else (if ((J49 x0 (rd x1 x6)).f2) = 0 then (if 0 ≤ ((J49 x0 (rd x1 x6)).f4) then (if ((J49 x0 (rd x1 x6)).f4) < (x0.length : Int) then (if ((J49 x0 (rd x1 x6)).f4) < (x5.length : Int) then (if 0 ≤ ((J49 x0 (rd x1 x6)).f5) then (if ((J49 x0 (rd x1 x6)).f5) < (x0.length : Int) then (if ((J49 x0 (rd x1 x6)).f5) < (x5.length : Int) then (larchref17_reds.l0 k x0 x1 ((x5.set (((J49 x0 (rd x1 x6)).f4) : Int).toNat (((J49 x0 ((J49 x0 (rd x1 x6)).f4)).f2) == 0)).set (((J49 x0 (rd x1 x6)).f5) : Int).toNat (((J49 x0 ((J49 x0 (rd x1 x6)).f5)).f2) == 0)) (wrap64 (x6 + 1))) else (none)) else (none)) else (none)) else (none)) else (none)) else (none)) else (larchref17_reds.l0 k x0 x1 x5 (wrap64 (x6 + 1)))))) else (none)) else (none)) else (none)) else (some x5)
def larchref17_reds.f (k : Nat) (l0 : List (S49)) (l1 : List Int) : Option (List Bool) := if 0 ≤ (l0.length : Int) then (if ((l0.length : Int) : Int).toNat ≤ 281474976710656 then (larchref17_reds.l0 k l0 l1 (List.replicate ((l0.length : Int) : Int).toNat false) 0) else (none)) else (none)
end Go.Proofs.Ytmmjkebboonnkaa.P
/- F35 -/
namespace Go.Proofs.Ytmmjkebboonnkaa.P
open Go.RowKit Go.Proofs.YtmmjkebboonnkaaW.PrintWords Go.Proofs.YtmmjkebboonnkaaW.PrintLast Go.Proofs.YtmmjkebboonnkaaW.PrintMore
attribute [local go_sem] max2_int min2_int max_two min_two max_three min_three max_four min_four   -- for this text's walks alone
set_option linter.unusedVariables false
set_option linter.unusedSimpArgs false
def larchref17_Reds.l0 : Nat → List Int → List Bool → List Int → Int → Option (List Int × Int)
 | 0, _, _, _, _ => none
 | k + 1, x4, x6, x7, x8 => if x8 < (x4.length : Int) then (if 0 ≤ x8 then (if 0 ≤ (rd x4 x8) then (if (rd x4 x8) < (x6.length : Int) then (if rdOf false x6 (rd x4 x8) = true then (if x7.length < 17592186044416 then (larchref17_Reds.l0 k x4 x6 (x7 ++ [rd x4 x8]) (wrap64 (x8 + 1))) else (none)) else (larchref17_Reds.l0 k x4 x6 x7 (wrap64 (x8 + 1)))) else (none)) else (none)) else (none)) else (some (x7, 0))
def larchref17_Reds.f (k : Nat) (l0 : List (S49)) : Option (List Int × Int) := (larchref17_keys.f k l0).bind fun bt354 => (if bt354.2 = 0 then ((larchref17_reds.f k l0 bt354.1).bind fun t358 => (larchref17_Reds.l0 k bt354.1 t358 ([] : List Int) 0)) else (some (([] : List Int), bt354.2)))
end Go.Proofs.Ytmmjkebboonnkaa.P
/- F36 -/
namespace Go.Proofs.Ytmmjkebboonnkaa.P
open Go.RowKit Go.Proofs.YtmmjkebboonnkaaW.PrintWords Go.Proofs.YtmmjkebboonnkaaW.PrintLast Go.Proofs.YtmmjkebboonnkaaW.PrintMore
attribute [local go_sem] max2_int min2_int max_two min_two max_three min_three max_four min_four   -- for this text's walks alone
set_option linter.unusedVariables false
set_option linter.unusedSimpArgs false
def larchref17_Overs.l0 : Nat → List (S49) → List Int → List Int → Int → Option (List Int × Int)
 | 0, _, _, _, _ => none
 | k + 1, x0, x4, x6, x7 => if x7 < (x4.length : Int) then (if 0 ≤ x7 then (if 0 ≤ (rd x4 x7) then (if (rd x4 x7) < (x0.length : Int) then (if ((J49 x0 (rd x4 x7)).f2) > 1 then (if x6.length < 17592186044416 then (larchref17_Overs.l0 k x0 x4 (x6 ++ [rd x4 x7]) (wrap64 (x7 + 1))) else (none)) else (larchref17_Overs.l0 k x0 x4 x6 (wrap64 (x7 + 1)))) else (none)) else (none)) else (none)) else (some (x6, 0))
def larchref17_Overs.f (k : Nat) (l0 : List (S49)) : Option (List Int × Int) := (larchref17_keys.f k l0).bind fun bt367 => (if bt367.2 = 0 then (larchref17_Overs.l0 k l0 bt367.1 ([] : List Int) 0) else (some (([] : List Int), bt367.2)))
end Go.Proofs.Ytmmjkebboonnkaa.P
/- F37 -/
namespace Go.Proofs.Ytmmjkebboonnkaa.P
open Go.RowKit Go.Proofs.YtmmjkebboonnkaaW.PrintWords Go.Proofs.YtmmjkebboonnkaaW.PrintLast Go.Proofs.YtmmjkebboonnkaaW.PrintMore
attribute [local go_sem] max2_int min2_int max_two min_two max_three min_three max_four min_four   -- for this text's walks alone
set_option linter.unusedVariables false
set_option linter.unusedSimpArgs false
def larchref17_Violations.l0 : Nat → List (S49) → List Int → Int → Int → Option (Int × Int)
 | 0, _, _, _, _ => none
 | k + 1, x0, x6, x8, x9 => if x9 < (x6.length : Int) then (if 0 ≤ x9 then (if 0 ≤ (rd x6 x9) then (if (rd x6 x9) < (x0.length : Int) then (larchref17_Violations.l0 k x0 x6 (wrap64 (x8 + (wrap64 (((J49 x0 (rd x6 x9)).f2) - 1)))) (wrap64 (x9 + 1))) else (none)) else (none)) else (none)) else (some (x8, 0))
def larchref17_Violations.f (k : Nat) (l0 : List (S49)) : Option (Int × Int) := (larchref17_Reds.f k l0).bind fun bt377 => (if bt377.2 = 0 then ((larchref17_Overs.f k l0).bind fun bt381 => (larchref17_Violations.l0 k l0 bt381.1 (bt377.1.length : Int) 0)) else (some (0, bt377.2)))
end Go.Proofs.Ytmmjkebboonnkaa.P
/- F38 -/
namespace Go.Proofs.Ytmmjkebboonnkaa.P
open Go.RowKit Go.Proofs.YtmmjkebboonnkaaW.PrintWords Go.Proofs.YtmmjkebboonnkaaW.PrintLast Go.Proofs.YtmmjkebboonnkaaW.PrintMore
attribute [local go_sem] max2_int min2_int max_two min_two max_three min_three max_four min_four   -- for this text's walks alone
set_option linter.unusedVariables false
set_option linter.unusedSimpArgs false
end Go.Proofs.Ytmmjkebboonnkaa.P
/- F39 -/
namespace Go.Proofs.Ytmmjkebboonnkaa.P
open Go.RowKit Go.Proofs.YtmmjkebboonnkaaW.PrintWords Go.Proofs.YtmmjkebboonnkaaW.PrintLast Go.Proofs.YtmmjkebboonnkaaW.PrintMore
attribute [local go_sem] max2_int min2_int max_two min_two max_three min_three max_four min_four   -- for this text's walks alone
set_option linter.unusedVariables false
set_option linter.unusedSimpArgs false
end Go.Proofs.Ytmmjkebboonnkaa.P
/- F40 -/
namespace Go.Proofs.Ytmmjkebboonnkaa.P
open Go.RowKit Go.Proofs.YtmmjkebboonnkaaW.PrintWords Go.Proofs.YtmmjkebboonnkaaW.PrintLast Go.Proofs.YtmmjkebboonnkaaW.PrintMore
attribute [local go_sem] max2_int min2_int max_two min_two max_three min_three max_four min_four   -- for this text's walks alone
set_option linter.unusedVariables false
set_option linter.unusedSimpArgs false
def larchref17_Leaves.l0 : Nat → List (S49) → List Int → List Int → Int → Option (List Int)
 | 0, _, _, _, _ => none
 | k + 1, x0, x3, x4, x5 => if x5 < (x4.length : Int) then (if 0 ≤ x5 then (if 0 ≤ (rd x4 x5) then (if (rd x4 x5) < (x0.length : Int) then ((larchref17_leaf.f ((J49 x0 (rd x4 x5)).f0) ((J49 x0 (rd x4 x5)).f1) ((J49 x0 (rd x4 x5)).f2) ((J49 x0 (rd x4 x5)).f3) ((J49 x0 (rd x4 x5)).f4) ((J49 x0 (rd x4 x5)).f5)).bind fun t434 => (if t434 = true then (if ((J49 x0 (rd x4 x5)).f1) = 0 then (if x3.length < 17592186044416 then (larchref17_Leaves.l0 k x0 (x3 ++ [rd x4 x5]) x4 (wrap64 (x5 + 1))) else (none)) else (larchref17_Leaves.l0 k x0 x3 x4 (wrap64 (x5 + 1)))) else (larchref17_Leaves.l0 k x0 x3 x4 (wrap64 (x5 + 1))))) else (none)) else (none)) else (none)) else (some x3)
def larchref17_Leaves.f (k : Nat) (l0 : List (S49)) : Option (List Int) := (larchref17_Order.f k l0 0).bind fun t429 => (larchref17_Leaves.l0 k l0 ([] : List Int) t429 0)
set_option maxHeartbeats 8000000 in
set_option maxRecDepth 100000 in
theorem larchref17_Leaves.calls (k : Nat) (A0 : Option Addr) (c0 : Nat) (l0 : List (S49)) (r : List Int) (w : World) (hr0 : Kd.C k49 w A0 l0.length l0) (hc0 : l0.length ≤ c0) (h : larchref17_Leaves.f k l0 = some r) :
  Calls Try.prog 34 #[.slice A0 l0.length c0] w fun e w' => ∃ v0_ : Value, e = .returned (v0_) ∧ Kd.R (Kd.int .i64) 3 w' w.heap.size (fun _ => True) v0_ r ∧ Below w.heap.size w w' := by
 have hu49 := Try.underlying49
 have HR0 := asd hr0
 have HC0 := asd hc0
 clear hr0 hc0
 have HB := asd (Below.refl w.heap.size w)
 have H : ((larchref17_Order.f k l0 0).bind fun t429 => (larchref17_Leaves.l0 k l0 ([] : List Int) t429 0)) = some r := h
 clear h
 replace H := Option.bind_eq_some_iff.mp H
 obtain ⟨t429, A20, H⟩ := H
 replace H : (larchref17_Leaves.l0 k l0 ([] : List Int) t429 0) = some r := H
 have A2 := asd A20
 clear A20
 have H' := asd H
 clear H
 go_enter Try.func34, Try.ntmps34
 go_wp2_with (first | ((with_reducible refine gate_callee (f := 27) rfl ?_); refine goesL_ (some 7) rfl rfl Try.func27 (by kernel_rfl) rfl #[.slice A0 l0.length c0, .int .i64 0] rfl ags ?_; (with_reducible refine (larchref17_Order.calls k _ _ l0 0 t429 _ ?side1 ?side2 A2.out).mono ?_); (case side1 => exact skC HR0.out); (case side2 => exact HC0.out); rintro e w3 ⟨v430, rfl, ho0, hb⟩; refine ⟨_, rfl, ?_⟩; have n0_ := asd (Kd.R_lower ho0 (below_size (skB HB.out))); have n1_ := asd (below_step (skB HB.out) hb); clear HB; have HO431 := n0_; have HB := n1_; clear n0_ n1_; (try clear hb); (try clear hb2); (try clear hk); (try clear hi); (try clear ho0)))
 go_loopg [3, 5] k (fun kq v3 v5 w' => ∃ (x3_1 : List Int) (x5_1 : Int), v5 = .int .i64 x5_1 ∧ Aside0 (larchref17_Leaves.l0 kq l0 x3_1 t429 x5_1 = some r) ∧ Aside0 (kq ≤ k) ∧ Aside0 (Kd.R (Kd.int .i64) 3 w' w.heap.size (fun k_ => some k_ ≠ (v430 : Value).ownBlock) v3 x3_1) ∧ Aside0 (Kd.R (Kd.int .i64) 3 w' w.heap.size (fun k_ => some k_ ≠ (v3 : Value).ownBlock) v430 t429) ∧ Aside0 (Below w.heap.size w w'))
 case atStart => exact ⟨(([] : List Int)), (0), rs, H', ⟨Nat.le_refl _⟩, ⟨by first | exact Kd.R_nil _ _ _ _ _ | exact Kd.N_nil _ _ _ _ _ | exact Kd.V_nil _ _ _ _ _ | exact Kd.Q_nil _ _ _ _ _ | exact Kd.S_nil _ _ _ _ _⟩, ⟨skR (Kd.R_mono HO431.out (fun _ hk => (by simp [Value.ownBlock])))⟩, ⟨skB HB.out⟩⟩
 case round =>
  clear H'
  try clear c2
  try clear p2
  try clear c3
  obtain ⟨x3_1, x5_1, rfl, HA, HK1, HO_3, HO_4, HB⟩ := hrel
  cases gk with
  | zero => exact absurd HA.out (by simp [larchref17_Leaves.l0])
  | succ k1 =>
   have H := HA.out
   clear HA
   simp only [larchref17_Leaves.l0] at H
   by_cases c4 : x5_1 < (t429.length : Int)
   ·
    rw [if_pos c4] at H
    have c4b0 : decide (x5_1 < (t429.length : Int)) = true := decide_eq_true c4
    clear c4
    by_cases c5 : 0 ≤ x5_1
    ·
     rw [if_pos c5] at H
     have c5b0 : decide (0 ≤ x5_1) = true := decide_eq_true c5
     clear c5
     by_cases c6 : 0 ≤ (rd t429 x5_1)
     ·
      rw [if_pos c6] at H
      have c6b0 : decide (0 ≤ (rd t429 x5_1)) = true := decide_eq_true c6
      clear c6
      by_cases c7 : (rd t429 x5_1) < (l0.length : Int)
      ·
       rw [if_pos c7] at H
       have c7b0 : decide ((rd t429 x5_1) < (l0.length : Int)) = true := decide_eq_true c7
       clear c7
       replace H := Option.bind_eq_some_iff.mp H
       obtain ⟨t434, A80, H⟩ := H
       replace H : (if t434 = true then (if ((J49 l0 (rd t429 x5_1)).f1) = 0 then (if x3_1.length < 17592186044416 then (larchref17_Leaves.l0 k1 l0 (x3_1 ++ [rd t429 x5_1]) t429 (wrap64 (x5_1 + 1))) else (none)) else (larchref17_Leaves.l0 k1 l0 x3_1 t429 (wrap64 (x5_1 + 1)))) else (larchref17_Leaves.l0 k1 l0 x3_1 t429 (wrap64 (x5_1 + 1)))) = some r := H
       have A8 := asd A80
       clear A80
       by_cases c9 : t434 = true
       ·
        subst c9
        have H1 : (if ((J49 l0 (rd t429 x5_1)).f1) = 0 then (if x3_1.length < 17592186044416 then (larchref17_Leaves.l0 k1 l0 (x3_1 ++ [rd t429 x5_1]) t429 (wrap64 (x5_1 + 1))) else (none)) else (larchref17_Leaves.l0 k1 l0 x3_1 t429 (wrap64 (x5_1 + 1)))) = some r := by rw [if_pos rfl] at H; exact H
        clear H
        have H := H1
        clear H1
        by_cases c10 : ((J49 l0 (rd t429 x5_1)).f1) = 0
        ·
         rw [if_pos c10] at H
         have c10b0 : (((J49 l0 (rd t429 x5_1)).f1) == 0) = true := beq_iff_eq.mpr c10
         have c10b1 : (((J49 l0 (rd t429 x5_1)).f1) != 0) = false := bne_eq_false_iff_eq.mpr c10
         clear c10
         by_cases c11 : x3_1.length < 17592186044416
         ·
          rw [if_pos c11] at H
          have LMc11 := asd c11
          clear c11
          obtain ⟨y438, hy438⟩ : ∃ y_ : List Int, y_ = (x3_1 ++ [rd t429 x5_1]) := ⟨_, rfl⟩
          replace H : (larchref17_Leaves.l0 k1 l0 y438 t429 (wrap64 (x5_1 + 1))) = some r := by first | (rw [hy438]; with_reducible exact H) | (have H2_ := (Option.bind_some _ _).symm.trans H; rw [hy438]; with_reducible exact H2_) | (have H2_ := (Option.bind_some _ _).symm.trans H; with_reducible exact H2_) | with_reducible exact H | (rw [hy438]; exact H) | exact H
          have Ny438 := asd hy438
          clear hy438
          have H' := asd H
          clear H
          obtain ⟨Ao12, co12, eo12⟩ := Kd.R_slice HO_4.out
          subst eo12
          have p432 : 0 ≤ (x5_1 : Int) := dt
          have q432 : x5_1 < (t429.length : Int) := dt
          obtain ⟨ad432, e432, hx432_0⟩ := Kd.at_int (Kd.R_reads' HO_4.out).2.2 x5_1 p432 q432
          cases e432
          replace p432 := eq_true p432
          replace q432 := eq_true q432
          have p433 : 0 ≤ ((rd t429 x5_1) : Int) := dt
          have q433 : (rd t429 x5_1) < (l0.length : Int) := dt
          obtain ⟨ad433, e433, hx433_0, hx433_1, hx433_2, hx433_3, hx433_4, hx433_5⟩ := at_T49 HR0.out (rd t429 x5_1) p433 q433
          cases e433
          replace hx433_0 := skc HB.out hx433_0
          replace hx433_1 := skc HB.out hx433_1
          replace hx433_2 := skc HB.out hx433_2
          replace hx433_3 := skc HB.out hx433_3
          replace hx433_4 := skc HB.out hx433_4
          replace hx433_5 := skc HB.out hx433_5
          replace p433 := eq_true p433
          replace q433 := eq_true q433
          go_wp2_with (first | ((with_reducible refine gate_callee (f := 53) rfl ?_); refine goesL_ (some 21) rfl rfl Try.func53 (by kernel_rfl) rfl #[.agg #[.int .i64 ((J49 l0 (rd t429 x5_1)).f0), .int .i64 ((J49 l0 (rd t429 x5_1)).f1), .int .i64 ((J49 l0 (rd t429 x5_1)).f2), .int .i64 ((J49 l0 (rd t429 x5_1)).f3), .int .i64 ((J49 l0 (rd t429 x5_1)).f4), .int .i64 ((J49 l0 (rd t429 x5_1)).f5)]] rfl ags ?_; (with_reducible refine (larchref17_leaf.calls ((J49 l0 (rd t429 x5_1)).f0) ((J49 l0 (rd t429 x5_1)).f1) ((J49 l0 (rd t429 x5_1)).f2) ((J49 l0 (rd t429 x5_1)).f3) ((J49 l0 (rd t429 x5_1)).f4) ((J49 l0 (rd t429 x5_1)).f5) true _ A8.out).mono ?_); rintro e w13 ⟨rfl, hb⟩; refine ⟨_, rfl, ?_⟩; have n0_ := asd (Kd.R_below (skR HO_3.out) hb); have n1_ := asd (Kd.R_below (skR HO_4.out) hb); have n2_ := asd (below_step (skB HB.out) hb); clear HO_3; clear HO_4; clear HB; have HO_3 := n0_; have HO_4 := n1_; have HB := n2_; clear n0_ n1_ n2_; (try clear hb); (try clear hb2); (try clear hk); (try clear hi); have p435 : 0 ≤ (x5_1 : Int) := dt; have q435 : x5_1 < (t429.length : Int) := dt; obtain ⟨ad435, e435, hx435_0⟩ := Kd.at_int (Kd.R_reads' HO_4.out).2.2 x5_1 p435 q435; obtain rfl : ad432 = ad435 := (by injection e435); replace p435 := eq_true p435; replace q435 := eq_true q435; have p436 : 0 ≤ ((rd t429 x5_1) : Int) := dt; have q436 : (rd t429 x5_1) < (l0.length : Int) := dt; obtain ⟨ad436, e436, hx436_0, hx436_1, hx436_2, hx436_3, hx436_4, hx436_5⟩ := at_T49 HR0.out (rd t429 x5_1) p436 q436; obtain rfl : ad433 = ad436 := (by injection e436); replace hx436_0 := skc HB.out hx436_0; replace hx436_1 := skc HB.out hx436_1; replace hx436_2 := skc HB.out hx436_2; replace hx436_3 := skc HB.out hx436_3; replace hx436_4 := skc HB.out hx436_4; replace hx436_5 := skc HB.out hx436_5; replace p436 := eq_true p436; replace q436 := eq_true q436; have p437 : 0 ≤ (x5_1 : Int) := dt; have q437 : x5_1 < (t429.length : Int) := dt; obtain ⟨ad437, e437, hx437_0⟩ := Kd.at_int (Kd.R_reads' HO_4.out).2.2 x5_1 p437 q437; obtain rfl : ad432 = ad437 := (by injection e437); replace p437 := eq_true p437; replace q437 := eq_true q437) | ((with_reducible refine gate_builtin (b := .append) (xs := #[.tmp 33, .tmp 38]) rfl ?_); at_builtin; refine Kd.R_append (Kd.int .i64) (w0 := w) w.heap.size rfl (.tmp 33) (.tmp 38) 23 3 (.int .i64 0) 8 rfl Try.underlying23 info3 rfl (by decide) (by omega) u3 x3_1 (rd t429 x5_1) [.int .i64 (rd t429 x5_1)] (fun k_ => some k_ ≠ (.slice (some ad432) t429.length co12 : Value).ownBlock) (fun _ => False) rfl rfl ?aP (fun _ hk => hk.elim) ?aF ?aO ?aB ?aS ?aL ?_; (case aP => exact rfl); (case aB => exact (skB HB.out)); (case aF => exact (fun k_ hk => Kd.fresh' (Kd.R_lt (skR HO_4.out)) k_ hk)); (case aO => exact (skR HO_3.out)); (case aS => exact (below_size (skB HB.out))); (case aL => have := LMc11.out; omega); intro v439 w14 ho hb hg hat; rw [← Ny438.out] at ho; have n0_ := asd (Kd.R_after (ok := (fun _ => True)) (skR (Kd.R_mono HO_4.out (fun _ hk => ⟨trivial, hk⟩))) hg hat); have n1_ := asd (hb); have n2_ := asd (ho); clear HO_4; clear HB; clear HO_3; have HO_4 := n0_; have HB := n1_; have HO440 := n2_; clear n0_ n1_ n2_; clear ho hb hg hat))
          go_roundg k1
          case measure => have := HK1.out; omega
          case rel => exact ⟨(y438), (wrap64 (x5_1 + 1)), rs, H', ⟨by have := HK1.out; omega⟩, ⟨skR HO440.out⟩, ⟨skR (Kd.R_mono HO_4.out (fun _ hk => hk.2))⟩, ⟨skB HB.out⟩⟩
         ·
          rw [if_neg c11] at H
          exact absurd H (by simp)
        ·
         rw [if_neg c10] at H
         have c10b0 : (((J49 l0 (rd t429 x5_1)).f1) == 0) = false := beq_eq_false_iff_ne.mpr c10
         have c10b1 : (((J49 l0 (rd t429 x5_1)).f1) != 0) = true := bne_iff_ne.mpr c10
         have H' := asd H
         clear H
         obtain ⟨Ao15, co15, eo15⟩ := Kd.R_slice HO_4.out
         subst eo15
         have p432 : 0 ≤ (x5_1 : Int) := dt
         have q432 : x5_1 < (t429.length : Int) := dt
         obtain ⟨ad432, e432, hx432_0⟩ := Kd.at_int (Kd.R_reads' HO_4.out).2.2 x5_1 p432 q432
         cases e432
         replace p432 := eq_true p432
         replace q432 := eq_true q432
         have p433 : 0 ≤ ((rd t429 x5_1) : Int) := dt
         have q433 : (rd t429 x5_1) < (l0.length : Int) := dt
         obtain ⟨ad433, e433, hx433_0, hx433_1, hx433_2, hx433_3, hx433_4, hx433_5⟩ := at_T49 HR0.out (rd t429 x5_1) p433 q433
         cases e433
         replace hx433_0 := skc HB.out hx433_0
         replace hx433_1 := skc HB.out hx433_1
         replace hx433_2 := skc HB.out hx433_2
         replace hx433_3 := skc HB.out hx433_3
         replace hx433_4 := skc HB.out hx433_4
         replace hx433_5 := skc HB.out hx433_5
         replace p433 := eq_true p433
         replace q433 := eq_true q433
         go_wp2_with (first | ((with_reducible refine gate_callee (f := 53) rfl ?_); refine goesL_ (some 21) rfl rfl Try.func53 (by kernel_rfl) rfl #[.agg #[.int .i64 ((J49 l0 (rd t429 x5_1)).f0), .int .i64 ((J49 l0 (rd t429 x5_1)).f1), .int .i64 ((J49 l0 (rd t429 x5_1)).f2), .int .i64 ((J49 l0 (rd t429 x5_1)).f3), .int .i64 ((J49 l0 (rd t429 x5_1)).f4), .int .i64 ((J49 l0 (rd t429 x5_1)).f5)]] rfl ags ?_; (with_reducible refine (larchref17_leaf.calls ((J49 l0 (rd t429 x5_1)).f0) ((J49 l0 (rd t429 x5_1)).f1) ((J49 l0 (rd t429 x5_1)).f2) ((J49 l0 (rd t429 x5_1)).f3) ((J49 l0 (rd t429 x5_1)).f4) ((J49 l0 (rd t429 x5_1)).f5) true _ A8.out).mono ?_); rintro e w16 ⟨rfl, hb⟩; refine ⟨_, rfl, ?_⟩; have n0_ := asd (Kd.R_below (skR HO_3.out) hb); have n1_ := asd (Kd.R_below (skR HO_4.out) hb); have n2_ := asd (below_step (skB HB.out) hb); clear HO_3; clear HO_4; clear HB; have HO_3 := n0_; have HO_4 := n1_; have HB := n2_; clear n0_ n1_ n2_; (try clear hb); (try clear hb2); (try clear hk); (try clear hi); have p435 : 0 ≤ (x5_1 : Int) := dt; have q435 : x5_1 < (t429.length : Int) := dt; obtain ⟨ad435, e435, hx435_0⟩ := Kd.at_int (Kd.R_reads' HO_4.out).2.2 x5_1 p435 q435; obtain rfl : ad432 = ad435 := (by injection e435); replace p435 := eq_true p435; replace q435 := eq_true q435; have p436 : 0 ≤ ((rd t429 x5_1) : Int) := dt; have q436 : (rd t429 x5_1) < (l0.length : Int) := dt; obtain ⟨ad436, e436, hx436_0, hx436_1, hx436_2, hx436_3, hx436_4, hx436_5⟩ := at_T49 HR0.out (rd t429 x5_1) p436 q436; obtain rfl : ad433 = ad436 := (by injection e436); replace hx436_0 := skc HB.out hx436_0; replace hx436_1 := skc HB.out hx436_1; replace hx436_2 := skc HB.out hx436_2; replace hx436_3 := skc HB.out hx436_3; replace hx436_4 := skc HB.out hx436_4; replace hx436_5 := skc HB.out hx436_5; replace p436 := eq_true p436; replace q436 := eq_true q436))
         go_roundg k1
         case measure => have := HK1.out; omega
         case rel => exact ⟨(x3_1), (wrap64 (x5_1 + 1)), rs, H', ⟨by have := HK1.out; omega⟩, ⟨skR HO_3.out⟩, ⟨skR HO_4.out⟩, ⟨skB HB.out⟩⟩
       ·
        replace c9 := Bool.eq_false_iff.mpr c9
        subst c9
        have H1 : (larchref17_Leaves.l0 k1 l0 x3_1 t429 (wrap64 (x5_1 + 1))) = some r := by rw [if_neg (show ¬ (false = true) by decide)] at H; exact H
        clear H
        have H := H1
        clear H1
        have H' := asd H
        clear H
        obtain ⟨Ao17, co17, eo17⟩ := Kd.R_slice HO_4.out
        subst eo17
        have p432 : 0 ≤ (x5_1 : Int) := dt
        have q432 : x5_1 < (t429.length : Int) := dt
        obtain ⟨ad432, e432, hx432_0⟩ := Kd.at_int (Kd.R_reads' HO_4.out).2.2 x5_1 p432 q432
        cases e432
        replace p432 := eq_true p432
        replace q432 := eq_true q432
        have p433 : 0 ≤ ((rd t429 x5_1) : Int) := dt
        have q433 : (rd t429 x5_1) < (l0.length : Int) := dt
        obtain ⟨ad433, e433, hx433_0, hx433_1, hx433_2, hx433_3, hx433_4, hx433_5⟩ := at_T49 HR0.out (rd t429 x5_1) p433 q433
        cases e433
        replace hx433_0 := skc HB.out hx433_0
        replace hx433_1 := skc HB.out hx433_1
        replace hx433_2 := skc HB.out hx433_2
        replace hx433_3 := skc HB.out hx433_3
        replace hx433_4 := skc HB.out hx433_4
        replace hx433_5 := skc HB.out hx433_5
        replace p433 := eq_true p433
        replace q433 := eq_true q433
        go_wp2_with (first | ((with_reducible refine gate_callee (f := 53) rfl ?_); refine goesL_ (some 21) rfl rfl Try.func53 (by kernel_rfl) rfl #[.agg #[.int .i64 ((J49 l0 (rd t429 x5_1)).f0), .int .i64 ((J49 l0 (rd t429 x5_1)).f1), .int .i64 ((J49 l0 (rd t429 x5_1)).f2), .int .i64 ((J49 l0 (rd t429 x5_1)).f3), .int .i64 ((J49 l0 (rd t429 x5_1)).f4), .int .i64 ((J49 l0 (rd t429 x5_1)).f5)]] rfl ags ?_; (with_reducible refine (larchref17_leaf.calls ((J49 l0 (rd t429 x5_1)).f0) ((J49 l0 (rd t429 x5_1)).f1) ((J49 l0 (rd t429 x5_1)).f2) ((J49 l0 (rd t429 x5_1)).f3) ((J49 l0 (rd t429 x5_1)).f4) ((J49 l0 (rd t429 x5_1)).f5) false _ A8.out).mono ?_); rintro e w18 ⟨rfl, hb⟩; refine ⟨_, rfl, ?_⟩; have n0_ := asd (Kd.R_below (skR HO_3.out) hb); have n1_ := asd (Kd.R_below (skR HO_4.out) hb); have n2_ := asd (below_step (skB HB.out) hb); clear HO_3; clear HO_4; clear HB; have HO_3 := n0_; have HO_4 := n1_; have HB := n2_; clear n0_ n1_ n2_; (try clear hb); (try clear hb2); (try clear hk); (try clear hi)))
        go_roundg k1
        case measure => have := HK1.out; omega
        case rel => exact ⟨(x3_1), (wrap64 (x5_1 + 1)), rs, H', ⟨by have := HK1.out; omega⟩, ⟨skR HO_3.out⟩, ⟨skR HO_4.out⟩, ⟨skB HB.out⟩⟩
      ·
       rw [if_neg c7] at H
       exact absurd H (by simp)
     ·
      rw [if_neg c6] at H
      exact absurd H (by simp)
    ·
     rw [if_neg c5] at H
     exact absurd H (by simp)
   ·
    rw [if_neg c4] at H
    have c4b0 : decide (x5_1 < (t429.length : Int)) = false := decide_eq_false c4
    clear c4
    obtain rfl := Option.some.inj H
    obtain ⟨Ao19, co19, eo19⟩ := Kd.R_slice HO_4.out
    subst eo19
    go_wp2
    go_ret
    exact ⟨_, re, skR (Kd.R_mono HO_3.out (fun _ hk => trivial)), skB HB.out⟩
end Go.Proofs.Ytmmjkebboonnkaa.P
/- F41 -/
namespace Go.Proofs.Ytmmjkebboonnkaa.P
open Go.RowKit Go.Proofs.YtmmjkebboonnkaaW.PrintWords Go.Proofs.YtmmjkebboonnkaaW.PrintLast Go.Proofs.YtmmjkebboonnkaaW.PrintMore
attribute [local go_sem] max2_int min2_int max_two min_two max_three min_three max_four min_four   -- for this text's walks alone
set_option linter.unusedVariables false
set_option linter.unusedSimpArgs false
end Go.Proofs.Ytmmjkebboonnkaa.P
/- F42 -/
namespace Go.Proofs.Ytmmjkebboonnkaa.P
open Go.RowKit Go.Proofs.YtmmjkebboonnkaaW.PrintWords Go.Proofs.YtmmjkebboonnkaaW.PrintLast Go.Proofs.YtmmjkebboonnkaaW.PrintMore
attribute [local go_sem] max2_int min2_int max_two min_two max_three min_three max_four min_four   -- for this text's walks alone
set_option linter.unusedVariables false
set_option linter.unusedSimpArgs false
end Go.Proofs.Ytmmjkebboonnkaa.P
/- F50 -/
namespace Go.Proofs.Ytmmjkebboonnkaa.P
open Go.RowKit Go.Proofs.YtmmjkebboonnkaaW.PrintWords Go.Proofs.YtmmjkebboonnkaaW.PrintLast Go.Proofs.YtmmjkebboonnkaaW.PrintMore
attribute [local go_sem] max2_int min2_int max_two min_two max_three min_three max_four min_four   -- for this text's walks alone
set_option linter.unusedVariables false
set_option linter.unusedSimpArgs false
end Go.Proofs.Ytmmjkebboonnkaa.P
/- F51 -/
namespace Go.Proofs.Ytmmjkebboonnkaa.P
open Go.RowKit Go.Proofs.YtmmjkebboonnkaaW.PrintWords Go.Proofs.YtmmjkebboonnkaaW.PrintLast Go.Proofs.YtmmjkebboonnkaaW.PrintMore
attribute [local go_sem] max2_int min2_int max_two min_two max_three min_three max_four min_four   -- for this text's walks alone
set_option linter.unusedVariables false
set_option linter.unusedSimpArgs false
end Go.Proofs.Ytmmjkebboonnkaa.P
/- F59 -/
namespace Go.Proofs.Ytmmjkebboonnkaa.P
open Go.RowKit Go.Proofs.YtmmjkebboonnkaaW.PrintWords Go.Proofs.YtmmjkebboonnkaaW.PrintLast Go.Proofs.YtmmjkebboonnkaaW.PrintMore
attribute [local go_sem] max2_int min2_int max_two min_two max_three min_three max_four min_four   -- for this text's walks alone
set_option linter.unusedVariables false
set_option linter.unusedSimpArgs false
end Go.Proofs.Ytmmjkebboonnkaa.P
/- F60 -/
namespace Go.Proofs.Ytmmjkebboonnkaa.P
open Go.RowKit Go.Proofs.YtmmjkebboonnkaaW.PrintWords Go.Proofs.YtmmjkebboonnkaaW.PrintLast Go.Proofs.YtmmjkebboonnkaaW.PrintMore
attribute [local go_sem] max2_int min2_int max_two min_two max_three min_three max_four min_four   -- for this text's walks alone
set_option linter.unusedVariables false
set_option linter.unusedSimpArgs false
end Go.Proofs.Ytmmjkebboonnkaa.P
/- F62 -/
namespace Go.Proofs.Ytmmjkebboonnkaa.P
open Go.RowKit Go.Proofs.YtmmjkebboonnkaaW.PrintWords Go.Proofs.YtmmjkebboonnkaaW.PrintLast Go.Proofs.YtmmjkebboonnkaaW.PrintMore
attribute [local go_sem] max2_int min2_int max_two min_two max_three min_three max_four min_four   -- for this text's walks alone
set_option linter.unusedVariables false
set_option linter.unusedSimpArgs false
end Go.Proofs.Ytmmjkebboonnkaa.P
/- F64 -/
namespace Go.Proofs.Ytmmjkebboonnkaa.P
open Go.RowKit Go.Proofs.YtmmjkebboonnkaaW.PrintWords Go.Proofs.YtmmjkebboonnkaaW.PrintLast Go.Proofs.YtmmjkebboonnkaaW.PrintMore
attribute [local go_sem] max2_int min2_int max_two min_two max_three min_three max_four min_four   -- for this text's walks alone
set_option linter.unusedVariables false
set_option linter.unusedSimpArgs false
end Go.Proofs.Ytmmjkebboonnkaa.P
