/- P.weighSums_holds, part 3 of 24: the contracts of the Go functions that the law calls, its own walk, and its plain law, for every input that the statement speaks of. -/
import Derived.Test.YtmmjkebboonnkaaProg
import Derived.Below
import Derived.Deep.Draws
import Derived.Deep.AppendLies
import Derived.Maps.AppendAt
import Derived.OwnWalk
import Derived.Laws.BytesArg
import Derived.Laws.MakeOwn
import Derived.Laws.OwnMore
import Derived.Deep.OwnRows
import Derived.Tactics
import Derived.Lib.ConvBytes
import Derived.Laws.Slices
import Derived.WalkKit
import Derived.KernelRfl
import Derived.RowKit3
import Derived.Deep.LoopGhost
import Derived.Deep.QuietTactic
import Derived.BigQuiet
import Derived.WideLaws
import Derived.Deep.DeepCutAuto
import Derived.Deep.CutBlock
import Derived.Deep.RegionHeld3
import Derived.Laws.Rows
import Derived.Lib.AppendStr
import Derived.ArgAppend
import Derived.Laws.IdiomCopy
import Derived.OrdersHeld
import Derived.Laws.BitsLemmas
import Derived.RowKit
import Derived.Test.YtmmjkebboonnkaaMSums0
import Derived.Test.YtmmjkebboonnkaaMSums1
set_option linter.unusedVariables false
set_option linter.unusedSimpArgs false
/- F0 -/
namespace Go.Proofs.Ytmmjkebboonnkaa.P
open Go.RowKit Go.Proofs.YtmmjkebboonnkaaW.PrintWords Go.Proofs.YtmmjkebboonnkaaW.PrintLast Go.Proofs.YtmmjkebboonnkaaW.PrintMore
attribute [local go_sem] max2_int min2_int max_two min_two max_three min_three max_four min_four   -- for this text's walks alone
set_option linter.unusedVariables false
set_option linter.unusedSimpArgs false
def errW : Option Int → Value
 | none => .nilIface
 | some c => .iface 0 (.int .i64 c)
theorem errW_none : errW none = .nilIface := rfl
theorem errW_some (c : Int) : errW (some c) = .iface 0 (.int .i64 c) := rfl
theorem info3 : (Try.prog.info? 3).map (fun i => (i.zero, i.size, i.bytes)) = some (some (.int .i64 0), 1, 8) := by kernel_rfl
theorem info4 : (Try.prog.info? 4).map (fun i => (i.zero, i.size, i.bytes)) = some (some (.bool false), 1, 1) := by kernel_rfl
theorem info49 : (Try.prog.info? 49).map (fun i => (i.zero, i.size, i.bytes)) = some (some (.agg #[(.int .i64 0), (.int .i64 0), (.int .i64 0), (.int .i64 0), (.int .i64 0), (.int .i64 0)]), 6, 48) := by kernel_rfl
structure S49 where
 f0 : Int
 f1 : Int
 f2 : Int
 f3 : Int
 f4 : Int
 f5 : Int
def z49 : S49 := ⟨(0 : Int), (0 : Int), (0 : Int), (0 : Int), (0 : Int), (0 : Int)⟩
def k49 : Kd S49 := Kd.iso (Kd.pair (Kd.int .i64) (Kd.pair (Kd.int .i64) (Kd.pair (Kd.int .i64) (Kd.pair (Kd.int .i64) (Kd.pair (Kd.int .i64) (Kd.int .i64)))))) (fun x : S49 => (x.f0, x.f1, x.f2, x.f3, x.f4, x.f5))
theorem k49_open {w : World} {x : S49} {cs : List Value} (h : k49.K w x cs) : cs = [.int .i64 x.f0, .int .i64 x.f1, .int .i64 x.f2, .int .i64 x.f3, .int .i64 x.f4, .int .i64 x.f5] := by
 obtain ⟨_, _, rfl, rfl, ⟨_, _, rfl, rfl, ⟨_, _, rfl, rfl, ⟨_, _, rfl, rfl, ⟨_, _, rfl, rfl, rfl⟩⟩⟩⟩⟩ := h
 exact rfl
theorem k49_openM {w : World} {base : Nat} {ok : Nat → Prop} {x : S49} {cs : List Value} (h : k49.M w base ok x cs) : cs = [.int .i64 x.f0, .int .i64 x.f1, .int .i64 x.f2, .int .i64 x.f3, .int .i64 x.f4, .int .i64 x.f5] := by
 obtain ⟨_, _, rfl, rfl, ⟨_, _, rfl, rfl, ⟨_, _, rfl, rfl, ⟨_, _, rfl, rfl, ⟨_, _, rfl, rfl, rfl⟩⟩⟩⟩⟩ := h
 exact rfl
theorem k49_mk (w : World) (x : S49)  : k49.K w x [.int .i64 x.f0, .int .i64 x.f1, .int .i64 x.f2, .int .i64 x.f3, .int .i64 x.f4, .int .i64 x.f5] := ⟨[.int .i64 x.f0], [.int .i64 x.f1, .int .i64 x.f2, .int .i64 x.f3, .int .i64 x.f4, .int .i64 x.f5], rfl, rfl, ⟨[.int .i64 x.f1], [.int .i64 x.f2, .int .i64 x.f3, .int .i64 x.f4, .int .i64 x.f5], rfl, rfl, ⟨[.int .i64 x.f2], [.int .i64 x.f3, .int .i64 x.f4, .int .i64 x.f5], rfl, rfl, ⟨[.int .i64 x.f3], [.int .i64 x.f4, .int .i64 x.f5], rfl, rfl, ⟨[.int .i64 x.f4], [.int .i64 x.f5], rfl, rfl, rfl⟩⟩⟩⟩⟩
theorem k49_mkM (w : World) (base : Nat) (ok : Nat → Prop) (x : S49)  : k49.M w base ok x [.int .i64 x.f0, .int .i64 x.f1, .int .i64 x.f2, .int .i64 x.f3, .int .i64 x.f4, .int .i64 x.f5] := ⟨[.int .i64 x.f0], [.int .i64 x.f1, .int .i64 x.f2, .int .i64 x.f3, .int .i64 x.f4, .int .i64 x.f5], rfl, rfl, ⟨[.int .i64 x.f1], [.int .i64 x.f2, .int .i64 x.f3, .int .i64 x.f4, .int .i64 x.f5], rfl, rfl, ⟨[.int .i64 x.f2], [.int .i64 x.f3, .int .i64 x.f4, .int .i64 x.f5], rfl, rfl, ⟨[.int .i64 x.f3], [.int .i64 x.f4, .int .i64 x.f5], rfl, rfl, ⟨[.int .i64 x.f4], [.int .i64 x.f5], rfl, rfl, rfl⟩⟩⟩⟩⟩
def J49 (xs : List S49) (i : Int) : S49 := xs.getD i.toNat z49
theorem at_T49 {w : World} {A : Option Addr} {n : Nat} {xs : List S49} (h : Kd.C k49 w A n xs) (i : Int) (h0 : 0 ≤ i) (h1 : i < n) : ∃ ad , A = some ad ∧ w.cell? (ad.add (i.toNat * 6)) = some (.int .i64 (J49 xs i).f0) ∧ w.cell? ⟨(ad.add (i.toNat * 6)).block, (ad.add (i.toNat * 6)).off + 1, none⟩ = some (.int .i64 (J49 xs i).f1) ∧ w.cell? ⟨(ad.add (i.toNat * 6)).block, (ad.add (i.toNat * 6)).off + 2, none⟩ = some (.int .i64 (J49 xs i).f2) ∧ w.cell? ⟨(ad.add (i.toNat * 6)).block, (ad.add (i.toNat * 6)).off + 3, none⟩ = some (.int .i64 (J49 xs i).f3) ∧ w.cell? ⟨(ad.add (i.toNat * 6)).block, (ad.add (i.toNat * 6)).off + 4, none⟩ = some (.int .i64 (J49 xs i).f4) ∧ w.cell? ⟨(ad.add (i.toNat * 6)).block, (ad.add (i.toNat * 6)).off + 5, none⟩ = some (.int .i64 (J49 xs i).f5) := by
 obtain ⟨ad, c, e, _, hK, hc0⟩ := Kd.C_get h z49 i h0 h1
 have hc : ∀ j u, c[j]? = some u → w.cell? (ad.add (i.toNat * 6 + j)) = some u := hc0
 obtain rfl := k49_open hK
 exact ⟨ad, e, hc 0 _ rfl, by rw [← add_field _ _ 1 (by omega)]; exact hc 1 _ rfl, by rw [← add_field _ _ 2 (by omega)]; exact hc 2 _ rfl, by rw [← add_field _ _ 3 (by omega)]; exact hc 3 _ rfl, by rw [← add_field _ _ 4 (by omega)]; exact hc 4 _ rfl, by rw [← add_field _ _ 5 (by omega)]; exact hc 5 _ rfl⟩
structure S39 where
 f0 : Int
 f1 : Int
end Go.Proofs.Ytmmjkebboonnkaa.P
/- F1 -/
namespace Go.Proofs.Ytmmjkebboonnkaa.P
open Go.RowKit Go.Proofs.YtmmjkebboonnkaaW.PrintWords Go.Proofs.YtmmjkebboonnkaaW.PrintLast Go.Proofs.YtmmjkebboonnkaaW.PrintMore
attribute [local go_sem] max2_int min2_int max_two min_two max_three min_three max_four min_four   -- for this text's walks alone
set_option linter.unusedVariables false
set_option linter.unusedSimpArgs false
theorem eqA49 (d : Nat) (w : World) (x0 y0 : Int) (x1 y1 : Int) (x2 y2 : Int) (x3 y3 : Int) (x4 y4 : Int) (x5 y5 : Int) :
  (Op.equalIn (d + 2) 49 (.agg #[.int .i64 x0, .int .i64 x1, .int .i64 x2, .int .i64 x3, .int .i64 x4, .int .i64 x5]) (.agg #[.int .i64 y0, .int .i64 y1, .int .i64 y2, .int .i64 y3, .int .i64 y4, .int .i64 y5])).run Try.prog w = .ok (x0 == y0 && (x1 == y1 && (x2 == y2 && (x3 == y3 && (x4 == y4 && (x5 == y5)))))) w := by
 refine eqA_of Try.underlying49 (by kernel_rfl) ?_
 refine eqf_cons (by rfl) (by go_simp; rfl) (by go_simp; rfl) (by go_simp) ?_
 refine eqf_cons (by rfl) (by go_simp; rfl) (by go_simp; rfl) (by go_simp) ?_
 refine eqf_cons (by rfl) (by go_simp; rfl) (by go_simp; rfl) (by go_simp) ?_
 refine eqf_cons (by rfl) (by go_simp; rfl) (by go_simp; rfl) (by go_simp) ?_
 refine eqf_cons (by rfl) (by go_simp; rfl) (by go_simp; rfl) (by go_simp) ?_
 exact eqf_last (by rfl) (by go_simp; rfl) (by go_simp; rfl) (by go_simp)
end Go.Proofs.Ytmmjkebboonnkaa.P
/- F3 -/
namespace Go.Proofs.Ytmmjkebboonnkaa.P
open Go.RowKit Go.Proofs.YtmmjkebboonnkaaW.PrintWords Go.Proofs.YtmmjkebboonnkaaW.PrintLast Go.Proofs.YtmmjkebboonnkaaW.PrintMore
attribute [local go_sem] max2_int min2_int max_two min_two max_three min_three max_four min_four   -- for this text's walks alone
set_option linter.unusedVariables false
set_option linter.unusedSimpArgs false
def table_isLeaf.f (a0_0 : Int) (a0_1 : Int) (a0_2 : Int) (a0_3 : Int) (a0_4 : Int) (a0_5 : Int) : Option (Bool) := if a0_4 = (-1) then (some (a0_5 == (-1))) else (some false)
set_option maxHeartbeats 8000000 in
set_option maxRecDepth 100000 in
theorem table_isLeaf.calls (a0_0 : Int) (a0_1 : Int) (a0_2 : Int) (a0_3 : Int) (a0_4 : Int) (a0_5 : Int) (r : Bool) (w : World) (h : table_isLeaf.f a0_0 a0_1 a0_2 a0_3 a0_4 a0_5 = some r) :
  Calls Try.prog 66 #[.agg #[.int .i64 a0_0, .int .i64 a0_1, .int .i64 a0_2, .int .i64 a0_3, .int .i64 a0_4, .int .i64 a0_5]] w fun e w' => e = .returned (.bool r) ∧ Below w.heap.size w w' := by
 have hu49 := Try.underlying49
 have HB := asd (Below.refl w.heap.size w)
 have H : (if a0_4 = (-1) then (some (a0_5 == (-1))) else (some false)) = some r := h
 clear h
 by_cases c2 : a0_4 = (-1)
 ·
  rw [if_pos c2] at H
  have c2b0 : (a0_4 == (-1)) = true := beq_iff_eq.mpr c2
  have c2b1 : (a0_4 != (-1)) = false := bne_eq_false_iff_eq.mpr c2
  clear c2
  obtain rfl := Option.some.inj H
  go_enter Try.func66, Try.ntmps66
  go_wp2_with (first | ((with_reducible refine gate_dst (N := 1) rfl ?_); refine box_event ?hg (N := 1) ?hd (cs := #[.int .i64 a0_0, .int .i64 a0_1, .int .i64 a0_2, .int .i64 a0_3, .int .i64 a0_4, .int .i64 a0_5]) (t := 49) ?hr ?_; (case hd => rfl); (case hg => rfl); (case hr => first | (go_simp; done) | (go_simp; rfl)); intro gb103 hg w3 hbox hb; have n0_ := asd (below_step (skB HB.out) hb); have n1_ := asd (hbox); have n2_ := asd ((by rw [hg]; exact (below_size (skB HB.out)) : w.heap.size ≤ gb103)); have n3_ := asd ((by rw [hg]; exact (below_size (skB HB.out)) : w.heap.size ≤ gb103)); clear HB; have HB := n0_; have BK103 := n1_; have GW103 := n2_; have GE103 := n3_; clear n0_ n1_ n2_ n3_; clear hb hbox hg; obtain ⟨hcz4_0, hcz4_1, hcz4_2, hcz4_3, hcz4_4, hcz4_5, hfz4_0, hfz4_1, hfz4_2, hfz4_3, hfz4_4, hfz4_5⟩ := bk6 BK103.out))
  go_ret
  exact ⟨re, skG HB.out GE103.out GE103.out⟩
 ·
  rw [if_neg c2] at H
  have c2b0 : (a0_4 == (-1)) = false := beq_eq_false_iff_ne.mpr c2
  have c2b1 : (a0_4 != (-1)) = true := bne_iff_ne.mpr c2
  obtain rfl := Option.some.inj H
  go_enter Try.func66, Try.ntmps66
  go_wp2_with (first | ((with_reducible refine gate_dst (N := 1) rfl ?_); refine box_event ?hg (N := 1) ?hd (cs := #[.int .i64 a0_0, .int .i64 a0_1, .int .i64 a0_2, .int .i64 a0_3, .int .i64 a0_4, .int .i64 a0_5]) (t := 49) ?hr ?_; (case hd => rfl); (case hg => rfl); (case hr => first | (go_simp; done) | (go_simp; rfl)); intro gb103 hg w5 hbox hb; have n0_ := asd (below_step (skB HB.out) hb); have n1_ := asd (hbox); have n2_ := asd ((by rw [hg]; exact (below_size (skB HB.out)) : w.heap.size ≤ gb103)); have n3_ := asd ((by rw [hg]; exact (below_size (skB HB.out)) : w.heap.size ≤ gb103)); clear HB; have HB := n0_; have BK103 := n1_; have GW103 := n2_; have GE103 := n3_; clear n0_ n1_ n2_ n3_; clear hb hbox hg; obtain ⟨hcz6_0, hcz6_1, hcz6_2, hcz6_3, hcz6_4, hcz6_5, hfz6_0, hfz6_1, hfz6_2, hfz6_3, hfz6_4, hfz6_5⟩ := bk6 BK103.out))
  go_ret
  exact ⟨re, skG HB.out GE103.out GE103.out⟩
end Go.Proofs.Ytmmjkebboonnkaa.P
/- F4 -/
namespace Go.Proofs.Ytmmjkebboonnkaa.P
open Go.RowKit Go.Proofs.YtmmjkebboonnkaaW.PrintWords Go.Proofs.YtmmjkebboonnkaaW.PrintLast Go.Proofs.YtmmjkebboonnkaaW.PrintMore
attribute [local go_sem] max2_int min2_int max_two min_two max_three min_three max_four min_four   -- for this text's walks alone
set_option linter.unusedVariables false
set_option linter.unusedSimpArgs false
def table_order.l0 : Nat → List (S49) → List Bool → List Int → List Int → Option (List Int)
 | 0, _, _, _, _ => none
 | k + 1, x0, x5, x6, x7 => if (x7.length : Int) > 0 then (if 0 ≤ (wrap64 ((x7.length : Int) - 1)) then (if (wrap64 ((x7.length : Int) - 1)) < (x7.length : Int) then (if (wrap64 ((x7.length : Int) - 1)) ≤ (x7.length : Int) then ((some (x7.take ((wrap64 ((x7.length : Int) - 1)) : Int).toNat : List Int)).bind fun y111 => (if 0 ≤ (rd x7 (wrap64 ((x7.length : Int) - 1))) then (if (rd x7 (wrap64 ((x7.length : Int) - 1))) < (x5.length : Int) then (if rdOf false x5 (rd x7 (wrap64 ((x7.length : Int) - 1))) = true then (some ([] : List Int)) else ((some (x5.set ((rd x7 (wrap64 ((x7.length : Int) - 1))) : Int).toNat true : List Bool)).bind fun y115 => (if x6.length < 17592186044416 then ((some (x6 ++ [rd x7 (wrap64 ((x7.length : Int) - 1))] : List Int)).bind fun y116 => (if (rd x7 (wrap64 ((x7.length : Int) - 1))) < (x0.length : Int) then ((table_isLeaf.f ((J49 x0 (rd x7 (wrap64 ((x7.length : Int) - 1)))).f0) ((J49 x0 (rd x7 (wrap64 ((x7.length : Int) - 1)))).f1) ((J49 x0 (rd x7 (wrap64 ((x7.length : Int) - 1)))).f2) ((J49 x0 (rd x7 (wrap64 ((x7.length : Int) - 1)))).f3) ((J49 x0 (rd x7 (wrap64 ((x7.length : Int) - 1)))).f4) ((J49 x0 (rd x7 (wrap64 ((x7.length : Int) - 1)))).f5)).bind fun t120 => (if t120 = true then (table_order.l0 k x0 y115 y116 y111) else ((some (([(J49 x0 (rd x7 (wrap64 ((x7.length : Int) - 1)))).f5, (J49 x0 (rd x7 (wrap64 ((x7.length : Int) - 1)))).f4] : List Int) : List Int)).bind fun y123 => (if y111.length + y123.length < 17592186044416 then (table_order.l0 k x0 y115 y116 (y111 ++ y123)) else (none))))) else (none))) else (none)))) else (none)) else (none))) else (none)) else (none)) else (none)) else (some x6)
def table_order.f (k : Nat) (l0 : List (S49)) (a1 : Int) : Option (List Int) := if 0 ≤ (l0.length : Int) then (if ((l0.length : Int) : Int).toNat ≤ 281474976710656 then (table_order.l0 k l0 (List.replicate ((l0.length : Int) : Int).toNat false) ([] : List Int) (([a1] : List Int))) else (none)) else (none)
theorem table_order.mono_l : ∀ k, (∀ y0 y1 y2 y3, LeO (table_order.l0 k y0 y1 y2 y3) (table_order.l0 (k + 1) y0 y1 y2 y3))
 | 0 => fun _ _ _ _ r h => by simp [table_order.l0] at h
 | k + 1 => by
  have ih0 := table_order.mono_l k
  ·
   intro y0 y1 y2 y3
   unfold table_order.l0
   repeat' first
   | (with_reducible exact ih0 _ _ _ _)
   | (with_reducible exact LeO.refl _)
   | (with_reducible exact LeO.none _)
   | (with_reducible refine LeO.ite ?_ ?_)
   | (with_reducible refine LeO.bind ?_ (fun _ => ?_))
   | exact ih0 _ _ _ _
   | exact LeO.none _
   | refine LeO.ite ?_ ?_
   | refine LeO.bind ?_ (fun _ => ?_)
theorem table_order.mono : ∀ a0 a1 k, LeO (table_order.f k a0 a1) (table_order.f (k + 1) a0 a1) := by
 intro a0 a1 k
 have ih0 := table_order.mono_l k
 unfold table_order.f
 repeat' first
   | (with_reducible exact ih0 _ _ _ _)
   | (with_reducible exact LeO.refl _)
   | (with_reducible exact LeO.none _)
   | (with_reducible refine LeO.ite ?_ ?_)
   | (with_reducible refine LeO.bind ?_ (fun _ => ?_))
   | exact ih0 _ _ _ _
   | exact LeO.none _
   | refine LeO.ite ?_ ?_
   | refine LeO.bind ?_ (fun _ => ?_)
def table_order.T12 : Bool × List (List Nat × List Nat) := (true, [([], []), ([], []), ([], []), ([1, 2], [1, 2]), ([3], [3]), ([4], [4]), ([], []), ([], []), ([6, 7], [6, 7]), ([8], [8]), ([9], [9]), ([5, 10], [5, 10]), ([0, 11], [0, 11]), ([12, 12, 0, 1, 2, 3, 4, 5, 6, 7, 8, 9, 10, 11, 12], [0, 12])])
def table_order.B12 : List Nat := [0, 0, 0, 6, 14, 30, 0, 0, 192, 448, 960, 2046, 4095, 8191]
theorem table_order.tab12 : rtab .any (opsOf Try.f65 12) = table_order.T12 := by kernel_rfl
theorem table_order.bits12 : waitsOk table_order.T12.2 table_order.B12 = true := by kernel_rfl
set_option maxHeartbeats 8000000 in
set_option maxRecDepth 100000 in
theorem table_order.calls (k : Nat) (A0 : Option Addr) (c0 : Nat) (l0 : List (S49)) (a1 : Int) (r : List Int) (w : World) (hr0 : Kd.C k49 w A0 l0.length l0) (hc0 : l0.length ≤ c0) (h : table_order.f k l0 a1 = some r) :
  Calls Try.prog 65 #[.slice A0 l0.length c0, .int .i64 a1] w fun e w' => ∃ v0_ : Value, e = .returned (v0_) ∧ Kd.R (Kd.int .i64) 3 w' w.heap.size (fun _ => True) v0_ r ∧ Below w.heap.size w w' := by
 have hu49 := Try.underlying49
 have HR0 := asd hr0
 have HC0 := asd hc0
 clear hr0 hc0
 have HB := asd (Below.refl w.heap.size w)
 have H : (if 0 ≤ (l0.length : Int) then (if ((l0.length : Int) : Int).toNat ≤ 281474976710656 then (table_order.l0 k l0 (List.replicate ((l0.length : Int) : Int).toNat false) ([] : List Int) (([a1] : List Int))) else (none)) else (none)) = some r := h
 clear h
 by_cases c3 : 0 ≤ (l0.length : Int)
 ·
  rw [if_pos c3] at H
  have c3b0 := eq_true c3
  have c3b1 : decide (0 ≤ (l0.length : Int)) = true := decide_eq_true c3
  clear c3
  by_cases c4 : ((l0.length : Int) : Int).toNat ≤ 281474976710656
  ·
   rw [if_pos c4] at H
   have c4b0 := eq_true c4
   have c4b1 : decide (((l0.length : Int) : Int).toNat ≤ 281474976710656) = true := decide_eq_true c4
   clear c4
   obtain ⟨y104, hy104⟩ : ∃ y_ : List Bool, y_ = (List.replicate ((l0.length : Int) : Int).toNat false) := ⟨_, rfl⟩
   replace H : (table_order.l0 k l0 y104 ([] : List Int) (([a1] : List Int))) = some r := by first | (rw [hy104]; with_reducible exact H) | (have H2_ := (Option.bind_some _ _).symm.trans H; rw [hy104]; with_reducible exact H2_) | (have H2_ := (Option.bind_some _ _).symm.trans H; with_reducible exact H2_) | with_reducible exact H | (rw [hy104]; exact H) | exact H
   have Ny104 := asd hy104
   clear hy104
   obtain ⟨y107, hy107⟩ : ∃ y_ : List Int, y_ = (([a1] : List Int)) := ⟨_, rfl⟩
   replace H : (table_order.l0 k l0 y104 ([] : List Int) y107) = some r := by first | (rw [hy107]; with_reducible exact H) | (have H2_ := (Option.bind_some _ _).symm.trans H; rw [hy107]; with_reducible exact H2_) | (have H2_ := (Option.bind_some _ _).symm.trans H; with_reducible exact H2_) | with_reducible exact H | (rw [hy107]; exact H) | exact H
   have Ny107 := asd hy107
   clear hy107
   have H' := asd H
   clear H
   go_enter Try.func65, Try.ntmps65
   go_wp2_with (first | ((with_reducible refine gate_dst (N := 11) rfl ?_); refine Kd.R_make Kd.bool _ 4 rfl (N := 11) rfl 60 _ _ rfl (l0.length : Int) rfl rfl Try.underlying60 (.bool false) 1 info4 rfl (by decide) (by omega) false (ok := fun _ => True) (okp := fun _ => True) rfl (fun _ hk => hk) trivial dt (Nat.le_trans (Nat.mul_le_mul_right _ (dt : (l0.length : Int).toNat ≤ 281474976710656)) (by omega)) (Below.refl _ _) (Nat.le_refl _) ?_; intro v105 w5 ho6 hb hg_ hnew_; clear hg_ hnew_; (first | rw [← Ny104.out] at ho6 | (simp only [Int.reduceToNat] at ho6; rw [← Ny104.out] at ho6)); have n0_ := asd (Kd.R_lower ho6 (below_size (skB HB.out))); have n1_ := asd (below_step (skB HB.out) hb); clear HB; have HO106 := n0_; have HB := n1_; clear n0_ n1_; clear hb ho6) | ((with_reducible refine gate_dst (N := 13) rfl ?_); refine Kd.R_lit (Kd.int .i64) _ 3 ?hg (N := 13) ?hd (xs := ([a1] : List Int)) (inner := [.int .i64 a1]) (ok := fun _ => True) (okp := fun _ => True) ?hr ?hp (fun _ hk => hk) trivial (Below.refl _ _) (Nat.le_refl _) (by simp) ?_; (case hd => rfl); (case hg => rfl); (case hr => first | (go_simp; done) | (go_simp; rfl)); (case hp => exact (Reps.one (show Kd.M (Kd.int .i64) _ _ _ a1 [.int .i64 a1] from rfl) (Reps.none _ _))); intro v108 w7 ho8 hb hg_ hnew_; clear hg_ hnew_; (first | rw [← Ny107.out] at ho8 | (simp only [Int.reduceToNat] at ho8; rw [← Ny107.out] at ho8)); have n0_ := asd (Kd.R_below (skR HO106.out) hb); have n1_ := asd (Kd.R_lower ho8 (below_size (skB HB.out))); have n2_ := asd (below_step (skB HB.out) hb); clear HO106; clear HB; have HO106 := n0_; have HO109 := n1_; have HB := n2_; clear n0_ n1_ n2_; clear hb ho8))
   go_loopg [6, 7] k (fun kq v6 v7 w' => ∃ (x5_1 : List Bool) (x6_1 : List Int) (x7_1 : List Int), Aside0 (table_order.l0 kq l0 x5_1 x6_1 x7_1 = some r) ∧ Aside0 (kq ≤ k) ∧ Aside0 (Kd.R Kd.bool 4 w' w.heap.size (fun _ => True) v105 x5_1) ∧ Aside0 (Kd.R (Kd.int .i64) 3 w' w.heap.size (fun k_ => some k_ ≠ (v7 : Value).ownBlock) v6 x6_1) ∧ Aside0 (Kd.R (Kd.int .i64) 3 w' w.heap.size (fun k_ => some k_ ≠ (v6 : Value).ownBlock) v7 x7_1) ∧ Aside0 (Below w.heap.size w w'))
   case atStart => exact ⟨(y104), (([] : List Int)), (y107), H', ⟨Nat.le_refl _⟩, ⟨skR HO106.out⟩, ⟨by first | exact Kd.R_nil _ _ _ _ _ | exact Kd.N_nil _ _ _ _ _ | exact Kd.V_nil _ _ _ _ _ | exact Kd.Q_nil _ _ _ _ _ | exact Kd.S_nil _ _ _ _ _⟩, ⟨skR (Kd.R_mono HO109.out (fun _ hk => (by simp [Value.ownBlock])))⟩, ⟨skB HB.out⟩⟩
   case round =>
    clear H'
    try clear p2
    try clear c3
    try clear c3b0
    try clear c3b1
    try clear c4
    try clear c4b0
    try clear c4b1
    try clear c6
    obtain ⟨x5_1, x6_1, x7_1, HA, HK1, HO_5, HO_6, HO_7, HB⟩ := hrel
    cases gk with
    | zero => exact absurd HA.out (by simp [table_order.l0])
    | succ k1 =>
     have H := HA.out
     clear HA
     simp only [table_order.l0] at H
     by_cases c9 : (x7_1.length : Int) > 0
     ·
      rw [if_pos c9] at H
      have c9b0 : decide (0 < (x7_1.length : Int)) = true := decide_eq_true c9
      have c9b1 : decide (0 < x7_1.length) = true := decide_eq_true (by omega)
      clear c9
      obtain ⟨ji10, hji10⟩ : ∃ j_ : Int, (wrap64 ((x7_1.length : Int) - 1)) = j_ := ⟨_, rfl⟩
      replace H : (if 0 ≤ (ji10) then (if (ji10) < (x7_1.length : Int) then (if (ji10) ≤ (x7_1.length : Int) then ((some (x7_1.take ((ji10) : Int).toNat : List Int)).bind fun y111 => (if 0 ≤ (rd x7_1 (ji10)) then (if (rd x7_1 (ji10)) < (x5_1.length : Int) then (if rdOf false x5_1 (rd x7_1 (ji10)) = true then (some ([] : List Int)) else ((some (x5_1.set ((rd x7_1 (ji10)) : Int).toNat true : List Bool)).bind fun y115 => (if x6_1.length < 17592186044416 then ((some (x6_1 ++ [rd x7_1 (ji10)] : List Int)).bind fun y116 => (if (rd x7_1 (ji10)) < (l0.length : Int) then ((table_isLeaf.f ((J49 l0 (rd x7_1 (ji10))).f0) ((J49 l0 (rd x7_1 (ji10))).f1) ((J49 l0 (rd x7_1 (ji10))).f2) ((J49 l0 (rd x7_1 (ji10))).f3) ((J49 l0 (rd x7_1 (ji10))).f4) ((J49 l0 (rd x7_1 (ji10))).f5)).bind fun t120 => (if t120 = true then (table_order.l0 k1 l0 y115 y116 y111) else ((some (([(J49 l0 (rd x7_1 (ji10))).f5, (J49 l0 (rd x7_1 (ji10))).f4] : List Int) : List Int)).bind fun y123 => (if y111.length + y123.length < 17592186044416 then (table_order.l0 k1 l0 y115 y116 (y111 ++ y123)) else (none))))) else (none))) else (none)))) else (none)) else (none))) else (none)) else (none)) else (none)) = some r := by first | (rw [hji10] at H; exact H) | (simp only [hji10] at H ⊢; exact H)
      have hji10w : (IntKind.i64.wrap ((x7_1.length : Int) - 1)) = ji10 := (i64_w _).trans hji10
      by_cases c11 : 0 ≤ (ji10)
      ·
       rw [if_pos c11] at H
       have c11b0 : decide (0 ≤ (ji10)) = true := decide_eq_true c11
       clear c11
       by_cases c12 : (ji10) < (x7_1.length : Int)
       ·
        rw [if_pos c12] at H
        have c12b0 : decide ((ji10) < (x7_1.length : Int)) = true := decide_eq_true c12
        clear c12
        by_cases c13 : (ji10) ≤ (x7_1.length : Int)
        ·
         rw [if_pos c13] at H
         have c13b0 := eq_true c13
         have c13b1 : decide ((ji10) ≤ (x7_1.length : Int)) = true := decide_eq_true c13
         clear c13
         obtain ⟨y111, hy111⟩ : ∃ y_ : List Int, y_ = (x7_1.take ((ji10) : Int).toNat) := ⟨_, rfl⟩
         replace H : (if 0 ≤ (rd x7_1 (ji10)) then (if (rd x7_1 (ji10)) < (x5_1.length : Int) then (if rdOf false x5_1 (rd x7_1 (ji10)) = true then (some ([] : List Int)) else ((some (x5_1.set ((rd x7_1 (ji10)) : Int).toNat true : List Bool)).bind fun y115 => (if x6_1.length < 17592186044416 then ((some (x6_1 ++ [rd x7_1 (ji10)] : List Int)).bind fun y116 => (if (rd x7_1 (ji10)) < (l0.length : Int) then ((table_isLeaf.f ((J49 l0 (rd x7_1 (ji10))).f0) ((J49 l0 (rd x7_1 (ji10))).f1) ((J49 l0 (rd x7_1 (ji10))).f2) ((J49 l0 (rd x7_1 (ji10))).f3) ((J49 l0 (rd x7_1 (ji10))).f4) ((J49 l0 (rd x7_1 (ji10))).f5)).bind fun t120 => (if t120 = true then (table_order.l0 k1 l0 y115 y116 y111) else ((some (([(J49 l0 (rd x7_1 (ji10))).f5, (J49 l0 (rd x7_1 (ji10))).f4] : List Int) : List Int)).bind fun y123 => (if y111.length + y123.length < 17592186044416 then (table_order.l0 k1 l0 y115 y116 (y111 ++ y123)) else (none))))) else (none))) else (none)))) else (none)) else (none)) = some r := by first | (rw [hy111]; with_reducible exact H) | (have H2_ := (Option.bind_some _ _).symm.trans H; rw [hy111]; with_reducible exact H2_) | (have H2_ := (Option.bind_some _ _).symm.trans H; with_reducible exact H2_) | with_reducible exact H | (rw [hy111]; exact H) | exact H
         have Ny111 := asd hy111
         clear hy111
         by_cases c14 : 0 ≤ (rd x7_1 (ji10))
         ·
          rw [if_pos c14] at H
          have c14b0 : decide (0 ≤ (rd x7_1 (ji10))) = true := decide_eq_true c14
          clear c14
          by_cases c15 : (rd x7_1 (ji10)) < (x5_1.length : Int)
          ·
           rw [if_pos c15] at H
           have c15b0 : decide ((rd x7_1 (ji10)) < (x5_1.length : Int)) = true := decide_eq_true c15
           clear c15
           obtain ⟨bq16, hbq16⟩ : ∃ b_ : Bool, b_ = (rdOf false x5_1 (rd x7_1 (ji10))) := ⟨_, rfl⟩
           replace H : (if bq16 = true then (some ([] : List Int)) else ((some (x5_1.set ((rd x7_1 (ji10)) : Int).toNat true : List Bool)).bind fun y115 => (if x6_1.length < 17592186044416 then ((some (x6_1 ++ [rd x7_1 (ji10)] : List Int)).bind fun y116 => (if (rd x7_1 (ji10)) < (l0.length : Int) then ((table_isLeaf.f ((J49 l0 (rd x7_1 (ji10))).f0) ((J49 l0 (rd x7_1 (ji10))).f1) ((J49 l0 (rd x7_1 (ji10))).f2) ((J49 l0 (rd x7_1 (ji10))).f3) ((J49 l0 (rd x7_1 (ji10))).f4) ((J49 l0 (rd x7_1 (ji10))).f5)).bind fun t120 => (if t120 = true then (table_order.l0 k1 l0 y115 y116 y111) else ((some (([(J49 l0 (rd x7_1 (ji10))).f5, (J49 l0 (rd x7_1 (ji10))).f4] : List Int) : List Int)).bind fun y123 => (if y111.length + y123.length < 17592186044416 then (table_order.l0 k1 l0 y115 y116 (y111 ++ y123)) else (none))))) else (none))) else (none)))) = some r := by rw [← hbq16] at H; exact H
           have Nbq16 := asd hbq16
           clear hbq16
           by_cases c17 : bq16 = true
           ·
            subst c17
            have H1 : (some ([] : List Int)) = some r := by rw [if_pos rfl] at H; exact H
            clear H
            have H := H1
            clear H1
            obtain rfl := Option.some.inj H
            obtain ⟨Ao18, co18, eo18⟩ := Kd.R_slice HO_7.out
            subst eo18
            have p110 : 0 ≤ ((ji10) : Int) := dt
            have q110 : (ji10) < (x7_1.length : Int) := dt
            obtain ⟨ad110, e110, hx110_0⟩ := Kd.at_int (Kd.R_reads' HO_7.out).2.2 (ji10) p110 q110
            cases e110
            replace p110 := eq_true p110
            replace q110 := eq_true q110
            have q19 : ((ji10) : Int) ≤ ((x7_1.length : Int) : Int) := dt
            obtain ⟨i019, hi019, _, hsz19, _⟩ := info_parts info3
            have hcut19 := cut_to (P := Try.prog) 23 3 .i64 Try.underlying23 hi019 (some ad110) x7_1.length co18 (ji10) dt q19 (Kd.R_reads' HO_7.out).2.1
            have hr19 := Kd.R_take (m := ((ji10) : Int).toNat) HO_7.out (by omega)
            have hy19 : y111.length = ((ji10) : Int).toNat := (by rw [Ny111.out, List.length_take]; omega)
            rw [← Ny111.out] at hr19
            rw [← hy19] at hr19 hcut19
            clear hy19 hi019 hsz19 HO_7
            have HO113 := asd hr19
            clear hr19
            replace q19 := eq_true q19
            obtain ⟨Ao20, co20, eo20⟩ := Kd.R_slice HO_5.out
            subst eo20
            have p114 : 0 ≤ ((rd x7_1 (ji10)) : Int) := dt
            have q114 : (rd x7_1 (ji10)) < (x5_1.length : Int) := dt
            obtain ⟨ad114, e114, hx114_0⟩ := Kd.at_bool (Kd.R_reads' HO_5.out).2.2 (rd x7_1 (ji10)) p114 q114
            (try rw [← Nbq16.out] at hx114_0)
            cases e114
            replace p114 := eq_true p114
            replace q114 := eq_true q114
            go_wp2
            go_ret
            exact ⟨_, by first | rfl | (simp [errW_none, errW_some] <;> rfl) | (simp only [← hji10]; first | rfl | (simp [errW_none, errW_some] <;> rfl)) | (simp [*, errW_none, errW_some] <;> rfl), by first | exact Kd.R_nil _ _ _ _ _ | exact Kd.N_nil _ _ _ _ _ | exact Kd.V_nil _ _ _ _ _ | exact Kd.Q_nil _ _ _ _ _ | exact Kd.S_nil _ _ _ _ _, skB HB.out⟩
           ·
            replace c17 := Bool.eq_false_iff.mpr c17
            subst c17
            have H1 : ((some (x5_1.set ((rd x7_1 (ji10)) : Int).toNat true : List Bool)).bind fun y115 => (if x6_1.length < 17592186044416 then ((some (x6_1 ++ [rd x7_1 (ji10)] : List Int)).bind fun y116 => (if (rd x7_1 (ji10)) < (l0.length : Int) then ((table_isLeaf.f ((J49 l0 (rd x7_1 (ji10))).f0) ((J49 l0 (rd x7_1 (ji10))).f1) ((J49 l0 (rd x7_1 (ji10))).f2) ((J49 l0 (rd x7_1 (ji10))).f3) ((J49 l0 (rd x7_1 (ji10))).f4) ((J49 l0 (rd x7_1 (ji10))).f5)).bind fun t120 => (if t120 = true then (table_order.l0 k1 l0 y115 y116 y111) else ((some (([(J49 l0 (rd x7_1 (ji10))).f5, (J49 l0 (rd x7_1 (ji10))).f4] : List Int) : List Int)).bind fun y123 => (if y111.length + y123.length < 17592186044416 then (table_order.l0 k1 l0 y115 y116 (y111 ++ y123)) else (none))))) else (none))) else (none))) = some r := by rw [if_neg (show ¬ (false = true) by decide)] at H; exact H
            clear H
            have H := H1
            clear H1
            obtain ⟨y115, hy115⟩ : ∃ y_ : List Bool, y_ = (x5_1.set ((rd x7_1 (ji10)) : Int).toNat true) := ⟨_, rfl⟩
            replace H : (if x6_1.length < 17592186044416 then ((some (x6_1 ++ [rd x7_1 (ji10)] : List Int)).bind fun y116 => (if (rd x7_1 (ji10)) < (l0.length : Int) then ((table_isLeaf.f ((J49 l0 (rd x7_1 (ji10))).f0) ((J49 l0 (rd x7_1 (ji10))).f1) ((J49 l0 (rd x7_1 (ji10))).f2) ((J49 l0 (rd x7_1 (ji10))).f3) ((J49 l0 (rd x7_1 (ji10))).f4) ((J49 l0 (rd x7_1 (ji10))).f5)).bind fun t120 => (if t120 = true then (table_order.l0 k1 l0 y115 y116 y111) else ((some (([(J49 l0 (rd x7_1 (ji10))).f5, (J49 l0 (rd x7_1 (ji10))).f4] : List Int) : List Int)).bind fun y123 => (if y111.length + y123.length < 17592186044416 then (table_order.l0 k1 l0 y115 y116 (y111 ++ y123)) else (none))))) else (none))) else (none)) = some r := by first | (rw [hy115]; with_reducible exact H) | (have H2_ := (Option.bind_some _ _).symm.trans H; rw [hy115]; with_reducible exact H2_) | (have H2_ := (Option.bind_some _ _).symm.trans H; with_reducible exact H2_) | with_reducible exact H | (rw [hy115]; exact H) | exact H
            have Ny115 := asd hy115
            clear hy115
            by_cases c22 : x6_1.length < 17592186044416
            ·
             rw [if_pos c22] at H
             have LMc22 := asd c22
             clear c22
             obtain ⟨y116, hy116⟩ : ∃ y_ : List Int, y_ = (x6_1 ++ [rd x7_1 (ji10)]) := ⟨_, rfl⟩
             replace H : (if (rd x7_1 (ji10)) < (l0.length : Int) then ((table_isLeaf.f ((J49 l0 (rd x7_1 (ji10))).f0) ((J49 l0 (rd x7_1 (ji10))).f1) ((J49 l0 (rd x7_1 (ji10))).f2) ((J49 l0 (rd x7_1 (ji10))).f3) ((J49 l0 (rd x7_1 (ji10))).f4) ((J49 l0 (rd x7_1 (ji10))).f5)).bind fun t120 => (if t120 = true then (table_order.l0 k1 l0 y115 y116 y111) else ((some (([(J49 l0 (rd x7_1 (ji10))).f5, (J49 l0 (rd x7_1 (ji10))).f4] : List Int) : List Int)).bind fun y123 => (if y111.length + y123.length < 17592186044416 then (table_order.l0 k1 l0 y115 y116 (y111 ++ y123)) else (none))))) else (none)) = some r := by first | (rw [hy116]; with_reducible exact H) | (have H2_ := (Option.bind_some _ _).symm.trans H; rw [hy116]; with_reducible exact H2_) | (have H2_ := (Option.bind_some _ _).symm.trans H; with_reducible exact H2_) | with_reducible exact H | (rw [hy116]; exact H) | exact H
             have Ny116 := asd hy116
             clear hy116
             by_cases c23 : (rd x7_1 (ji10)) < (l0.length : Int)
             ·
              rw [if_pos c23] at H
              have c23b0 : decide ((rd x7_1 (ji10)) < (l0.length : Int)) = true := decide_eq_true c23
              clear c23
              replace H := Option.bind_eq_some_iff.mp H
              obtain ⟨t120, A240, H⟩ := H
              replace H : (if t120 = true then (table_order.l0 k1 l0 y115 y116 y111) else ((some (([(J49 l0 (rd x7_1 (ji10))).f5, (J49 l0 (rd x7_1 (ji10))).f4] : List Int) : List Int)).bind fun y123 => (if y111.length + y123.length < 17592186044416 then (table_order.l0 k1 l0 y115 y116 (y111 ++ y123)) else (none)))) = some r := H
              have A24 := asd A240
              clear A240
              by_cases c25 : t120 = true
              ·
               subst c25
               have H1 : (table_order.l0 k1 l0 y115 y116 y111) = some r := by rw [if_pos rfl] at H; exact H
               clear H
               have H := H1
               clear H1
               have H' := asd H
               clear H
               obtain ⟨Ao26, co26, eo26⟩ := Kd.R_slice HO_7.out
               subst eo26
               have p110 : 0 ≤ ((ji10) : Int) := dt
               have q110 : (ji10) < (x7_1.length : Int) := dt
               obtain ⟨ad110, e110, hx110_0⟩ := Kd.at_int (Kd.R_reads' HO_7.out).2.2 (ji10) p110 q110
               cases e110
               replace p110 := eq_true p110
               replace q110 := eq_true q110
               have q27 : ((ji10) : Int) ≤ ((x7_1.length : Int) : Int) := dt
               obtain ⟨i027, hi027, _, hsz27, _⟩ := info_parts info3
               have hcut27 := cut_to (P := Try.prog) 23 3 .i64 Try.underlying23 hi027 (some ad110) x7_1.length co26 (ji10) dt q27 (Kd.R_reads' HO_7.out).2.1
               have hr27 := Kd.R_take (m := ((ji10) : Int).toNat) HO_7.out (by omega)
               have hy27 : y111.length = ((ji10) : Int).toNat := (by rw [Ny111.out, List.length_take]; omega)
               rw [← Ny111.out] at hr27
               rw [← hy27] at hr27 hcut27
               clear hy27 hi027 hsz27 HO_7
               have HO113 := asd hr27
               clear hr27
               replace q27 := eq_true q27
               obtain ⟨Ao28, co28, eo28⟩ := Kd.R_slice HO_5.out
               subst eo28
               have p114 : 0 ≤ ((rd x7_1 (ji10)) : Int) := dt
               have q114 : (rd x7_1 (ji10)) < (x5_1.length : Int) := dt
               obtain ⟨ad114, e114, hx114_0⟩ := Kd.at_bool (Kd.R_reads' HO_5.out).2.2 (rd x7_1 (ji10)) p114 q114
               (try rw [← Nbq16.out] at hx114_0)
               cases e114
               replace p114 := eq_true p114
               replace q114 := eq_true q114
               have p21 : 0 ≤ ((rd x7_1 (ji10)) : Int) := dt
               have q21 : ((rd x7_1 (ji10)) : Int) < ((x5_1.length : Int) : Int) := dt
               obtain ⟨go21, co21, eo21, gb21, gl21, cl21, HG21⟩ := Kd.R_form HO_5.out (by omega)
               (first | cases eo21 | (injection eo21 with ea_ en_ ec_; (first | subst ea_ | (injection ea_ with ea_; subst ea_)); subst ec_; clear en_))
               have GB21 := asd gb21
               have GG21 := asd HG21
               clear gb21 gl21 HG21
               (first | simp only [add_plain] at hx114_0 | skip)
               obtain ⟨hx21_0, hf21_0⟩ := Kd.R_celln false HO_5.out ((rd x7_1 (ji10)) : Int) p21 q21
               replace p21 := eq_true p21
               replace q21 := eq_true q21
               have HP29 := Kd.R_putg HO_5.out ((rd x7_1 (ji10)) : Int) true
               go_wp2_with (first | ((with_reducible refine gate_store (t := 4) (p := 34) rfl ?_); refine store_event (t := 4) (p := 34) (v := ?vo_w30) (w1 := (wr.setCell ⟨go21, ((rd x7_1 (ji10)) : Int).toNat, none⟩ (.bool true))) ?hg ?ho ?hn ?hr ?_; (case ho => rfl); (case hg => rfl); (case hn => rfl); (case hr => first | (go_simp; done) | (go_simp; rfl)); intro w30 hw; have hg : wr.grownBy w30 (some go21) := (by rw [hw]; exact HP29.2); have hp_ : Kd.R Kd.bool 4 w30 w.heap.size (fun _ => True) (.slice (some ⟨go21, 0, none⟩) x5_1.length co28) y115 := (by rw [hw, Ny115.out]; exact HP29.1); clear HP29; have n0_ := asd (hp_); have n1_ := asd (Kd.R_over' (v := (.slice (some ⟨go21, 0, none⟩) x5_1.length co28)) (skR HO_6.out) (Kd.R_typed HO_5.out) (by decide) hg); have n2_ := asd (Kd.R_over' (v := (.slice (some ⟨go21, 0, none⟩) x5_1.length co28)) (skR HO113.out) (Kd.R_typed HO_5.out) (by decide) hg); have n3_ := asd ((by rw [hw]; exact below_set (HB.out) GB21.out : Below w.heap.size w w30)); clear HO_5; clear HO_6; clear HO113; clear HB; have HO_5 := n0_; have HO_6 := n1_; have HO113 := n2_; have HB := n3_; clear n0_ n1_ n2_ n3_; clear hg hw hp_) | ((with_reducible refine gate_builtin (b := .append) (xs := #[.tmp 35, .tmp 37]) rfl ?_); at_builtin; refine Kd.R_append (Kd.int .i64) (w0 := w) w.heap.size rfl (.tmp 35) (.tmp 37) 23 3 (.int .i64 0) 8 rfl Try.underlying23 info3 rfl (by decide) (by omega) u6 x6_1 (rd x7_1 (ji10)) [.int .i64 (rd x7_1 (ji10))] (fun k_ => some k_ ≠ (.slice (some ad110) y111.length co26 : Value).ownBlock) (fun _ => False) rfl rfl ?aP (fun _ hk => hk.elim) ?aF ?aO ?aB ?aS ?aL ?_; (case aP => exact rfl); (case aB => exact (skB HB.out)); (case aF => exact (fun k_ hk => Kd.fresh' (Kd.R_lt (skR HO113.out)) k_ hk)); (case aO => exact (skR HO_6.out)); (case aS => exact (below_size (skB HB.out))); (case aL => have := LMc22.out; omega); intro v117 w31 ho hb hg hat; rw [← Ny116.out] at ho; have n0_ := asd (Kd.R_over' (skR HO_5.out) (Kd.R_typed (skR HO_6.out)) (by decide) hg); have n1_ := asd (Kd.R_after (ok := (fun _ => True)) (skR (Kd.R_mono HO113.out (fun _ hk => ⟨trivial, hk⟩))) hg hat); have n2_ := asd (hb); have n3_ := asd (ho); clear HO_5; clear HO113; clear HB; clear HO_6; have HO_5 := n0_; have HO113 := n1_; have HB := n2_; have HO118 := n3_; clear n0_ n1_ n2_ n3_; clear ho hb hg hat; have p119 : 0 ≤ ((rd x7_1 (ji10)) : Int) := dt; have q119 : (rd x7_1 (ji10)) < (l0.length : Int) := dt; obtain ⟨ad119, e119, hx119_0, hx119_1, hx119_2, hx119_3, hx119_4, hx119_5⟩ := at_T49 HR0.out (rd x7_1 (ji10)) p119 q119; cases e119; replace hx119_0 := skc HB.out hx119_0; replace hx119_1 := skc HB.out hx119_1; replace hx119_2 := skc HB.out hx119_2; replace hx119_3 := skc HB.out hx119_3; replace hx119_4 := skc HB.out hx119_4; replace hx119_5 := skc HB.out hx119_5; replace p119 := eq_true p119; replace q119 := eq_true q119) | ((with_reducible refine gate_callee (f := 66) rfl ?_); refine goesL_ (some 43) rfl rfl Try.func66 (by kernel_rfl) rfl #[.agg #[.int .i64 ((J49 l0 (rd x7_1 (ji10))).f0), .int .i64 ((J49 l0 (rd x7_1 (ji10))).f1), .int .i64 ((J49 l0 (rd x7_1 (ji10))).f2), .int .i64 ((J49 l0 (rd x7_1 (ji10))).f3), .int .i64 ((J49 l0 (rd x7_1 (ji10))).f4), .int .i64 ((J49 l0 (rd x7_1 (ji10))).f5)]] rfl (by (try simp only [List.map_toArray, List.map_cons, List.map_nil]); first | done | (simp only [hji10]; rfl) | rfl | (simp only [List.length_drop, List.length_take]; rfl)) ?_; (with_reducible refine (table_isLeaf.calls ((J49 l0 (rd x7_1 (ji10))).f0) ((J49 l0 (rd x7_1 (ji10))).f1) ((J49 l0 (rd x7_1 (ji10))).f2) ((J49 l0 (rd x7_1 (ji10))).f3) ((J49 l0 (rd x7_1 (ji10))).f4) ((J49 l0 (rd x7_1 (ji10))).f5) true _ A24.out).mono ?_); rintro e w32 ⟨rfl, hb⟩; refine ⟨_, rfl, ?_⟩; have n0_ := asd (Kd.R_below (skR HO_5.out) hb); have n1_ := asd (Kd.R_below (skR HO113.out) hb); have n2_ := asd (Kd.R_below (skR HO118.out) hb); have n3_ := asd (below_step (skB HB.out) hb); clear HO_5; clear HO113; clear HO118; clear HB; have HO_5 := n0_; have HO113 := n1_; have HO118 := n2_; have HB := n3_; clear n0_ n1_ n2_ n3_; (try clear hb); (try clear hb2); (try clear hk); (try clear hi)))
               go_roundg k1
               case measure => have := HK1.out; omega
               case rel => exact ⟨(y115), (y116), (y111), H', ⟨by have := HK1.out; omega⟩, ⟨skR HO_5.out⟩, ⟨skR HO118.out⟩, ⟨skR (Kd.R_mono HO113.out (fun _ hk => hk.2))⟩, ⟨skB HB.out⟩⟩
              ·
               replace c25 := Bool.eq_false_iff.mpr c25
               subst c25
               have H1 : ((some (([(J49 l0 (rd x7_1 (ji10))).f5, (J49 l0 (rd x7_1 (ji10))).f4] : List Int) : List Int)).bind fun y123 => (if y111.length + y123.length < 17592186044416 then (table_order.l0 k1 l0 y115 y116 (y111 ++ y123)) else (none))) = some r := by rw [if_neg (show ¬ (false = true) by decide)] at H; exact H
               clear H
               have H := H1
               clear H1
               obtain ⟨y123, hy123⟩ : ∃ y_ : List Int, y_ = (([(J49 l0 (rd x7_1 (ji10))).f5, (J49 l0 (rd x7_1 (ji10))).f4] : List Int)) := ⟨_, rfl⟩
               replace H : (if y111.length + y123.length < 17592186044416 then (table_order.l0 k1 l0 y115 y116 (y111 ++ y123)) else (none)) = some r := by first | (rw [hy123]; with_reducible exact H) | (have H2_ := (Option.bind_some _ _).symm.trans H; rw [hy123]; with_reducible exact H2_) | (have H2_ := (Option.bind_some _ _).symm.trans H; with_reducible exact H2_) | with_reducible exact H | (rw [hy123]; exact H) | exact H
               have Ny123 := asd hy123
               clear hy123
               by_cases c33 : y111.length + y123.length < 17592186044416
               ·
                rw [if_pos c33] at H
                have LMc33 := asd c33
                clear c33
                obtain ⟨y126, hy126⟩ : ∃ y_ : List Int, y_ = (y111 ++ y123) := ⟨_, rfl⟩
                replace H : (table_order.l0 k1 l0 y115 y116 y126) = some r := by first | (rw [hy126]; with_reducible exact H) | (have H2_ := (Option.bind_some _ _).symm.trans H; rw [hy126]; with_reducible exact H2_) | (have H2_ := (Option.bind_some _ _).symm.trans H; with_reducible exact H2_) | with_reducible exact H | (rw [hy126]; exact H) | exact H
                have Ny126 := asd hy126
                clear hy126
                have H' := asd H
                clear H
                obtain ⟨Ao34, co34, eo34⟩ := Kd.R_slice HO_7.out
                subst eo34
                have p110 : 0 ≤ ((ji10) : Int) := dt
                have q110 : (ji10) < (x7_1.length : Int) := dt
                obtain ⟨ad110, e110, hx110_0⟩ := Kd.at_int (Kd.R_reads' HO_7.out).2.2 (ji10) p110 q110
                cases e110
                replace p110 := eq_true p110
                replace q110 := eq_true q110
                have q35 : ((ji10) : Int) ≤ ((x7_1.length : Int) : Int) := dt
                obtain ⟨i035, hi035, _, hsz35, _⟩ := info_parts info3
                have hcut35 := cut_to (P := Try.prog) 23 3 .i64 Try.underlying23 hi035 (some ad110) x7_1.length co34 (ji10) dt q35 (Kd.R_reads' HO_7.out).2.1
                have hr35 := Kd.R_take (m := ((ji10) : Int).toNat) HO_7.out (by omega)
                have hy35 : y111.length = ((ji10) : Int).toNat := (by rw [Ny111.out, List.length_take]; omega)
                rw [← Ny111.out] at hr35
                rw [← hy35] at hr35 hcut35
                clear hy35 hi035 hsz35 HO_7
                have HO113 := asd hr35
                clear hr35
                replace q35 := eq_true q35
                obtain ⟨Ao36, co36, eo36⟩ := Kd.R_slice HO_5.out
                subst eo36
                have p114 : 0 ≤ ((rd x7_1 (ji10)) : Int) := dt
                have q114 : (rd x7_1 (ji10)) < (x5_1.length : Int) := dt
                obtain ⟨ad114, e114, hx114_0⟩ := Kd.at_bool (Kd.R_reads' HO_5.out).2.2 (rd x7_1 (ji10)) p114 q114
                (try rw [← Nbq16.out] at hx114_0)
                cases e114
                replace p114 := eq_true p114
                replace q114 := eq_true q114
                have p21 : 0 ≤ ((rd x7_1 (ji10)) : Int) := dt
                have q21 : ((rd x7_1 (ji10)) : Int) < ((x5_1.length : Int) : Int) := dt
                obtain ⟨go21, co21, eo21, gb21, gl21, cl21, HG21⟩ := Kd.R_form HO_5.out (by omega)
                (first | cases eo21 | (injection eo21 with ea_ en_ ec_; (first | subst ea_ | (injection ea_ with ea_; subst ea_)); subst ec_; clear en_))
                have GB21 := asd gb21
                have GG21 := asd HG21
                clear gb21 gl21 HG21
                (first | simp only [add_plain] at hx114_0 | skip)
                obtain ⟨hx21_0, hf21_0⟩ := Kd.R_celln false HO_5.out ((rd x7_1 (ji10)) : Int) p21 q21
                replace p21 := eq_true p21
                replace q21 := eq_true q21
                have HP37 := Kd.R_putg HO_5.out ((rd x7_1 (ji10)) : Int) true
                try go_wp2_with (first | ((with_reducible refine gate_store (t := 4) (p := 34) rfl ?_); refine store_event (t := 4) (p := 34) (v := ?vo_w38) (w1 := (wr.setCell ⟨go21, ((rd x7_1 (ji10)) : Int).toNat, none⟩ (.bool true))) ?hg ?ho ?hn ?hr ?_; (case ho => rfl); (case hg => rfl); (case hn => rfl); (case hr => first | (go_simp; done) | (go_simp; rfl)); intro w38 hw; have hg : wr.grownBy w38 (some go21) := (by rw [hw]; exact HP37.2); have hp_ : Kd.R Kd.bool 4 w38 w.heap.size (fun _ => True) (.slice (some ⟨go21, 0, none⟩) x5_1.length co36) y115 := (by rw [hw, Ny115.out]; exact HP37.1); clear HP37; have n0_ := asd (hp_); have n1_ := asd (Kd.R_over' (v := (.slice (some ⟨go21, 0, none⟩) x5_1.length co36)) (skR HO_6.out) (Kd.R_typed HO_5.out) (by decide) hg); have n2_ := asd (Kd.R_over' (v := (.slice (some ⟨go21, 0, none⟩) x5_1.length co36)) (skR HO113.out) (Kd.R_typed HO_5.out) (by decide) hg); have n3_ := asd ((by rw [hw]; exact below_set (HB.out) GB21.out : Below w.heap.size w w38)); clear HO_5; clear HO_6; clear HO113; clear HB; have HO_5 := n0_; have HO_6 := n1_; have HO113 := n2_; have HB := n3_; clear n0_ n1_ n2_ n3_; clear hg hw hp_) | ((with_reducible refine gate_builtin (b := .append) (xs := #[.tmp 35, .tmp 37]) rfl ?_); at_builtin; refine Kd.R_append (Kd.int .i64) (w0 := w) w.heap.size rfl (.tmp 35) (.tmp 37) 23 3 (.int .i64 0) 8 rfl Try.underlying23 info3 rfl (by decide) (by omega) u6 x6_1 (rd x7_1 (ji10)) [.int .i64 (rd x7_1 (ji10))] (fun k_ => some k_ ≠ (.slice (some ad110) y111.length co34 : Value).ownBlock) (fun _ => False) rfl rfl ?aP (fun _ hk => hk.elim) ?aF ?aO ?aB ?aS ?aL ?_; (case aP => exact rfl); (case aB => exact (skB HB.out)); (case aF => exact (fun k_ hk => Kd.fresh' (Kd.R_lt (skR HO113.out)) k_ hk)); (case aO => exact (skR HO_6.out)); (case aS => exact (below_size (skB HB.out))); (case aL => have := LMc22.out; omega); intro v117 w39 ho hb hg hat; rw [← Ny116.out] at ho; have n0_ := asd (Kd.R_over' (skR HO_5.out) (Kd.R_typed (skR HO_6.out)) (by decide) hg); have n1_ := asd (Kd.R_after (ok := (fun _ => True)) (skR (Kd.R_mono HO113.out (fun _ hk => ⟨trivial, hk⟩))) hg hat); have n2_ := asd (hb); have n3_ := asd (ho); clear HO_5; clear HO113; clear HB; clear HO_6; have HO_5 := n0_; have HO113 := n1_; have HB := n2_; have HO118 := n3_; clear n0_ n1_ n2_ n3_; clear ho hb hg hat; have p119 : 0 ≤ ((rd x7_1 (ji10)) : Int) := dt; have q119 : (rd x7_1 (ji10)) < (l0.length : Int) := dt; obtain ⟨ad119, e119, hx119_0, hx119_1, hx119_2, hx119_3, hx119_4, hx119_5⟩ := at_T49 HR0.out (rd x7_1 (ji10)) p119 q119; cases e119; replace hx119_0 := skc HB.out hx119_0; replace hx119_1 := skc HB.out hx119_1; replace hx119_2 := skc HB.out hx119_2; replace hx119_3 := skc HB.out hx119_3; replace hx119_4 := skc HB.out hx119_4; replace hx119_5 := skc HB.out hx119_5; replace p119 := eq_true p119; replace q119 := eq_true q119) | ((with_reducible refine gate_callee (f := 66) rfl ?_); refine goesL_ (some 43) rfl rfl Try.func66 (by kernel_rfl) rfl #[.agg #[.int .i64 ((J49 l0 (rd x7_1 (ji10))).f0), .int .i64 ((J49 l0 (rd x7_1 (ji10))).f1), .int .i64 ((J49 l0 (rd x7_1 (ji10))).f2), .int .i64 ((J49 l0 (rd x7_1 (ji10))).f3), .int .i64 ((J49 l0 (rd x7_1 (ji10))).f4), .int .i64 ((J49 l0 (rd x7_1 (ji10))).f5)]] rfl (by (try simp only [List.map_toArray, List.map_cons, List.map_nil]); first | done | (simp only [hji10]; rfl) | rfl | (simp only [List.length_drop, List.length_take]; rfl)) ?_; (with_reducible refine (table_isLeaf.calls ((J49 l0 (rd x7_1 (ji10))).f0) ((J49 l0 (rd x7_1 (ji10))).f1) ((J49 l0 (rd x7_1 (ji10))).f2) ((J49 l0 (rd x7_1 (ji10))).f3) ((J49 l0 (rd x7_1 (ji10))).f4) ((J49 l0 (rd x7_1 (ji10))).f5) false _ A24.out).mono ?_); rintro e w40 ⟨rfl, hb⟩; refine ⟨_, rfl, ?_⟩; have n0_ := asd (Kd.R_below (skR HO_5.out) hb); have n1_ := asd (Kd.R_below (skR HO113.out) hb); have n2_ := asd (Kd.R_below (skR HO118.out) hb); have n3_ := asd (below_step (skB HB.out) hb); clear HO_5; clear HO113; clear HO118; clear HB; have HO_5 := n0_; have HO113 := n1_; have HO118 := n2_; have HB := n3_; clear n0_ n1_ n2_ n3_; (try clear hb); (try clear hb2); (try clear hk); (try clear hi)))
                have n0_ := asd (Kd.R_drew HO_5.out)
                have n1_ := asd (Kd.R_drew HO113.out)
                have n2_ := asd (Kd.R_drew HO118.out)
                have n3_ := asd (below_drew1 HB.out)
                clear HO_5
                clear HO113
                clear HO118
                clear HB
                have HO_5 := n0_
                have HO113 := n1_
                have HO118 := n2_
                have HB := n3_
                clear n0_ n1_ n2_ n3_
                have p121 : 0 ≤ ((rd x7_1 (ji10)) : Int) := dt
                have q121 : (rd x7_1 (ji10)) < (l0.length : Int) := dt
                obtain ⟨ad121, e121, hx121_0, hx121_1, hx121_2, hx121_3, hx121_4, hx121_5⟩ := at_T49 HR0.out (rd x7_1 (ji10)) p121 q121
                have hw121_5 := hx121_5
                have hw121_4 := hx121_4
                have hw121_3 := hx121_3
                have hw121_2 := hx121_2
                have hw121_1 := hx121_1
                have hw121_0 := hx121_0
                obtain rfl : ad119 = ad121 := (by injection e121)
                replace hx121_0 := skc HB.out hx121_0
                replace hx121_1 := skc HB.out hx121_1
                replace hx121_2 := skc HB.out hx121_2
                replace hx121_3 := skc HB.out hx121_3
                replace hx121_4 := skc HB.out hx121_4
                replace hx121_5 := skc HB.out hx121_5
                replace p121 := eq_true p121
                replace q121 := eq_true q121
                have p122 : 0 ≤ ((rd x7_1 (ji10)) : Int) := dt
                have q122 : (rd x7_1 (ji10)) < (l0.length : Int) := dt
                obtain ⟨ad122, e122, hx122_0, hx122_1, hx122_2, hx122_3, hx122_4, hx122_5⟩ := at_T49 HR0.out (rd x7_1 (ji10)) p122 q122
                have hw122_5 := hx122_5
                have hw122_4 := hx122_4
                have hw122_3 := hx122_3
                have hw122_2 := hx122_2
                have hw122_1 := hx122_1
                have hw122_0 := hx122_0
                obtain rfl : ad119 = ad122 := (by injection e122)
                replace hx122_0 := skc HB.out hx122_0
                replace hx122_1 := skc HB.out hx122_1
                replace hx122_2 := skc HB.out hx122_2
                replace hx122_3 := skc HB.out hx122_3
                replace hx122_4 := skc HB.out hx122_4
                replace hx122_5 := skc HB.out hx122_5
                replace p122 := eq_true p122
                replace q122 := eq_true q122
                refine start_ (n := 14) (S := fun w' => w'.cell? (ad119.add (((rd x7_1 (ji10))).toNat * 6)) = some (.int .i64 ((J49 l0 (rd x7_1 (ji10))).f0)) ∧ w'.cell? ⟨(ad119.add (((rd x7_1 (ji10))).toNat * 6)).block, (ad119.add (((rd x7_1 (ji10))).toNat * 6)).off + 1, none⟩ = some (.int .i64 ((J49 l0 (rd x7_1 (ji10))).f1)) ∧ w'.cell? ⟨(ad119.add (((rd x7_1 (ji10))).toNat * 6)).block, (ad119.add (((rd x7_1 (ji10))).toNat * 6)).off + 2, none⟩ = some (.int .i64 ((J49 l0 (rd x7_1 (ji10))).f2)) ∧ w'.cell? ⟨(ad119.add (((rd x7_1 (ji10))).toNat * 6)).block, (ad119.add (((rd x7_1 (ji10))).toNat * 6)).off + 3, none⟩ = some (.int .i64 ((J49 l0 (rd x7_1 (ji10))).f3)) ∧ w'.cell? ⟨(ad119.add (((rd x7_1 (ji10))).toNat * 6)).block, (ad119.add (((rd x7_1 (ji10))).toNat * 6)).off + 4, none⟩ = some (.int .i64 ((J49 l0 (rd x7_1 (ji10))).f4)) ∧ w'.cell? ⟨(ad119.add (((rd x7_1 (ji10))).toNat * 6)).block, (ad119.add (((rd x7_1 (ji10))).toNat * 6)).off + 5, none⟩ = some (.int .i64 ((J49 l0 (rd x7_1 (ji10))).f5)) ∧ w'.cell? (ad119.add (((rd x7_1 (ji10))).toNat * 6)) = some (.int .i64 ((J49 l0 (rd x7_1 (ji10))).f0)) ∧ w'.cell? ⟨(ad119.add (((rd x7_1 (ji10))).toNat * 6)).block, (ad119.add (((rd x7_1 (ji10))).toNat * 6)).off + 1, none⟩ = some (.int .i64 ((J49 l0 (rd x7_1 (ji10))).f1)) ∧ w'.cell? ⟨(ad119.add (((rd x7_1 (ji10))).toNat * 6)).block, (ad119.add (((rd x7_1 (ji10))).toNat * 6)).off + 2, none⟩ = some (.int .i64 ((J49 l0 (rd x7_1 (ji10))).f2)) ∧ w'.cell? ⟨(ad119.add (((rd x7_1 (ji10))).toNat * 6)).block, (ad119.add (((rd x7_1 (ji10))).toNat * 6)).off + 3, none⟩ = some (.int .i64 ((J49 l0 (rd x7_1 (ji10))).f3)) ∧ w'.cell? ⟨(ad119.add (((rd x7_1 (ji10))).toNat * 6)).block, (ad119.add (((rd x7_1 (ji10))).toNat * 6)).off + 4, none⟩ = some (.int .i64 ((J49 l0 (rd x7_1 (ji10))).f4)) ∧ w'.cell? ⟨(ad119.add (((rd x7_1 (ji10))).toNat * 6)).block, (ad119.add (((rd x7_1 (ji10))).toNat * 6)).off + 5, none⟩ = some (.int .i64 ((J49 l0 (rd x7_1 (ji10))).f5))) (ds := []) #[false,false,false,false,false,false,false,false,false,false,false,false,false,false] (by kernel_rfl) rfl rfl ⟨(skc HB.out hw121_0), (skc HB.out hw121_1), (skc HB.out hw121_2), (skc HB.out hw121_3), (skc HB.out hw121_4), (skc HB.out hw121_5), (skc HB.out hw122_0), (skc HB.out hw122_1), (skc HB.out hw122_2), (skc HB.out hw122_3), (skc HB.out hw122_4), (skc HB.out hw122_5)⟩ (fun hHeld => ?_); refine with_tabW table_order.tab12 table_order.bits12 (fun HT_ HW_ => ?_)
                generalize w40.drew = w41 at HO_5 HO113 HO118 HB hx121_0 hx121_1 hx121_2 hx121_3 hx121_4 hx121_5 hx122_0 hx122_1 hx122_2 hx122_3 hx122_4 hx122_5 hHeld ⊢
                refine pure_ (i := 0) (N := some 45) (v := ?_) (a' := ?_) #[true,false,false,false,false,false,false,false,false,false,false,false,false,false] rfl rfl (aK HT_.out) (fun _ _ _ h => h) (Or.inl ⟨by rfl, ?_⟩) ?_ ?_
                rotate_left
                ·
                 intro w'
                 go_simp
                 with_reducible rfl
                rotate_left
                ·
                 simp only [Act.put, sp]
                 rfl
                refine pure_ (i := 1) (N := some 46) (v := ?_) (a' := ?_) #[true,true,false,false,false,false,false,false,false,false,false,false,false,false] rfl rfl (aK HT_.out) (fun _ _ _ h => h) (Or.inl ⟨by rfl, ?_⟩) ?_ ?_
                rotate_left
                ·
                 intro w'
                 go_simp
                 with_reducible rfl
                rotate_left
                ·
                 simp only [Act.put, sp]
                 rfl
                refine pure_ (i := 2) (N := some 47) (v := ?_) (a' := ?_) #[true,true,true,false,false,false,false,false,false,false,false,false,false,false] rfl rfl (aK HT_.out) (fun _ _ _ h => h) (Or.inl ⟨by rfl, ?_⟩) ?_ ?_
                rotate_left
                ·
                 intro w'
                 go_simp
                 with_reducible rfl
                rotate_left
                ·
                 simp only [Act.put, sp]
                 rfl
                refine pure_ (i := 3) (N := some 48) (v := ?_) (a' := ?_) #[true,true,true,true,false,false,false,false,false,false,false,false,false,false] rfl rfl (aK HT_.out) (fun _ _ _ h => h) (Or.inl ⟨by rfl, ?_⟩) ?_ ?_
                rotate_left
                ·
                 intro w'
                 go_simp
                 with_reducible rfl
                rotate_left
                ·
                 simp only [Act.put, sp]
                 rfl
                refine pure_ (i := 4) (N := some 49) (v := ?_) (a' := ?_) #[true,true,true,true,true,false,false,false,false,false,false,false,false,false] rfl rfl (aK HT_.out) (fun _ _ _ h => h) (Or.inl ⟨by rfl, ?_⟩) ?_ ?_
                rotate_left
                ·
                 intro w'
                 go_simp
                 with_reducible rfl
                rotate_left
                ·
                 simp only [Act.put, sp]
                 rfl
                refine pure_ (i := 6) (N := some 51) (v := ?_) (a' := ?_) #[true,true,true,true,true,false,true,false,false,false,false,false,false,false] rfl rfl (aK HT_.out) (fun _ _ _ h => h) (Or.inl ⟨by rfl, ?_⟩) ?_ ?_
                rotate_left
                ·
                 intro w'
                 go_simp
                 with_reducible rfl
                rotate_left
                ·
                 simp only [Act.put, sp]
                 rfl
                refine pure_ (i := 7) (N := some 52) (v := ?_) (a' := ?_) #[true,true,true,true,true,false,true,true,false,false,false,false,false,false] rfl rfl (aK HT_.out) (fun _ _ _ h => h) (Or.inl ⟨by rfl, ?_⟩) ?_ ?_
                rotate_left
                ·
                 intro w'
                 go_simp
                 with_reducible rfl
                rotate_left
                ·
                 simp only [Act.put, sp]
                 rfl
                refine pure_ (i := 8) (N := some 53) (v := ?_) (a' := ?_) #[true,true,true,true,true,false,true,true,true,false,false,false,false,false] rfl rfl (aK HT_.out) (fun _ _ _ h => h) (Or.inl ⟨by rfl, ?_⟩) ?_ ?_
                rotate_left
                ·
                 intro w'
                 go_simp
                 with_reducible rfl
                rotate_left
                ·
                 simp only [Act.put, sp]
                 rfl
                refine pure_ (i := 9) (N := some 54) (v := ?_) (a' := ?_) #[true,true,true,true,true,false,true,true,true,true,false,false,false,false] rfl rfl (aK HT_.out) (fun _ _ _ h => h) (Or.inl ⟨by rfl, ?_⟩) ?_ ?_
                rotate_left
                ·
                 intro w'
                 go_simp
                 with_reducible rfl
                rotate_left
                ·
                 simp only [Act.put, sp]
                 rfl
                refine take_ (i := 5) (N := some 50) (v := ?_) (a' := ?_) #[true,true,true,true,true,true,true,true,true,true,false,false,false,false] rfl rfl (take_ofW HT_.out HW_.out (by kernel_rfl)) (fun _ _ _ h => h) (Or.inl ⟨by rfl, ?_⟩) hHeld ?_ ?_
                rotate_left
                ·
                 rintro w' ⟨s0, s1, s2, s3, s4, s5, s6, s7, s8, s9, s10, s11⟩
                 go_simp
                 with_reducible rfl
                rotate_left
                ·
                 simp only [Act.put, sp]
                 rfl
                refine take_ (i := 10) (N := some 55) (v := ?_) (a' := ?_) #[true,true,true,true,true,true,true,true,true,true,true,false,false,false] rfl rfl (take_ofW HT_.out HW_.out (by kernel_rfl)) (fun _ _ _ h => h) (Or.inl ⟨by rfl, ?_⟩) hHeld ?_ ?_
                rotate_left
                ·
                 rintro w' ⟨s0, s1, s2, s3, s4, s5, s6, s7, s8, s9, s10, s11⟩
                 go_simp
                 with_reducible rfl
                rotate_left
                ·
                 simp only [Act.put, sp]
                 rfl
                refine one_ (i := 11) (N := some 56) #[true,true,true,true,true,true,true,true,true,true,true,true,false,false] rfl rfl (one_of HT_.out (by kernel_rfl)) (by decide) (fun K hK => ?_)
                refine Kd.R_lit_step (Kd.int .i64) _ 3 ?hg (N := 56) ?hd (xs := ([(J49 l0 (rd x7_1 (ji10))).f5, (J49 l0 (rd x7_1 (ji10))).f4] : List Int)) (inner := [.int .i64 ((J49 l0 (rd x7_1 (ji10))).f5), .int .i64 ((J49 l0 (rd x7_1 (ji10))).f4)]) (ok := fun _ => True) (okp := fun _ => True) ?hr ?hp (fun _ hk => hk) trivial (Below.refl _ _) (Nat.le_refl _) (by simp) ?_; (case hd => rfl); (case hg => rfl); (case hr => first | (go_simp; done) | (go_simp; rfl)); (case hp => exact (Reps.one (show Kd.M (Kd.int .i64) _ _ _ ((J49 l0 (rd x7_1 (ji10))).f5) [.int .i64 ((J49 l0 (rd x7_1 (ji10))).f5)] from rfl) (Reps.one (show Kd.M (Kd.int .i64) _ _ _ ((J49 l0 (rd x7_1 (ji10))).f4) [.int .i64 ((J49 l0 (rd x7_1 (ji10))).f4)] from rfl) (Reps.none _ _))))
                intro v124 w42 ho43 hb hg_ hnew_
                clear hg_ hnew_
                (first | rw [← Ny123.out] at ho43 | (simp only [Int.reduceToNat] at ho43; rw [← Ny123.out] at ho43))
                have n0_ := asd (Kd.R_below (skR HO_5.out) hb)
                have n1_ := asd (Kd.R_elder' (skR HO113.out) (Kd.R_base ho43) hb)
                have n2_ := asd (Kd.R_elder' (skR HO118.out) (Kd.R_base ho43) hb)
                have n3_ := asd (Kd.R_lower (Kd.R_new' (Kd.R_new' ho43 (Kd.R_lt (skR HO113.out))) (Kd.R_lt (skR HO118.out))) (below_size (skB HB.out)))
                have n4_ := asd (below_step (skB HB.out) hb)
                clear HO_5
                clear HO113
                clear HO118
                clear HB
                have HO_5 := n0_
                have HO113 := n1_
                have HO118 := n2_
                have HO125 := n3_
                have HB := n4_
                clear n0_ n1_ n2_ n3_ n4_
                clear hb ho43
                obtain ⟨Ao45, co45, eo45⟩ := Kd.R_slice HO125.out
                (first | subst eo45 | (injection eo45 with f1_ f2_ f3_; have f4_ := f1_.symm; have f5_ := f3_.symm; clear f1_ f2_ f3_; subst f4_; subst f5_))
                refine hK.out _ _ ⟨(skc HB.out hw121_0), (skc HB.out hw121_1), (skc HB.out hw121_2), (skc HB.out hw121_3), (skc HB.out hw121_4), (skc HB.out hw121_5), (skc HB.out hw122_0), (skc HB.out hw122_1), (skc HB.out hw122_2), (skc HB.out hw122_3), (skc HB.out hw122_4), (skc HB.out hw122_5)⟩ (fun hHeld => ?_)
                clear hK K
                refine norm_ (a' := ?_) ?_ ?_
                rotate_left
                ·
                 show Act.put _ (some 56) _ = _
                 simp only [Act.put, sp]
                 rfl
                refine one_ (i := 12) (N := some 57) #[true,true,true,true,true,true,true,true,true,true,true,true,true,false] rfl rfl (one_of HT_.out (by kernel_rfl)) (by decide) (fun K hK => ?_)
                refine Kd.R_append_rows_step (Kd.int .i64) (w0 := w) w.heap.size (by rfl) (.tmp 45) (.tmp 56) 23 3 (.int .i64 0) 8 rfl Try.underlying23 info3 rfl (by decide) (by omega) (.slice (some ad110) y111.length co34) y111 y123 _ _ _ (fun k_ => some k_ ≠ (v117 : Value).ownBlock ∧ some k_ ≠ (.slice Ao45 y123.length co45 : Value).ownBlock) (fun _ => False) rfl rfl ?aO ?aR (fun _ _ h => h) (fun _ h => h.elim) ?aF ?aB ?aS ?aL ?_
                (case aR => exact skC (Kd.R_reads' HO125.out).2.2)
                (case aB => exact (skB HB.out))
                (case aF => exact (fun k_ hk => ⟨Kd.fresh' (Kd.R_lt (skR HO118.out)) k_ hk, Kd.fresh' (Kd.R_lt (skR HO125.out)) k_ hk⟩))
                (case aO => exact (skR (Kd.R_mono HO113.out (fun _ hk => ⟨hk.1.2, hk.2⟩))))
                (case aS => exact (below_size (skB HB.out)))
                (case aL => have := LMc33.out; omega)
                intro v127 w44 ho hb hg hat
                rw [← Ny126.out] at ho
                have n0_ := asd (Kd.R_over' (skR HO_5.out) (Kd.R_typed (skR HO113.out)) (by decide) hg)
                have n1_ := asd (Kd.R_after (ok := (fun k_ => some k_ ≠ (.slice Ao45 y123.length co45 : Value).ownBlock)) (skR (Kd.R_mono HO118.out (fun _ hk => ⟨hk.2, hk.1⟩))) hg hat)
                have n2_ := asd (Kd.R_after (ok := (fun k_ => some k_ ≠ (v117 : Value).ownBlock)) (skR (Kd.R_mono HO125.out (fun _ hk => ⟨hk.2, hk.1.2⟩))) hg hat)
                have n3_ := asd (hb)
                have n4_ := asd (ho)
                clear HO_5
                clear HO118
                clear HO125
                clear HB
                clear HO113
                have HO_5 := n0_
                have HO118 := n1_
                have HO125 := n2_
                have HB := n3_
                have HO128 := n4_
                clear n0_ n1_ n2_ n3_ n4_
                clear ho hb hg hat
                refine hK.out _ _ ⟨(skc HB.out hw121_0), (skc HB.out hw121_1), (skc HB.out hw121_2), (skc HB.out hw121_3), (skc HB.out hw121_4), (skc HB.out hw121_5), (skc HB.out hw122_0), (skc HB.out hw122_1), (skc HB.out hw122_2), (skc HB.out hw122_3), (skc HB.out hw122_4), (skc HB.out hw122_5)⟩ (fun hHeld => ?_)
                clear hK K
                refine norm_ (a' := ?_) ?_ ?_
                rotate_left
                ·
                 show Act.put _ (some 57) _ = _
                 simp only [Act.put, sp]
                 rfl
                refine pure_ (i := 13) (N := some 7) (v := ?_) (a' := ?_) #[true,true,true,true,true,true,true,true,true,true,true,true,true,true] rfl rfl (aK HT_.out) (fun _ _ _ h => h) (Or.inl ⟨by rfl, ?_⟩) ?_ ?_
                rotate_left
                ·
                 intro w'
                 go_simp
                 with_reducible rfl
                rotate_left
                ·
                 simp only [Act.put, sp]
                 rfl
                refine done_ (done_of HT_.out (by kernel_rfl)) ?_
                try go_wp2
                go_roundg k1
                case measure => have := HK1.out; omega
                case rel => exact ⟨(y115), (y116), (y126), H', ⟨by have := HK1.out; omega⟩, ⟨skR HO_5.out⟩, ⟨skR (Kd.R_mono HO118.out (fun _ hk => hk.2))⟩, ⟨skR (Kd.R_mono HO128.out (fun _ hk => hk.1))⟩, ⟨skB HB.out⟩⟩
               ·
                rw [if_neg c33] at H
                exact absurd H (by simp)
             ·
              rw [if_neg c23] at H
              exact absurd H (by simp)
            ·
             rw [if_neg c22] at H
             exact absurd H (by simp)
          ·
           rw [if_neg c15] at H
           exact absurd H (by simp)
         ·
          rw [if_neg c14] at H
          exact absurd H (by simp)
        ·
         rw [if_neg c13] at H
         exact absurd H (by simp)
       ·
        rw [if_neg c12] at H
        exact absurd H (by simp)
      ·
       rw [if_neg c11] at H
       exact absurd H (by simp)
     ·
      rw [if_neg c9] at H
      have c9b0 : decide (0 < (x7_1.length : Int)) = false := decide_eq_false c9
      have c9b1 : decide (0 < x7_1.length) = false := decide_eq_false (by omega)
      clear c9
      obtain rfl := Option.some.inj H
      obtain ⟨Ao46, co46, eo46⟩ := Kd.R_slice HO_7.out
      subst eo46
      go_wp2
      go_ret
      exact ⟨_, re, skR (Kd.R_mono HO_6.out (fun _ hk => trivial)), skB HB.out⟩
  ·
   rw [if_neg c4] at H
   exact absurd H (by simp)
 ·
  rw [if_neg c3] at H
  exact absurd H (by simp)
end Go.Proofs.Ytmmjkebboonnkaa.P
/- F7 -/
namespace Go.Proofs.Ytmmjkebboonnkaa.P
open Go.RowKit Go.Proofs.YtmmjkebboonnkaaW.PrintWords Go.Proofs.YtmmjkebboonnkaaW.PrintLast Go.Proofs.YtmmjkebboonnkaaW.PrintMore
attribute [local go_sem] max2_int min2_int max_two min_two max_three min_three max_four min_four   -- for this text's walks alone
set_option linter.unusedVariables false
set_option linter.unusedSimpArgs false
def table_sentinel.f  : Option (Int × Int × Int × Int × Int × Int) := some (0, 1, 1, 0, (-1), (-1))
set_option maxHeartbeats 8000000 in
set_option maxRecDepth 100000 in
theorem table_sentinel.calls  (r1 : Int) (r2 : Int) (r3 : Int) (r4 : Int) (r5 : Int) (r6 : Int) (w : World) (h : table_sentinel.f  = some (r1, r2, r3, r4, r5, r6)) :
  Calls Try.prog 69 #[] w fun e w' => e = .returned (.agg #[.int .i64 r1, .int .i64 r2, .int .i64 r3, .int .i64 r4, .int .i64 r5, .int .i64 r6]) ∧ Below w.heap.size w w' := by
 have hu49 := Try.underlying49
 have HB := asd (Below.refl w.heap.size w)
 have H : (some (0, 1, 1, 0, (-1), (-1))) = some (r1, r2, r3, r4, r5, r6) := h
 clear h
 simp only [Option.some.injEq, Prod.mk.injEq] at H
 obtain ⟨rfl, rfl, rfl, rfl, rfl, rfl⟩ := H
 go_enter Try.func69, Try.ntmps69
 go_wp2_with (first | ((with_reducible refine gate_dst (N := 0) rfl ?_); refine box_event ?hg (N := 0) ?hd (cs := #[.int .i64 0, .int .i64 0, .int .i64 0, .int .i64 0, .int .i64 0, .int .i64 0]) (t := 49) ?hr ?_; (case hd => rfl); (case hg => rfl); (case hr => first | (go_simp; done) | (go_simp; rfl)); intro gb135 hg w1 hbox hb; have n0_ := asd (below_step (skB HB.out) hb); have n1_ := asd (hbox); have n2_ := asd ((by rw [hg]; exact (below_size (skB HB.out)) : w.heap.size ≤ gb135)); have n3_ := asd ((by rw [hg]; exact (below_size (skB HB.out)) : w.heap.size ≤ gb135)); clear HB; have HB := n0_; have BK135 := n1_; have GW135 := n2_; have GE135 := n3_; clear n0_ n1_ n2_ n3_; clear hb hbox hg; obtain ⟨hcz2_0, hcz2_1, hcz2_2, hcz2_3, hcz2_4, hcz2_5, hfz2_0, hfz2_1, hfz2_2, hfz2_3, hfz2_4, hfz2_5⟩ := bk6 BK135.out))
 refine bodyPost_ret (results_cell_row rfl _ _ gb135 49 #[.int .i64 0, .int .i64 1, .int .i64 1, .int .i64 0, .int .i64 (-1), .int .i64 (-1)] (0, 0) _ rfl (by refine skk ?_; refine blk_put (cs := #[.int .i64 0, .int .i64 1, .int .i64 1, .int .i64 0, .int .i64 (-1), .int .i64 0]) ?_ 5 _ rfl; refine skk ?_; refine blk_put (cs := #[.int .i64 0, .int .i64 1, .int .i64 1, .int .i64 0, .int .i64 0, .int .i64 0]) ?_ 4 _ rfl; refine skk ?_; refine blk_put (cs := #[.int .i64 0, .int .i64 1, .int .i64 1, .int .i64 0, .int .i64 0, .int .i64 0]) ?_ 3 _ rfl; refine skk ?_; refine blk_put (cs := #[.int .i64 0, .int .i64 1, .int .i64 0, .int .i64 0, .int .i64 0, .int .i64 0]) ?_ 2 _ rfl; refine skk ?_; refine blk_put (cs := #[.int .i64 0, .int .i64 0, .int .i64 0, .int .i64 0, .int .i64 0, .int .i64 0]) ?_ 1 _ rfl; refine skk ?_; refine blk_put (cs := #[.int .i64 0, .int .i64 0, .int .i64 0, .int .i64 0, .int .i64 0, .int .i64 0]) ?_ 0 _ rfl; refine skk ?_; exact BK135.out) Try.underlying49 rfl (by kernel_rfl)) rfl ?_
 exact ⟨re, skG HB.out GE135.out GE135.out⟩
end Go.Proofs.Ytmmjkebboonnkaa.P
/- F8 -/
namespace Go.Proofs.Ytmmjkebboonnkaa.P
open Go.RowKit Go.Proofs.YtmmjkebboonnkaaW.PrintWords Go.Proofs.YtmmjkebboonnkaaW.PrintLast Go.Proofs.YtmmjkebboonnkaaW.PrintMore
attribute [local go_sem] max2_int min2_int max_two min_two max_three min_three max_four min_four   -- for this text's walks alone
set_option linter.unusedVariables false
set_option linter.unusedSimpArgs false
attribute [local go_sem high] eqA49
def table_crowned.f (l0 : List (S49)) (a1_0 : Int) (a1_1 : Int) (a1_2 : Int) (a1_3 : Int) (a1_4 : Int) (a1_5 : Int) : Option (Bool) := (table_isLeaf.f a1_0 a1_1 a1_2 a1_3 a1_4 a1_5).bind fun t137 => (if t137 = true then (some false) else (if a1_1 = 1 then (if a1_2 = 1 then (if 0 ≤ a1_5 then (if a1_5 < (l0.length : Int) then ((table_sentinel.f).bind fun bt139 => (some (((J49 l0 a1_5).f0) == bt139.1 && (((J49 l0 a1_5).f1) == bt139.2.1 && (((J49 l0 a1_5).f2) == bt139.2.2.1 && (((J49 l0 a1_5).f3) == bt139.2.2.2.1 && (((J49 l0 a1_5).f4) == bt139.2.2.2.2.1 && (((J49 l0 a1_5).f5) == bt139.2.2.2.2.2)))))))) else (none)) else (none)) else (some false)) else (some false)))
def table_crowned.T1 : Bool × List (List Nat × List Nat) := (true, [([], []), ([0], [0]), ([1], [1]), ([2, 1], [2]), ([3], [3]), ([4, 3], [3, 4]), ([5, 3], [3, 5]), ([3, 6], [3, 6]), ([7, 3], [7]), ([8], [8]), ([9, 8], [8, 9]), ([10, 8], [8, 10]), ([8, 11], [8, 11]), ([12, 8], [12]), ([13], [13]), ([13], [13]), ([15, 13], [13, 15]), ([14, 16, 13], [13, 14, 16]), ([17, 13], [13, 17]), ([13, 13], [13]), ([18, 19, 13], [13, 18, 19]), ([13, 20], [13, 20]), ([21, 19, 0, 1, 2, 3, 4, 5, 6, 7, 8, 9, 10, 11, 12, 13, 14, 15, 16, 17, 18, 19, 20, 21], [21])])
def table_crowned.B1 : List Nat := [0, 1, 3, 7, 15, 31, 63, 127, 255, 511, 1023, 2047, 4095, 8191, 16383, 16383, 49151, 131071, 262143, 16383, 1048575, 2097151, 4194303]
theorem table_crowned.tab1 : rtab .any (opsOf Try.f68 1) = table_crowned.T1 := by kernel_rfl
theorem table_crowned.bits1 : waitsOk table_crowned.T1.2 table_crowned.B1 = true := by kernel_rfl
set_option maxHeartbeats 8000000 in
set_option maxRecDepth 100000 in
theorem table_crowned.calls (A0 : Option Addr) (c0 : Nat) (l0 : List (S49)) (a1_0 : Int) (a1_1 : Int) (a1_2 : Int) (a1_3 : Int) (a1_4 : Int) (a1_5 : Int) (r : Bool) (w : World) (hr0 : Kd.C k49 w A0 l0.length l0) (hc0 : l0.length ≤ c0) (h : table_crowned.f l0 a1_0 a1_1 a1_2 a1_3 a1_4 a1_5 = some r) :
  Calls Try.prog 68 #[.slice A0 l0.length c0, .agg #[.int .i64 a1_0, .int .i64 a1_1, .int .i64 a1_2, .int .i64 a1_3, .int .i64 a1_4, .int .i64 a1_5]] w fun e w' => e = .returned (.bool r) ∧ Below w.heap.size w w' := by
 have hu49 := Try.underlying49
 have HR0 := asd hr0
 have HC0 := asd hc0
 clear hr0 hc0
 have HB := asd (Below.refl w.heap.size w)
 have H : ((table_isLeaf.f a1_0 a1_1 a1_2 a1_3 a1_4 a1_5).bind fun t137 => (if t137 = true then (some false) else (if a1_1 = 1 then (if a1_2 = 1 then (if 0 ≤ a1_5 then (if a1_5 < (l0.length : Int) then ((table_sentinel.f).bind fun bt139 => (some (((J49 l0 a1_5).f0) == bt139.1 && (((J49 l0 a1_5).f1) == bt139.2.1 && (((J49 l0 a1_5).f2) == bt139.2.2.1 && (((J49 l0 a1_5).f3) == bt139.2.2.2.1 && (((J49 l0 a1_5).f4) == bt139.2.2.2.2.1 && (((J49 l0 a1_5).f5) == bt139.2.2.2.2.2)))))))) else (none)) else (none)) else (some false)) else (some false)))) = some r := h
 clear h
 replace H := Option.bind_eq_some_iff.mp H
 obtain ⟨t137, A30, H⟩ := H
 replace H : (if t137 = true then (some false) else (if a1_1 = 1 then (if a1_2 = 1 then (if 0 ≤ a1_5 then (if a1_5 < (l0.length : Int) then ((table_sentinel.f).bind fun bt139 => (some (((J49 l0 a1_5).f0) == bt139.1 && (((J49 l0 a1_5).f1) == bt139.2.1 && (((J49 l0 a1_5).f2) == bt139.2.2.1 && (((J49 l0 a1_5).f3) == bt139.2.2.2.1 && (((J49 l0 a1_5).f4) == bt139.2.2.2.2.1 && (((J49 l0 a1_5).f5) == bt139.2.2.2.2.2)))))))) else (none)) else (none)) else (some false)) else (some false))) = some r := H
 have A3 := asd A30
 clear A30
 by_cases c4 : t137 = true
 ·
  subst c4
  have H1 : (some false) = some r := by rw [if_pos rfl] at H; exact H
  clear H
  have H := H1
  clear H1
  obtain rfl := Option.some.inj H
  go_enter Try.func68, Try.ntmps68
  try go_wp2_with (first | ((with_reducible refine gate_dst (N := 3) rfl ?_); refine box_event ?hg (N := 3) ?hd (cs := #[.int .i64 a1_0, .int .i64 a1_1, .int .i64 a1_2, .int .i64 a1_3, .int .i64 a1_4, .int .i64 a1_5]) (t := 49) ?hr ?_; (case hd => rfl); (case hg => rfl); (case hr => first | (go_simp; done) | (go_simp; rfl)); intro gb136 hg w5 hbox hb; have n0_ := asd (below_step (skB HB.out) hb); have n1_ := asd (hbox); have n2_ := asd ((by rw [hg]; exact (below_size (skB HB.out)) : w.heap.size ≤ gb136)); have n3_ := asd ((by rw [hg]; exact (below_size (skB HB.out)) : w.heap.size ≤ gb136)); clear HB; have HB := n0_; have BK136 := n1_; have GW136 := n2_; have GE136 := n3_; clear n0_ n1_ n2_ n3_; clear hb hbox hg))
  have n0_ := asd (blk_drew BK136.out)
  have n1_ := asd (below_drew1 HB.out)
  clear BK136
  clear HB
  have BK136 := n0_
  have HB := n1_
  clear n0_ n1_
  refine start_ (n := 23) (S := fun w' => w'.cell? ⟨gb136, 0, none⟩ = some (.int .i64 a1_0) ∧ w'.cell? ⟨gb136, 1, none⟩ = some (.int .i64 a1_1) ∧ w'.cell? ⟨gb136, 2, none⟩ = some (.int .i64 a1_2) ∧ w'.cell? ⟨gb136, 3, none⟩ = some (.int .i64 a1_3) ∧ w'.cell? ⟨gb136, 4, none⟩ = some (.int .i64 a1_4) ∧ w'.cell? ⟨gb136, 5, none⟩ = some (.int .i64 a1_5)) (ds := []) #[false,false,false,false,false,false,false,false,false,false,false,false,false,false,false,false,false,false,false,false,false,false,false] (by kernel_rfl) rfl rfl ⟨(blk_cell BK136.out 0).trans rfl, (blk_cell BK136.out 1).trans rfl, (blk_cell BK136.out 2).trans rfl, (blk_cell BK136.out 3).trans rfl, (blk_cell BK136.out 4).trans rfl, (blk_cell BK136.out 5).trans rfl⟩ (fun hHeld => ?_); refine with_tabW table_crowned.tab1 table_crowned.bits1 (fun HT_ HW_ => ?_)
  generalize w5.drew = w6 at BK136 HB hHeld ⊢
  refine take_ (i := 0) (N := some 5) (v := ?_) (a' := ?_) #[true,false,false,false,false,false,false,false,false,false,false,false,false,false,false,false,false,false,false,false,false,false,false] rfl rfl (take_ofW HT_.out HW_.out (by kernel_rfl)) (fun _ _ _ h => h) (Or.inl ⟨by rfl, ?_⟩) hHeld ?_ ?_
  rotate_left
  ·
   rintro w' ⟨s0, s1, s2, s3, s4, s5⟩
   go_simp
   with_reducible rfl
  rotate_left
  ·
   simp only [Act.put, sp]
   rfl
  refine one_ (i := 1) (N := some 6) #[true,true,false,false,false,false,false,false,false,false,false,false,false,false,false,false,false,false,false,false,false,false,false] rfl rfl (one_of HT_.out (by kernel_rfl)) (by decide) (fun K hK => ?_)
  refine goes_ Try.func66 (by kernel_rfl) rfl #[.agg #[.int .i64 a1_0, .int .i64 a1_1, .int .i64 a1_2, .int .i64 a1_3, .int .i64 a1_4, .int .i64 a1_5]] (by rfl) rfl rfl ags ?_
  with_reducible refine (table_isLeaf.calls a1_0 a1_1 a1_2 a1_3 a1_4 a1_5 true _ A3.out).mono ?_
  rintro e w7 ⟨rfl, hb⟩
  refine ⟨_, rfl, ?_⟩
  have n0_ := asd (blk_below (g := gb136) (o := .cells #[.int .i64 a1_0, .int .i64 a1_1, .int .i64 a1_2, .int .i64 a1_3, .int .i64 a1_4, .int .i64 a1_5] 49 (0, 0)) (skK BK136.out) hb)
  have n1_ := asd (below_step (skG HB.out GE136.out GE136.out) hb)
  clear BK136
  clear HB
  have BK136 := n0_
  have HB := n1_
  clear n0_ n1_
  (try clear hb)
  (try clear hb2)
  (try clear hk)
  (try clear hi)
  refine hK.out _ _ ⟨(blk_cell BK136.out 0).trans rfl, (blk_cell BK136.out 1).trans rfl, (blk_cell BK136.out 2).trans rfl, (blk_cell BK136.out 3).trans rfl, (blk_cell BK136.out 4).trans rfl, (blk_cell BK136.out 5).trans rfl⟩ (fun hHeld => ?_)
  clear hK K
  refine norm_ (a' := ?_) ?_ ?_
  rotate_left
  ·
   show Act.put _ (some 6) _ = _
   simp only [Act.put, sp]
   rfl
  refine pure_ (i := 2) (N := some 7) (v := ?_) (a' := ?_) #[true,true,true,false,false,false,false,false,false,false,false,false,false,false,false,false,false,false,false,false,false,false,false] rfl rfl (aK HT_.out) (fun _ _ _ h => h) (Or.inl ⟨by rfl, ?_⟩) ?_ ?_
  rotate_left
  ·
   intro w'
   go_simp
   with_reducible rfl
  rotate_left
  ·
   simp only [Act.put, sp]
   rfl
  refine pure_ (i := 3) (N := some 8) (v := ?_) (a' := ?_) #[true,true,true,true,false,false,false,false,false,false,false,false,false,false,false,false,false,false,false,false,false,false,false] rfl rfl (aK HT_.out) (fun _ _ _ h => h) (Or.inl ⟨by rfl, ?_⟩) ?_ ?_
  rotate_left
  ·
   intro w'
   go_simp
   with_reducible rfl
  rotate_left
  ·
   simp only [Act.put, sp]
   rfl
  refine pure_ (i := 4) (N := some 9) (v := undef) (a' := ?_) #[true,true,true,true,true,false,false,false,false,false,false,false,false,false,false,false,false,false,false,false,false,false,false] rfl rfl (aK HT_.out) (fun _ _ _ h => h) (Or.inr ⟨by rfl, rfl⟩) ?_ ?_
  rotate_left
  ·
   simp only [Act.put, sp]
   rfl
  refine pure_ (i := 5) (N := some 10) (v := undef) (a' := ?_) #[true,true,true,true,true,true,false,false,false,false,false,false,false,false,false,false,false,false,false,false,false,false,false] rfl rfl (aK HT_.out) (fun _ _ _ h => h) (Or.inr ⟨by rfl, rfl⟩) ?_ ?_
  rotate_left
  ·
   simp only [Act.put, sp]
   rfl
  refine pure_ (i := 6) (N := some 11) (v := undef) (a' := ?_) #[true,true,true,true,true,true,true,false,false,false,false,false,false,false,false,false,false,false,false,false,false,false,false] rfl rfl (aK HT_.out) (fun _ _ _ h => h) (Or.inr ⟨by rfl, rfl⟩) ?_ ?_
  rotate_left
  ·
   simp only [Act.put, sp]
   rfl
  refine pure_ (i := 7) (N := some 12) (v := ?_) (a' := ?_) #[true,true,true,true,true,true,true,true,false,false,false,false,false,false,false,false,false,false,false,false,false,false,false] rfl rfl (aK HT_.out) (fun _ _ _ h => h) (Or.inl ⟨by rfl, ?_⟩) ?_ ?_
  rotate_left
  ·
   intro w'
   go_simp
   with_reducible rfl
  rotate_left
  ·
   simp only [Act.put, sp]
   rfl
  refine pure_ (i := 8) (N := some 13) (v := ?_) (a' := ?_) #[true,true,true,true,true,true,true,true,true,false,false,false,false,false,false,false,false,false,false,false,false,false,false] rfl rfl (aK HT_.out) (fun _ _ _ h => h) (Or.inl ⟨by rfl, ?_⟩) ?_ ?_
  rotate_left
  ·
   intro w'
   go_simp
   with_reducible rfl
  rotate_left
  ·
   simp only [Act.put, sp]
   rfl
  refine pure_ (i := 9) (N := some 14) (v := undef) (a' := ?_) #[true,true,true,true,true,true,true,true,true,true,false,false,false,false,false,false,false,false,false,false,false,false,false] rfl rfl (aK HT_.out) (fun _ _ _ h => h) (Or.inr ⟨by rfl, rfl⟩) ?_ ?_
  rotate_left
  ·
   simp only [Act.put, sp]
   rfl
  refine pure_ (i := 10) (N := some 15) (v := undef) (a' := ?_) #[true,true,true,true,true,true,true,true,true,true,true,false,false,false,false,false,false,false,false,false,false,false,false] rfl rfl (aK HT_.out) (fun _ _ _ h => h) (Or.inr ⟨by rfl, rfl⟩) ?_ ?_
  rotate_left
  ·
   simp only [Act.put, sp]
   rfl
  refine pure_ (i := 11) (N := some 16) (v := undef) (a' := ?_) #[true,true,true,true,true,true,true,true,true,true,true,true,false,false,false,false,false,false,false,false,false,false,false] rfl rfl (aK HT_.out) (fun _ _ _ h => h) (Or.inr ⟨by rfl, rfl⟩) ?_ ?_
  rotate_left
  ·
   simp only [Act.put, sp]
   rfl
  refine pure_ (i := 12) (N := some 17) (v := ?_) (a' := ?_) #[true,true,true,true,true,true,true,true,true,true,true,true,true,false,false,false,false,false,false,false,false,false,false] rfl rfl (aK HT_.out) (fun _ _ _ h => h) (Or.inl ⟨by rfl, ?_⟩) ?_ ?_
  rotate_left
  ·
   intro w'
   go_simp
   with_reducible rfl
  rotate_left
  ·
   simp only [Act.put, sp]
   rfl
  refine pure_ (i := 13) (N := some 18) (v := ?_) (a' := ?_) #[true,true,true,true,true,true,true,true,true,true,true,true,true,true,false,false,false,false,false,false,false,false,false] rfl rfl (aK HT_.out) (fun _ _ _ h => h) (Or.inl ⟨by rfl, ?_⟩) ?_ ?_
  rotate_left
  ·
   intro w'
   go_simp
   with_reducible rfl
  rotate_left
  ·
   simp only [Act.put, sp]
   rfl
  refine pure_ (i := 14) (N := some 19) (v := undef) (a' := ?_) #[true,true,true,true,true,true,true,true,true,true,true,true,true,true,true,false,false,false,false,false,false,false,false] rfl rfl (aK HT_.out) (fun _ _ _ h => h) (Or.inr ⟨by rfl, rfl⟩) ?_ ?_
  rotate_left
  ·
   simp only [Act.put, sp]
   rfl
  refine pure_ (i := 15) (N := some 20) (v := undef) (a' := ?_) #[true,true,true,true,true,true,true,true,true,true,true,true,true,true,true,true,false,false,false,false,false,false,false] rfl rfl (aK HT_.out) (fun _ _ _ h => h) (Or.inr ⟨by rfl, rfl⟩) ?_ ?_
  rotate_left
  ·
   simp only [Act.put, sp]
   rfl
  refine pure_ (i := 16) (N := some 21) (v := undef) (a' := ?_) #[true,true,true,true,true,true,true,true,true,true,true,true,true,true,true,true,true,false,false,false,false,false,false] rfl rfl (aK HT_.out) (fun _ _ _ h => h) (Or.inr ⟨by rfl, rfl⟩) ?_ ?_
  rotate_left
  ·
   simp only [Act.put, sp]
   rfl
  refine pure_ (i := 17) (N := some 22) (v := undef) (a' := ?_) #[true,true,true,true,true,true,true,true,true,true,true,true,true,true,true,true,true,true,false,false,false,false,false] rfl rfl (aK HT_.out) (fun _ _ _ h => h) (Or.inr ⟨by rfl, rfl⟩) ?_ ?_
  rotate_left
  ·
   simp only [Act.put, sp]
   rfl
  refine pure_ (i := 18) (N := some 23) (v := undef) (a' := ?_) #[true,true,true,true,true,true,true,true,true,true,true,true,true,true,true,true,true,true,true,false,false,false,false] rfl rfl (aK HT_.out) (fun _ _ _ h => h) (Or.inr ⟨by rfl, rfl⟩) ?_ ?_
  rotate_left
  ·
   simp only [Act.put, sp]
   rfl
  refine pure_ (i := 19) (N := some 24) (v := undef) (a' := ?_) #[true,true,true,true,true,true,true,true,true,true,true,true,true,true,true,true,true,true,true,true,false,false,false] rfl rfl (aK HT_.out) (fun _ _ _ h => h) (Or.inr ⟨by rfl, rfl⟩) ?_ ?_
  rotate_left
  ·
   simp only [Act.put, sp]
   rfl
  refine pure_ (i := 20) (N := some 25) (v := undef) (a' := ?_) #[true,true,true,true,true,true,true,true,true,true,true,true,true,true,true,true,true,true,true,true,true,false,false] rfl rfl (aK HT_.out) (fun _ _ _ h => h) (Or.inr ⟨by rfl, rfl⟩) ?_ ?_
  rotate_left
  ·
   simp only [Act.put, sp]
   rfl
  refine pure_ (i := 21) (N := some 26) (v := ?_) (a' := ?_) #[true,true,true,true,true,true,true,true,true,true,true,true,true,true,true,true,true,true,true,true,true,true,false] rfl rfl (aK HT_.out) (fun _ _ _ h => h) (Or.inl ⟨by rfl, ?_⟩) ?_ ?_
  rotate_left
  ·
   intro w'
   go_simp
   with_reducible rfl
  rotate_left
  ·
   simp only [Act.put, sp]
   rfl
  refine pure_ (i := 22) (N := some 4) (v := ?_) (a' := ?_) #[true,true,true,true,true,true,true,true,true,true,true,true,true,true,true,true,true,true,true,true,true,true,true] rfl rfl (aK HT_.out) (fun _ _ _ h => h) (Or.inl ⟨by rfl, ?_⟩) ?_ ?_
  rotate_left
  ·
   intro w'
   go_simp
   with_reducible rfl
  rotate_left
  ·
   simp only [Act.put, sp]
   rfl
  refine done_ (done_of HT_.out (by kernel_rfl)) ?_
  try go_wp2
  go_ret
  exact ⟨re, skG HB.out GE136.out GE136.out⟩
 ·
  replace c4 := Bool.eq_false_iff.mpr c4
  subst c4
  have H1 : (if a1_1 = 1 then (if a1_2 = 1 then (if 0 ≤ a1_5 then (if a1_5 < (l0.length : Int) then ((table_sentinel.f).bind fun bt139 => (some (((J49 l0 a1_5).f0) == bt139.1 && (((J49 l0 a1_5).f1) == bt139.2.1 && (((J49 l0 a1_5).f2) == bt139.2.2.1 && (((J49 l0 a1_5).f3) == bt139.2.2.2.1 && (((J49 l0 a1_5).f4) == bt139.2.2.2.2.1 && (((J49 l0 a1_5).f5) == bt139.2.2.2.2.2)))))))) else (none)) else (none)) else (some false)) else (some false)) = some r := by rw [if_neg (show ¬ (false = true) by decide)] at H; exact H
  clear H
  have H := H1
  clear H1
  by_cases c8 : a1_1 = 1
  ·
   rw [if_pos c8] at H
   have c8b0 : (a1_1 == 1) = true := beq_iff_eq.mpr c8
   have c8b1 : (a1_1 != 1) = false := bne_eq_false_iff_eq.mpr c8
   clear c8
   by_cases c9 : a1_2 = 1
   ·
    rw [if_pos c9] at H
    have c9b0 : (a1_2 == 1) = true := beq_iff_eq.mpr c9
    have c9b1 : (a1_2 != 1) = false := bne_eq_false_iff_eq.mpr c9
    clear c9
    by_cases c10 : 0 ≤ a1_5
    ·
     rw [if_pos c10] at H
     have c10b0 : decide (0 ≤ a1_5) = true := decide_eq_true c10
     clear c10
     by_cases c11 : a1_5 < (l0.length : Int)
     ·
      rw [if_pos c11] at H
      have c11b0 : decide (a1_5 < (l0.length : Int)) = true := decide_eq_true c11
      clear c11
      replace H := Option.bind_eq_some_iff.mp H
      obtain ⟨⟨t139, t140, t141, t142, t143, t144⟩, A120, H⟩ := H
      replace H : (some (((J49 l0 a1_5).f0) == t139 && (((J49 l0 a1_5).f1) == t140 && (((J49 l0 a1_5).f2) == t141 && (((J49 l0 a1_5).f3) == t142 && (((J49 l0 a1_5).f4) == t143 && (((J49 l0 a1_5).f5) == t144))))))) = some r := H
      have A12 := asd A120
      clear A120
      obtain rfl := Option.some.inj H
      go_enter Try.func68, Try.ntmps68
      try go_wp2_with (first | ((with_reducible refine gate_dst (N := 3) rfl ?_); refine box_event ?hg (N := 3) ?hd (cs := #[.int .i64 a1_0, .int .i64 a1_1, .int .i64 a1_2, .int .i64 a1_3, .int .i64 a1_4, .int .i64 a1_5]) (t := 49) ?hr ?_; (case hd => rfl); (case hg => rfl); (case hr => first | (go_simp; done) | (go_simp; rfl)); intro gb136 hg w13 hbox hb; have n0_ := asd (below_step (skB HB.out) hb); have n1_ := asd (hbox); have n2_ := asd ((by rw [hg]; exact (below_size (skB HB.out)) : w.heap.size ≤ gb136)); have n3_ := asd ((by rw [hg]; exact (below_size (skB HB.out)) : w.heap.size ≤ gb136)); clear HB; have HB := n0_; have BK136 := n1_; have GW136 := n2_; have GE136 := n3_; clear n0_ n1_ n2_ n3_; clear hb hbox hg))
      have n0_ := asd (blk_drew BK136.out)
      have n1_ := asd (below_drew1 HB.out)
      clear BK136
      clear HB
      have BK136 := n0_
      have HB := n1_
      clear n0_ n1_
      have p138 : 0 ≤ (a1_5 : Int) := dt
      have q138 : a1_5 < (l0.length : Int) := dt
      obtain ⟨ad138, e138, hx138_0, hx138_1, hx138_2, hx138_3, hx138_4, hx138_5⟩ := at_T49 HR0.out a1_5 p138 q138
      have hw138_5 := hx138_5
      have hw138_4 := hx138_4
      have hw138_3 := hx138_3
      have hw138_2 := hx138_2
      have hw138_1 := hx138_1
      have hw138_0 := hx138_0
      cases e138
      replace hx138_0 := skc HB.out hx138_0
      replace hx138_1 := skc HB.out hx138_1
      replace hx138_2 := skc HB.out hx138_2
      replace hx138_3 := skc HB.out hx138_3
      replace hx138_4 := skc HB.out hx138_4
      replace hx138_5 := skc HB.out hx138_5
      replace p138 := eq_true p138
      replace q138 := eq_true q138
      refine start_ (n := 23) (S := fun w' => w'.cell? ⟨gb136, 0, none⟩ = some (.int .i64 a1_0) ∧ w'.cell? ⟨gb136, 1, none⟩ = some (.int .i64 a1_1) ∧ w'.cell? ⟨gb136, 2, none⟩ = some (.int .i64 a1_2) ∧ w'.cell? ⟨gb136, 3, none⟩ = some (.int .i64 a1_3) ∧ w'.cell? ⟨gb136, 4, none⟩ = some (.int .i64 a1_4) ∧ w'.cell? ⟨gb136, 5, none⟩ = some (.int .i64 a1_5) ∧ w'.cell? (ad138.add ((a1_5).toNat * 6)) = some (.int .i64 ((J49 l0 a1_5).f0)) ∧ w'.cell? ⟨(ad138.add ((a1_5).toNat * 6)).block, (ad138.add ((a1_5).toNat * 6)).off + 1, none⟩ = some (.int .i64 ((J49 l0 a1_5).f1)) ∧ w'.cell? ⟨(ad138.add ((a1_5).toNat * 6)).block, (ad138.add ((a1_5).toNat * 6)).off + 2, none⟩ = some (.int .i64 ((J49 l0 a1_5).f2)) ∧ w'.cell? ⟨(ad138.add ((a1_5).toNat * 6)).block, (ad138.add ((a1_5).toNat * 6)).off + 3, none⟩ = some (.int .i64 ((J49 l0 a1_5).f3)) ∧ w'.cell? ⟨(ad138.add ((a1_5).toNat * 6)).block, (ad138.add ((a1_5).toNat * 6)).off + 4, none⟩ = some (.int .i64 ((J49 l0 a1_5).f4)) ∧ w'.cell? ⟨(ad138.add ((a1_5).toNat * 6)).block, (ad138.add ((a1_5).toNat * 6)).off + 5, none⟩ = some (.int .i64 ((J49 l0 a1_5).f5))) (ds := []) #[false,false,false,false,false,false,false,false,false,false,false,false,false,false,false,false,false,false,false,false,false,false,false] (by kernel_rfl) rfl rfl ⟨(blk_cell BK136.out 0).trans rfl, (blk_cell BK136.out 1).trans rfl, (blk_cell BK136.out 2).trans rfl, (blk_cell BK136.out 3).trans rfl, (blk_cell BK136.out 4).trans rfl, (blk_cell BK136.out 5).trans rfl, (skc HB.out hw138_0), (skc HB.out hw138_1), (skc HB.out hw138_2), (skc HB.out hw138_3), (skc HB.out hw138_4), (skc HB.out hw138_5)⟩ (fun hHeld => ?_); refine with_tabW table_crowned.tab1 table_crowned.bits1 (fun HT_ HW_ => ?_)
      generalize w13.drew = w14 at BK136 HB hx138_0 hx138_1 hx138_2 hx138_3 hx138_4 hx138_5 hHeld ⊢
      refine take_ (i := 0) (N := some 5) (v := ?_) (a' := ?_) #[true,false,false,false,false,false,false,false,false,false,false,false,false,false,false,false,false,false,false,false,false,false,false] rfl rfl (take_ofW HT_.out HW_.out (by kernel_rfl)) (fun _ _ _ h => h) (Or.inl ⟨by rfl, ?_⟩) hHeld ?_ ?_
      rotate_left
      ·
       rintro w' ⟨s0, s1, s2, s3, s4, s5, s6, s7, s8, s9, s10, s11⟩
       go_simp
       with_reducible rfl
      rotate_left
      ·
       simp only [Act.put, sp]
       rfl
      refine one_ (i := 1) (N := some 6) #[true,true,false,false,false,false,false,false,false,false,false,false,false,false,false,false,false,false,false,false,false,false,false] rfl rfl (one_of HT_.out (by kernel_rfl)) (by decide) (fun K hK => ?_)
      refine goes_ Try.func66 (by kernel_rfl) rfl #[.agg #[.int .i64 a1_0, .int .i64 a1_1, .int .i64 a1_2, .int .i64 a1_3, .int .i64 a1_4, .int .i64 a1_5]] (by rfl) rfl rfl ags ?_
      with_reducible refine (table_isLeaf.calls a1_0 a1_1 a1_2 a1_3 a1_4 a1_5 false _ A3.out).mono ?_
      rintro e w15 ⟨rfl, hb⟩
      refine ⟨_, rfl, ?_⟩
      have n0_ := asd (blk_below (g := gb136) (o := .cells #[.int .i64 a1_0, .int .i64 a1_1, .int .i64 a1_2, .int .i64 a1_3, .int .i64 a1_4, .int .i64 a1_5] 49 (0, 0)) (skK BK136.out) hb)
      have n1_ := asd (below_step (skG HB.out GE136.out GE136.out) hb)
      clear BK136
      clear HB
      have BK136 := n0_
      have HB := n1_
      clear n0_ n1_
      (try clear hb)
      (try clear hb2)
      (try clear hk)
      (try clear hi)
      refine hK.out _ _ ⟨(blk_cell BK136.out 0).trans rfl, (blk_cell BK136.out 1).trans rfl, (blk_cell BK136.out 2).trans rfl, (blk_cell BK136.out 3).trans rfl, (blk_cell BK136.out 4).trans rfl, (blk_cell BK136.out 5).trans rfl, (skc HB.out hw138_0), (skc HB.out hw138_1), (skc HB.out hw138_2), (skc HB.out hw138_3), (skc HB.out hw138_4), (skc HB.out hw138_5)⟩ (fun hHeld => ?_)
      clear hK K
      refine norm_ (a' := ?_) ?_ ?_
      rotate_left
      ·
       show Act.put _ (some 6) _ = _
       simp only [Act.put, sp]
       rfl
      refine pure_ (i := 2) (N := some 7) (v := ?_) (a' := ?_) #[true,true,true,false,false,false,false,false,false,false,false,false,false,false,false,false,false,false,false,false,false,false,false] rfl rfl (aK HT_.out) (fun _ _ _ h => h) (Or.inl ⟨by rfl, ?_⟩) ?_ ?_
      rotate_left
      ·
       intro w'
       go_simp
       with_reducible rfl
      rotate_left
      ·
       simp only [Act.put, sp]
       rfl
      refine pure_ (i := 3) (N := some 8) (v := ?_) (a' := ?_) #[true,true,true,true,false,false,false,false,false,false,false,false,false,false,false,false,false,false,false,false,false,false,false] rfl rfl (aK HT_.out) (fun _ _ _ h => h) (Or.inl ⟨by rfl, ?_⟩) ?_ ?_
      rotate_left
      ·
       intro w'
       go_simp
       with_reducible rfl
      rotate_left
      ·
       simp only [Act.put, sp]
       rfl
      refine pure_ (i := 4) (N := some 9) (v := ?_) (a' := ?_) #[true,true,true,true,true,false,false,false,false,false,false,false,false,false,false,false,false,false,false,false,false,false,false] rfl rfl (aK HT_.out) (fun _ _ _ h => h) (Or.inl ⟨by rfl, ?_⟩) ?_ ?_
      rotate_left
      ·
       intro w'
       go_simp
       with_reducible rfl
      rotate_left
      ·
       simp only [Act.put, sp]
       rfl
      refine take_ (i := 5) (N := some 10) (v := ?_) (a' := ?_) #[true,true,true,true,true,true,false,false,false,false,false,false,false,false,false,false,false,false,false,false,false,false,false] rfl rfl (take_ofW HT_.out HW_.out (by kernel_rfl)) (fun _ _ _ h => h) (Or.inl ⟨by rfl, ?_⟩) hHeld ?_ ?_
      rotate_left
      ·
       rintro w' ⟨s0, s1, s2, s3, s4, s5, s6, s7, s8, s9, s10, s11⟩
       go_simp
       with_reducible rfl
      rotate_left
      ·
       simp only [Act.put, sp]
       rfl
      refine pure_ (i := 6) (N := some 11) (v := ?_) (a' := ?_) #[true,true,true,true,true,true,true,false,false,false,false,false,false,false,false,false,false,false,false,false,false,false,false] rfl rfl (aK HT_.out) (fun _ _ _ h => h) (Or.inl ⟨by rfl, ?_⟩) ?_ ?_
      rotate_left
      ·
       intro w'
       go_simp
       with_reducible rfl
      rotate_left
      ·
       simp only [Act.put, sp]
       rfl
      refine pure_ (i := 7) (N := some 12) (v := ?_) (a' := ?_) #[true,true,true,true,true,true,true,true,false,false,false,false,false,false,false,false,false,false,false,false,false,false,false] rfl rfl (aK HT_.out) (fun _ _ _ h => h) (Or.inl ⟨by rfl, ?_⟩) ?_ ?_
      rotate_left
      ·
       intro w'
       go_simp
       with_reducible rfl
      rotate_left
      ·
       simp only [Act.put, sp]
       rfl
      refine pure_ (i := 8) (N := some 13) (v := ?_) (a' := ?_) #[true,true,true,true,true,true,true,true,true,false,false,false,false,false,false,false,false,false,false,false,false,false,false] rfl rfl (aK HT_.out) (fun _ _ _ h => h) (Or.inl ⟨by rfl, ?_⟩) ?_ ?_
      rotate_left
      ·
       intro w'
       go_simp
       with_reducible rfl
      rotate_left
      ·
       simp only [Act.put, sp]
       rfl
      refine pure_ (i := 9) (N := some 14) (v := ?_) (a' := ?_) #[true,true,true,true,true,true,true,true,true,true,false,false,false,false,false,false,false,false,false,false,false,false,false] rfl rfl (aK HT_.out) (fun _ _ _ h => h) (Or.inl ⟨by rfl, ?_⟩) ?_ ?_
      rotate_left
      ·
       intro w'
       go_simp
       with_reducible rfl
      rotate_left
      ·
       simp only [Act.put, sp]
       rfl
      refine take_ (i := 10) (N := some 15) (v := ?_) (a' := ?_) #[true,true,true,true,true,true,true,true,true,true,true,false,false,false,false,false,false,false,false,false,false,false,false] rfl rfl (take_ofW HT_.out HW_.out (by kernel_rfl)) (fun _ _ _ h => h) (Or.inl ⟨by rfl, ?_⟩) hHeld ?_ ?_
      rotate_left
      ·
       rintro w' ⟨s0, s1, s2, s3, s4, s5, s6, s7, s8, s9, s10, s11⟩
       go_simp
       with_reducible rfl
      rotate_left
      ·
       simp only [Act.put, sp]
       rfl
      refine pure_ (i := 11) (N := some 16) (v := ?_) (a' := ?_) #[true,true,true,true,true,true,true,true,true,true,true,true,false,false,false,false,false,false,false,false,false,false,false] rfl rfl (aK HT_.out) (fun _ _ _ h => h) (Or.inl ⟨by rfl, ?_⟩) ?_ ?_
      rotate_left
      ·
       intro w'
       go_simp
       with_reducible rfl
      rotate_left
      ·
       simp only [Act.put, sp]
       rfl
      refine pure_ (i := 12) (N := some 17) (v := ?_) (a' := ?_) #[true,true,true,true,true,true,true,true,true,true,true,true,true,false,false,false,false,false,false,false,false,false,false] rfl rfl (aK HT_.out) (fun _ _ _ h => h) (Or.inl ⟨by rfl, ?_⟩) ?_ ?_
      rotate_left
      ·
       intro w'
       go_simp
       with_reducible rfl
      rotate_left
      ·
       simp only [Act.put, sp]
       rfl
      refine pure_ (i := 13) (N := some 18) (v := ?_) (a' := ?_) #[true,true,true,true,true,true,true,true,true,true,true,true,true,true,false,false,false,false,false,false,false,false,false] rfl rfl (aK HT_.out) (fun _ _ _ h => h) (Or.inl ⟨by rfl, ?_⟩) ?_ ?_
      rotate_left
      ·
       intro w'
       go_simp
       with_reducible rfl
      rotate_left
      ·
       simp only [Act.put, sp]
       rfl
      refine pure_ (i := 14) (N := some 19) (v := ?_) (a' := ?_) #[true,true,true,true,true,true,true,true,true,true,true,true,true,true,true,false,false,false,false,false,false,false,false] rfl rfl (aK HT_.out) (fun _ _ _ h => h) (Or.inl ⟨by rfl, ?_⟩) ?_ ?_
      rotate_left
      ·
       intro w'
       go_simp
       with_reducible rfl
      rotate_left
      ·
       simp only [Act.put, sp]
       rfl
      refine pure_ (i := 15) (N := some 20) (v := ?_) (a' := ?_) #[true,true,true,true,true,true,true,true,true,true,true,true,true,true,true,true,false,false,false,false,false,false,false] rfl rfl (aK HT_.out) (fun _ _ _ h => h) (Or.inl ⟨by rfl, ?_⟩) ?_ ?_
      rotate_left
      ·
       intro w'
       go_simp
       with_reducible rfl
      rotate_left
      ·
       simp only [Act.put, sp]
       rfl
      refine take_ (i := 16) (N := some 21) (v := ?_) (a' := ?_) #[true,true,true,true,true,true,true,true,true,true,true,true,true,true,true,true,true,false,false,false,false,false,false] rfl rfl (take_ofW HT_.out HW_.out (by kernel_rfl)) (fun _ _ _ h => h) (Or.inl ⟨by rfl, ?_⟩) hHeld ?_ ?_
      rotate_left
      ·
       rintro w' ⟨s0, s1, s2, s3, s4, s5, s6, s7, s8, s9, s10, s11⟩
       go_simp
       with_reducible rfl
      rotate_left
      ·
       simp only [Act.put, sp]
       rfl
      refine pure_ (i := 17) (N := some 22) (v := ?_) (a' := ?_) #[true,true,true,true,true,true,true,true,true,true,true,true,true,true,true,true,true,true,false,false,false,false,false] rfl rfl (aK HT_.out) (fun _ _ _ h => h) (Or.inl ⟨by rfl, ?_⟩) ?_ ?_
      rotate_left
      ·
       intro w'
       go_simp
       with_reducible rfl
      rotate_left
      ·
       simp only [Act.put, sp]
       rfl
      refine take_ (i := 18) (N := some 23) (v := ?_) (a' := ?_) #[true,true,true,true,true,true,true,true,true,true,true,true,true,true,true,true,true,true,true,false,false,false,false] rfl rfl (take_ofW HT_.out HW_.out (by kernel_rfl)) (fun _ _ _ h => h) (Or.inl ⟨by rfl, ?_⟩) hHeld ?_ ?_
      rotate_left
      ·
       rintro w' ⟨s0, s1, s2, s3, s4, s5, s6, s7, s8, s9, s10, s11⟩
       go_simp
       with_reducible rfl
      rotate_left
      ·
       simp only [Act.put, sp]
       rfl
      refine one_ (i := 19) (N := some 24) #[true,true,true,true,true,true,true,true,true,true,true,true,true,true,true,true,true,true,true,true,false,false,false] rfl rfl (one_of HT_.out (by kernel_rfl)) (by decide) (fun K hK => ?_)
      refine goes_ Try.func69 (by kernel_rfl) rfl #[] (by rfl) rfl rfl ags ?_
      with_reducible refine (table_sentinel.calls  t139 t140 t141 t142 t143 t144 _ A12.out).mono ?_
      rintro e w16 ⟨rfl, hb⟩
      refine ⟨_, rfl, ?_⟩
      have n0_ := asd (blk_below (g := gb136) (o := .cells #[.int .i64 a1_0, .int .i64 a1_1, .int .i64 a1_2, .int .i64 a1_3, .int .i64 a1_4, .int .i64 a1_5] 49 (0, 0)) (skK BK136.out) hb)
      have n1_ := asd (below_step (skG HB.out GE136.out GE136.out) hb)
      clear BK136
      clear HB
      have BK136 := n0_
      have HB := n1_
      clear n0_ n1_
      (try clear hb)
      (try clear hb2)
      (try clear hk)
      (try clear hi)
      refine hK.out _ _ ⟨(blk_cell BK136.out 0).trans rfl, (blk_cell BK136.out 1).trans rfl, (blk_cell BK136.out 2).trans rfl, (blk_cell BK136.out 3).trans rfl, (blk_cell BK136.out 4).trans rfl, (blk_cell BK136.out 5).trans rfl, (skc HB.out hw138_0), (skc HB.out hw138_1), (skc HB.out hw138_2), (skc HB.out hw138_3), (skc HB.out hw138_4), (skc HB.out hw138_5)⟩ (fun hHeld => ?_)
      clear hK K
      refine norm_ (a' := ?_) ?_ ?_
      rotate_left
      ·
       show Act.put _ (some 24) _ = _
       simp only [Act.put, sp]
       rfl
      refine pure_ (i := 20) (N := some 25) (v := ?_) (a' := ?_) #[true,true,true,true,true,true,true,true,true,true,true,true,true,true,true,true,true,true,true,true,true,false,false] rfl rfl (aK HT_.out) (fun _ _ _ h => h) (Or.inl ⟨by rfl, ?_⟩) ?_ ?_
      rotate_left
      ·
       intro w'
       go_simp
       with_reducible rfl
      rotate_left
      ·
       simp only [Act.put, sp]
       rfl
      refine pure_ (i := 21) (N := some 26) (v := ?_) (a' := ?_) #[true,true,true,true,true,true,true,true,true,true,true,true,true,true,true,true,true,true,true,true,true,true,false] rfl rfl (aK HT_.out) (fun _ _ _ h => h) (Or.inl ⟨by rfl, ?_⟩) ?_ ?_
      rotate_left
      ·
       intro w'
       go_simp
       with_reducible rfl
      rotate_left
      ·
       simp only [Act.put, sp]
       rfl
      refine pure_ (i := 22) (N := some 4) (v := ?_) (a' := ?_) #[true,true,true,true,true,true,true,true,true,true,true,true,true,true,true,true,true,true,true,true,true,true,true] rfl rfl (aK HT_.out) (fun _ _ _ h => h) (Or.inl ⟨by rfl, ?_⟩) ?_ ?_
      rotate_left
      ·
       intro w'
       go_simp
       with_reducible rfl
      rotate_left
      ·
       simp only [Act.put, sp]
       rfl
      refine done_ (done_of HT_.out (by kernel_rfl)) ?_
      try go_wp2
      go_ret
      exact ⟨re, skG HB.out GE136.out GE136.out⟩
     ·
      rw [if_neg c11] at H
      exact absurd H (by simp)
    ·
     rw [if_neg c10] at H
     exact absurd H (by simp)
   ·
    rw [if_neg c9] at H
    have c9b0 : (a1_2 == 1) = false := beq_eq_false_iff_ne.mpr c9
    have c9b1 : (a1_2 != 1) = true := bne_iff_ne.mpr c9
    obtain rfl := Option.some.inj H
    go_enter Try.func68, Try.ntmps68
    try go_wp2_with (first | ((with_reducible refine gate_dst (N := 3) rfl ?_); refine box_event ?hg (N := 3) ?hd (cs := #[.int .i64 a1_0, .int .i64 a1_1, .int .i64 a1_2, .int .i64 a1_3, .int .i64 a1_4, .int .i64 a1_5]) (t := 49) ?hr ?_; (case hd => rfl); (case hg => rfl); (case hr => first | (go_simp; done) | (go_simp; rfl)); intro gb136 hg w17 hbox hb; have n0_ := asd (below_step (skB HB.out) hb); have n1_ := asd (hbox); have n2_ := asd ((by rw [hg]; exact (below_size (skB HB.out)) : w.heap.size ≤ gb136)); have n3_ := asd ((by rw [hg]; exact (below_size (skB HB.out)) : w.heap.size ≤ gb136)); clear HB; have HB := n0_; have BK136 := n1_; have GW136 := n2_; have GE136 := n3_; clear n0_ n1_ n2_ n3_; clear hb hbox hg))
    have n0_ := asd (blk_drew BK136.out)
    have n1_ := asd (below_drew1 HB.out)
    clear BK136
    clear HB
    have BK136 := n0_
    have HB := n1_
    clear n0_ n1_
    refine start_ (n := 23) (S := fun w' => w'.cell? ⟨gb136, 0, none⟩ = some (.int .i64 a1_0) ∧ w'.cell? ⟨gb136, 1, none⟩ = some (.int .i64 a1_1) ∧ w'.cell? ⟨gb136, 2, none⟩ = some (.int .i64 a1_2) ∧ w'.cell? ⟨gb136, 3, none⟩ = some (.int .i64 a1_3) ∧ w'.cell? ⟨gb136, 4, none⟩ = some (.int .i64 a1_4) ∧ w'.cell? ⟨gb136, 5, none⟩ = some (.int .i64 a1_5)) (ds := []) #[false,false,false,false,false,false,false,false,false,false,false,false,false,false,false,false,false,false,false,false,false,false,false] (by kernel_rfl) rfl rfl ⟨(blk_cell BK136.out 0).trans rfl, (blk_cell BK136.out 1).trans rfl, (blk_cell BK136.out 2).trans rfl, (blk_cell BK136.out 3).trans rfl, (blk_cell BK136.out 4).trans rfl, (blk_cell BK136.out 5).trans rfl⟩ (fun hHeld => ?_); refine with_tabW table_crowned.tab1 table_crowned.bits1 (fun HT_ HW_ => ?_)
    generalize w17.drew = w18 at BK136 HB hHeld ⊢
    refine take_ (i := 0) (N := some 5) (v := ?_) (a' := ?_) #[true,false,false,false,false,false,false,false,false,false,false,false,false,false,false,false,false,false,false,false,false,false,false] rfl rfl (take_ofW HT_.out HW_.out (by kernel_rfl)) (fun _ _ _ h => h) (Or.inl ⟨by rfl, ?_⟩) hHeld ?_ ?_
    rotate_left
    ·
     rintro w' ⟨s0, s1, s2, s3, s4, s5⟩
     go_simp
     with_reducible rfl
    rotate_left
    ·
     simp only [Act.put, sp]
     rfl
    refine one_ (i := 1) (N := some 6) #[true,true,false,false,false,false,false,false,false,false,false,false,false,false,false,false,false,false,false,false,false,false,false] rfl rfl (one_of HT_.out (by kernel_rfl)) (by decide) (fun K hK => ?_)
    refine goes_ Try.func66 (by kernel_rfl) rfl #[.agg #[.int .i64 a1_0, .int .i64 a1_1, .int .i64 a1_2, .int .i64 a1_3, .int .i64 a1_4, .int .i64 a1_5]] (by rfl) rfl rfl ags ?_
    with_reducible refine (table_isLeaf.calls a1_0 a1_1 a1_2 a1_3 a1_4 a1_5 false _ A3.out).mono ?_
    rintro e w19 ⟨rfl, hb⟩
    refine ⟨_, rfl, ?_⟩
    have n0_ := asd (blk_below (g := gb136) (o := .cells #[.int .i64 a1_0, .int .i64 a1_1, .int .i64 a1_2, .int .i64 a1_3, .int .i64 a1_4, .int .i64 a1_5] 49 (0, 0)) (skK BK136.out) hb)
    have n1_ := asd (below_step (skG HB.out GE136.out GE136.out) hb)
    clear BK136
    clear HB
    have BK136 := n0_
    have HB := n1_
    clear n0_ n1_
    (try clear hb)
    (try clear hb2)
    (try clear hk)
    (try clear hi)
    refine hK.out _ _ ⟨(blk_cell BK136.out 0).trans rfl, (blk_cell BK136.out 1).trans rfl, (blk_cell BK136.out 2).trans rfl, (blk_cell BK136.out 3).trans rfl, (blk_cell BK136.out 4).trans rfl, (blk_cell BK136.out 5).trans rfl⟩ (fun hHeld => ?_)
    clear hK K
    refine norm_ (a' := ?_) ?_ ?_
    rotate_left
    ·
     show Act.put _ (some 6) _ = _
     simp only [Act.put, sp]
     rfl
    refine pure_ (i := 2) (N := some 7) (v := ?_) (a' := ?_) #[true,true,true,false,false,false,false,false,false,false,false,false,false,false,false,false,false,false,false,false,false,false,false] rfl rfl (aK HT_.out) (fun _ _ _ h => h) (Or.inl ⟨by rfl, ?_⟩) ?_ ?_
    rotate_left
    ·
     intro w'
     go_simp
     with_reducible rfl
    rotate_left
    ·
     simp only [Act.put, sp]
     rfl
    refine pure_ (i := 3) (N := some 8) (v := ?_) (a' := ?_) #[true,true,true,true,false,false,false,false,false,false,false,false,false,false,false,false,false,false,false,false,false,false,false] rfl rfl (aK HT_.out) (fun _ _ _ h => h) (Or.inl ⟨by rfl, ?_⟩) ?_ ?_
    rotate_left
    ·
     intro w'
     go_simp
     with_reducible rfl
    rotate_left
    ·
     simp only [Act.put, sp]
     rfl
    refine pure_ (i := 4) (N := some 9) (v := ?_) (a' := ?_) #[true,true,true,true,true,false,false,false,false,false,false,false,false,false,false,false,false,false,false,false,false,false,false] rfl rfl (aK HT_.out) (fun _ _ _ h => h) (Or.inl ⟨by rfl, ?_⟩) ?_ ?_
    rotate_left
    ·
     intro w'
     go_simp
     with_reducible rfl
    rotate_left
    ·
     simp only [Act.put, sp]
     rfl
    refine take_ (i := 5) (N := some 10) (v := ?_) (a' := ?_) #[true,true,true,true,true,true,false,false,false,false,false,false,false,false,false,false,false,false,false,false,false,false,false] rfl rfl (take_ofW HT_.out HW_.out (by kernel_rfl)) (fun _ _ _ h => h) (Or.inl ⟨by rfl, ?_⟩) hHeld ?_ ?_
    rotate_left
    ·
     rintro w' ⟨s0, s1, s2, s3, s4, s5⟩
     go_simp
     with_reducible rfl
    rotate_left
    ·
     simp only [Act.put, sp]
     rfl
    refine pure_ (i := 6) (N := some 11) (v := ?_) (a' := ?_) #[true,true,true,true,true,true,true,false,false,false,false,false,false,false,false,false,false,false,false,false,false,false,false] rfl rfl (aK HT_.out) (fun _ _ _ h => h) (Or.inl ⟨by rfl, ?_⟩) ?_ ?_
    rotate_left
    ·
     intro w'
     go_simp
     with_reducible rfl
    rotate_left
    ·
     simp only [Act.put, sp]
     rfl
    refine pure_ (i := 7) (N := some 12) (v := ?_) (a' := ?_) #[true,true,true,true,true,true,true,true,false,false,false,false,false,false,false,false,false,false,false,false,false,false,false] rfl rfl (aK HT_.out) (fun _ _ _ h => h) (Or.inl ⟨by rfl, ?_⟩) ?_ ?_
    rotate_left
    ·
     intro w'
     go_simp
     with_reducible rfl
    rotate_left
    ·
     simp only [Act.put, sp]
     rfl
    refine pure_ (i := 8) (N := some 13) (v := ?_) (a' := ?_) #[true,true,true,true,true,true,true,true,true,false,false,false,false,false,false,false,false,false,false,false,false,false,false] rfl rfl (aK HT_.out) (fun _ _ _ h => h) (Or.inl ⟨by rfl, ?_⟩) ?_ ?_
    rotate_left
    ·
     intro w'
     go_simp
     with_reducible rfl
    rotate_left
    ·
     simp only [Act.put, sp]
     rfl
    refine pure_ (i := 9) (N := some 14) (v := ?_) (a' := ?_) #[true,true,true,true,true,true,true,true,true,true,false,false,false,false,false,false,false,false,false,false,false,false,false] rfl rfl (aK HT_.out) (fun _ _ _ h => h) (Or.inl ⟨by rfl, ?_⟩) ?_ ?_
    rotate_left
    ·
     intro w'
     go_simp
     with_reducible rfl
    rotate_left
    ·
     simp only [Act.put, sp]
     rfl
    refine take_ (i := 10) (N := some 15) (v := ?_) (a' := ?_) #[true,true,true,true,true,true,true,true,true,true,true,false,false,false,false,false,false,false,false,false,false,false,false] rfl rfl (take_ofW HT_.out HW_.out (by kernel_rfl)) (fun _ _ _ h => h) (Or.inl ⟨by rfl, ?_⟩) hHeld ?_ ?_
    rotate_left
    ·
     rintro w' ⟨s0, s1, s2, s3, s4, s5⟩
     go_simp
     with_reducible rfl
    rotate_left
    ·
     simp only [Act.put, sp]
     rfl
    refine pure_ (i := 11) (N := some 16) (v := ?_) (a' := ?_) #[true,true,true,true,true,true,true,true,true,true,true,true,false,false,false,false,false,false,false,false,false,false,false] rfl rfl (aK HT_.out) (fun _ _ _ h => h) (Or.inl ⟨by rfl, ?_⟩) ?_ ?_
    rotate_left
    ·
     intro w'
     go_simp
     with_reducible rfl
    rotate_left
    ·
     simp only [Act.put, sp]
     rfl
    refine pure_ (i := 12) (N := some 17) (v := ?_) (a' := ?_) #[true,true,true,true,true,true,true,true,true,true,true,true,true,false,false,false,false,false,false,false,false,false,false] rfl rfl (aK HT_.out) (fun _ _ _ h => h) (Or.inl ⟨by rfl, ?_⟩) ?_ ?_
    rotate_left
    ·
     intro w'
     go_simp
     with_reducible rfl
    rotate_left
    ·
     simp only [Act.put, sp]
     rfl
    refine pure_ (i := 13) (N := some 18) (v := ?_) (a' := ?_) #[true,true,true,true,true,true,true,true,true,true,true,true,true,true,false,false,false,false,false,false,false,false,false] rfl rfl (aK HT_.out) (fun _ _ _ h => h) (Or.inl ⟨by rfl, ?_⟩) ?_ ?_
    rotate_left
    ·
     intro w'
     go_simp
     with_reducible rfl
    rotate_left
    ·
     simp only [Act.put, sp]
     rfl
    refine pure_ (i := 14) (N := some 19) (v := undef) (a' := ?_) #[true,true,true,true,true,true,true,true,true,true,true,true,true,true,true,false,false,false,false,false,false,false,false] rfl rfl (aK HT_.out) (fun _ _ _ h => h) (Or.inr ⟨by rfl, rfl⟩) ?_ ?_
    rotate_left
    ·
     simp only [Act.put, sp]
     rfl
    refine pure_ (i := 15) (N := some 20) (v := undef) (a' := ?_) #[true,true,true,true,true,true,true,true,true,true,true,true,true,true,true,true,false,false,false,false,false,false,false] rfl rfl (aK HT_.out) (fun _ _ _ h => h) (Or.inr ⟨by rfl, rfl⟩) ?_ ?_
    rotate_left
    ·
     simp only [Act.put, sp]
     rfl
    refine pure_ (i := 16) (N := some 21) (v := undef) (a' := ?_) #[true,true,true,true,true,true,true,true,true,true,true,true,true,true,true,true,true,false,false,false,false,false,false] rfl rfl (aK HT_.out) (fun _ _ _ h => h) (Or.inr ⟨by rfl, rfl⟩) ?_ ?_
    rotate_left
    ·
     simp only [Act.put, sp]
     rfl
    refine pure_ (i := 17) (N := some 22) (v := undef) (a' := ?_) #[true,true,true,true,true,true,true,true,true,true,true,true,true,true,true,true,true,true,false,false,false,false,false] rfl rfl (aK HT_.out) (fun _ _ _ h => h) (Or.inr ⟨by rfl, rfl⟩) ?_ ?_
    rotate_left
    ·
     simp only [Act.put, sp]
     rfl
    refine pure_ (i := 18) (N := some 23) (v := undef) (a' := ?_) #[true,true,true,true,true,true,true,true,true,true,true,true,true,true,true,true,true,true,true,false,false,false,false] rfl rfl (aK HT_.out) (fun _ _ _ h => h) (Or.inr ⟨by rfl, rfl⟩) ?_ ?_
    rotate_left
    ·
     simp only [Act.put, sp]
     rfl
    refine pure_ (i := 19) (N := some 24) (v := undef) (a' := ?_) #[true,true,true,true,true,true,true,true,true,true,true,true,true,true,true,true,true,true,true,true,false,false,false] rfl rfl (aK HT_.out) (fun _ _ _ h => h) (Or.inr ⟨by rfl, rfl⟩) ?_ ?_
    rotate_left
    ·
     simp only [Act.put, sp]
     rfl
    refine pure_ (i := 20) (N := some 25) (v := undef) (a' := ?_) #[true,true,true,true,true,true,true,true,true,true,true,true,true,true,true,true,true,true,true,true,true,false,false] rfl rfl (aK HT_.out) (fun _ _ _ h => h) (Or.inr ⟨by rfl, rfl⟩) ?_ ?_
    rotate_left
    ·
     simp only [Act.put, sp]
     rfl
    refine pure_ (i := 21) (N := some 26) (v := ?_) (a' := ?_) #[true,true,true,true,true,true,true,true,true,true,true,true,true,true,true,true,true,true,true,true,true,true,false] rfl rfl (aK HT_.out) (fun _ _ _ h => h) (Or.inl ⟨by rfl, ?_⟩) ?_ ?_
    rotate_left
    ·
     intro w'
     go_simp
     with_reducible rfl
    rotate_left
    ·
     simp only [Act.put, sp]
     rfl
    refine pure_ (i := 22) (N := some 4) (v := ?_) (a' := ?_) #[true,true,true,true,true,true,true,true,true,true,true,true,true,true,true,true,true,true,true,true,true,true,true] rfl rfl (aK HT_.out) (fun _ _ _ h => h) (Or.inl ⟨by rfl, ?_⟩) ?_ ?_
    rotate_left
    ·
     intro w'
     go_simp
     with_reducible rfl
    rotate_left
    ·
     simp only [Act.put, sp]
     rfl
    refine done_ (done_of HT_.out (by kernel_rfl)) ?_
    try go_wp2
    go_ret
    exact ⟨re, skG HB.out GE136.out GE136.out⟩
  ·
   rw [if_neg c8] at H
   have c8b0 : (a1_1 == 1) = false := beq_eq_false_iff_ne.mpr c8
   have c8b1 : (a1_1 != 1) = true := bne_iff_ne.mpr c8
   obtain rfl := Option.some.inj H
   go_enter Try.func68, Try.ntmps68
   try go_wp2_with (first | ((with_reducible refine gate_dst (N := 3) rfl ?_); refine box_event ?hg (N := 3) ?hd (cs := #[.int .i64 a1_0, .int .i64 a1_1, .int .i64 a1_2, .int .i64 a1_3, .int .i64 a1_4, .int .i64 a1_5]) (t := 49) ?hr ?_; (case hd => rfl); (case hg => rfl); (case hr => first | (go_simp; done) | (go_simp; rfl)); intro gb136 hg w20 hbox hb; have n0_ := asd (below_step (skB HB.out) hb); have n1_ := asd (hbox); have n2_ := asd ((by rw [hg]; exact (below_size (skB HB.out)) : w.heap.size ≤ gb136)); have n3_ := asd ((by rw [hg]; exact (below_size (skB HB.out)) : w.heap.size ≤ gb136)); clear HB; have HB := n0_; have BK136 := n1_; have GW136 := n2_; have GE136 := n3_; clear n0_ n1_ n2_ n3_; clear hb hbox hg))
   have n0_ := asd (blk_drew BK136.out)
   have n1_ := asd (below_drew1 HB.out)
   clear BK136
   clear HB
   have BK136 := n0_
   have HB := n1_
   clear n0_ n1_
   refine start_ (n := 23) (S := fun w' => w'.cell? ⟨gb136, 0, none⟩ = some (.int .i64 a1_0) ∧ w'.cell? ⟨gb136, 1, none⟩ = some (.int .i64 a1_1) ∧ w'.cell? ⟨gb136, 2, none⟩ = some (.int .i64 a1_2) ∧ w'.cell? ⟨gb136, 3, none⟩ = some (.int .i64 a1_3) ∧ w'.cell? ⟨gb136, 4, none⟩ = some (.int .i64 a1_4) ∧ w'.cell? ⟨gb136, 5, none⟩ = some (.int .i64 a1_5)) (ds := []) #[false,false,false,false,false,false,false,false,false,false,false,false,false,false,false,false,false,false,false,false,false,false,false] (by kernel_rfl) rfl rfl ⟨(blk_cell BK136.out 0).trans rfl, (blk_cell BK136.out 1).trans rfl, (blk_cell BK136.out 2).trans rfl, (blk_cell BK136.out 3).trans rfl, (blk_cell BK136.out 4).trans rfl, (blk_cell BK136.out 5).trans rfl⟩ (fun hHeld => ?_); refine with_tabW table_crowned.tab1 table_crowned.bits1 (fun HT_ HW_ => ?_)
   generalize w20.drew = w21 at BK136 HB hHeld ⊢
   refine take_ (i := 0) (N := some 5) (v := ?_) (a' := ?_) #[true,false,false,false,false,false,false,false,false,false,false,false,false,false,false,false,false,false,false,false,false,false,false] rfl rfl (take_ofW HT_.out HW_.out (by kernel_rfl)) (fun _ _ _ h => h) (Or.inl ⟨by rfl, ?_⟩) hHeld ?_ ?_
   rotate_left
   ·
    rintro w' ⟨s0, s1, s2, s3, s4, s5⟩
    go_simp
    with_reducible rfl
   rotate_left
   ·
    simp only [Act.put, sp]
    rfl
   refine one_ (i := 1) (N := some 6) #[true,true,false,false,false,false,false,false,false,false,false,false,false,false,false,false,false,false,false,false,false,false,false] rfl rfl (one_of HT_.out (by kernel_rfl)) (by decide) (fun K hK => ?_)
   refine goes_ Try.func66 (by kernel_rfl) rfl #[.agg #[.int .i64 a1_0, .int .i64 a1_1, .int .i64 a1_2, .int .i64 a1_3, .int .i64 a1_4, .int .i64 a1_5]] (by rfl) rfl rfl ags ?_
   with_reducible refine (table_isLeaf.calls a1_0 a1_1 a1_2 a1_3 a1_4 a1_5 false _ A3.out).mono ?_
   rintro e w22 ⟨rfl, hb⟩
   refine ⟨_, rfl, ?_⟩
   have n0_ := asd (blk_below (g := gb136) (o := .cells #[.int .i64 a1_0, .int .i64 a1_1, .int .i64 a1_2, .int .i64 a1_3, .int .i64 a1_4, .int .i64 a1_5] 49 (0, 0)) (skK BK136.out) hb)
   have n1_ := asd (below_step (skG HB.out GE136.out GE136.out) hb)
   clear BK136
   clear HB
   have BK136 := n0_
   have HB := n1_
   clear n0_ n1_
   (try clear hb)
   (try clear hb2)
   (try clear hk)
   (try clear hi)
   refine hK.out _ _ ⟨(blk_cell BK136.out 0).trans rfl, (blk_cell BK136.out 1).trans rfl, (blk_cell BK136.out 2).trans rfl, (blk_cell BK136.out 3).trans rfl, (blk_cell BK136.out 4).trans rfl, (blk_cell BK136.out 5).trans rfl⟩ (fun hHeld => ?_)
   clear hK K
   refine norm_ (a' := ?_) ?_ ?_
   rotate_left
   ·
    show Act.put _ (some 6) _ = _
    simp only [Act.put, sp]
    rfl
   refine pure_ (i := 2) (N := some 7) (v := ?_) (a' := ?_) #[true,true,true,false,false,false,false,false,false,false,false,false,false,false,false,false,false,false,false,false,false,false,false] rfl rfl (aK HT_.out) (fun _ _ _ h => h) (Or.inl ⟨by rfl, ?_⟩) ?_ ?_
   rotate_left
   ·
    intro w'
    go_simp
    with_reducible rfl
   rotate_left
   ·
    simp only [Act.put, sp]
    rfl
   refine pure_ (i := 3) (N := some 8) (v := ?_) (a' := ?_) #[true,true,true,true,false,false,false,false,false,false,false,false,false,false,false,false,false,false,false,false,false,false,false] rfl rfl (aK HT_.out) (fun _ _ _ h => h) (Or.inl ⟨by rfl, ?_⟩) ?_ ?_
   rotate_left
   ·
    intro w'
    go_simp
    with_reducible rfl
   rotate_left
   ·
    simp only [Act.put, sp]
    rfl
   refine pure_ (i := 4) (N := some 9) (v := ?_) (a' := ?_) #[true,true,true,true,true,false,false,false,false,false,false,false,false,false,false,false,false,false,false,false,false,false,false] rfl rfl (aK HT_.out) (fun _ _ _ h => h) (Or.inl ⟨by rfl, ?_⟩) ?_ ?_
   rotate_left
   ·
    intro w'
    go_simp
    with_reducible rfl
   rotate_left
   ·
    simp only [Act.put, sp]
    rfl
   refine take_ (i := 5) (N := some 10) (v := ?_) (a' := ?_) #[true,true,true,true,true,true,false,false,false,false,false,false,false,false,false,false,false,false,false,false,false,false,false] rfl rfl (take_ofW HT_.out HW_.out (by kernel_rfl)) (fun _ _ _ h => h) (Or.inl ⟨by rfl, ?_⟩) hHeld ?_ ?_
   rotate_left
   ·
    rintro w' ⟨s0, s1, s2, s3, s4, s5⟩
    go_simp
    with_reducible rfl
   rotate_left
   ·
    simp only [Act.put, sp]
    rfl
   refine pure_ (i := 6) (N := some 11) (v := ?_) (a' := ?_) #[true,true,true,true,true,true,true,false,false,false,false,false,false,false,false,false,false,false,false,false,false,false,false] rfl rfl (aK HT_.out) (fun _ _ _ h => h) (Or.inl ⟨by rfl, ?_⟩) ?_ ?_
   rotate_left
   ·
    intro w'
    go_simp
    with_reducible rfl
   rotate_left
   ·
    simp only [Act.put, sp]
    rfl
   refine pure_ (i := 7) (N := some 12) (v := ?_) (a' := ?_) #[true,true,true,true,true,true,true,true,false,false,false,false,false,false,false,false,false,false,false,false,false,false,false] rfl rfl (aK HT_.out) (fun _ _ _ h => h) (Or.inl ⟨by rfl, ?_⟩) ?_ ?_
   rotate_left
   ·
    intro w'
    go_simp
    with_reducible rfl
   rotate_left
   ·
    simp only [Act.put, sp]
    rfl
   refine pure_ (i := 8) (N := some 13) (v := ?_) (a' := ?_) #[true,true,true,true,true,true,true,true,true,false,false,false,false,false,false,false,false,false,false,false,false,false,false] rfl rfl (aK HT_.out) (fun _ _ _ h => h) (Or.inl ⟨by rfl, ?_⟩) ?_ ?_
   rotate_left
   ·
    intro w'
    go_simp
    with_reducible rfl
   rotate_left
   ·
    simp only [Act.put, sp]
    rfl
   refine pure_ (i := 9) (N := some 14) (v := undef) (a' := ?_) #[true,true,true,true,true,true,true,true,true,true,false,false,false,false,false,false,false,false,false,false,false,false,false] rfl rfl (aK HT_.out) (fun _ _ _ h => h) (Or.inr ⟨by rfl, rfl⟩) ?_ ?_
   rotate_left
   ·
    simp only [Act.put, sp]
    rfl
   refine pure_ (i := 10) (N := some 15) (v := undef) (a' := ?_) #[true,true,true,true,true,true,true,true,true,true,true,false,false,false,false,false,false,false,false,false,false,false,false] rfl rfl (aK HT_.out) (fun _ _ _ h => h) (Or.inr ⟨by rfl, rfl⟩) ?_ ?_
   rotate_left
   ·
    simp only [Act.put, sp]
    rfl
   refine pure_ (i := 11) (N := some 16) (v := undef) (a' := ?_) #[true,true,true,true,true,true,true,true,true,true,true,true,false,false,false,false,false,false,false,false,false,false,false] rfl rfl (aK HT_.out) (fun _ _ _ h => h) (Or.inr ⟨by rfl, rfl⟩) ?_ ?_
   rotate_left
   ·
    simp only [Act.put, sp]
    rfl
   refine pure_ (i := 12) (N := some 17) (v := ?_) (a' := ?_) #[true,true,true,true,true,true,true,true,true,true,true,true,true,false,false,false,false,false,false,false,false,false,false] rfl rfl (aK HT_.out) (fun _ _ _ h => h) (Or.inl ⟨by rfl, ?_⟩) ?_ ?_
   rotate_left
   ·
    intro w'
    go_simp
    with_reducible rfl
   rotate_left
   ·
    simp only [Act.put, sp]
    rfl
   refine pure_ (i := 13) (N := some 18) (v := ?_) (a' := ?_) #[true,true,true,true,true,true,true,true,true,true,true,true,true,true,false,false,false,false,false,false,false,false,false] rfl rfl (aK HT_.out) (fun _ _ _ h => h) (Or.inl ⟨by rfl, ?_⟩) ?_ ?_
   rotate_left
   ·
    intro w'
    go_simp
    with_reducible rfl
   rotate_left
   ·
    simp only [Act.put, sp]
    rfl
   refine pure_ (i := 14) (N := some 19) (v := undef) (a' := ?_) #[true,true,true,true,true,true,true,true,true,true,true,true,true,true,true,false,false,false,false,false,false,false,false] rfl rfl (aK HT_.out) (fun _ _ _ h => h) (Or.inr ⟨by rfl, rfl⟩) ?_ ?_
   rotate_left
   ·
    simp only [Act.put, sp]
    rfl
   refine pure_ (i := 15) (N := some 20) (v := undef) (a' := ?_) #[true,true,true,true,true,true,true,true,true,true,true,true,true,true,true,true,false,false,false,false,false,false,false] rfl rfl (aK HT_.out) (fun _ _ _ h => h) (Or.inr ⟨by rfl, rfl⟩) ?_ ?_
   rotate_left
   ·
    simp only [Act.put, sp]
    rfl
   refine pure_ (i := 16) (N := some 21) (v := undef) (a' := ?_) #[true,true,true,true,true,true,true,true,true,true,true,true,true,true,true,true,true,false,false,false,false,false,false] rfl rfl (aK HT_.out) (fun _ _ _ h => h) (Or.inr ⟨by rfl, rfl⟩) ?_ ?_
   rotate_left
   ·
    simp only [Act.put, sp]
    rfl
   refine pure_ (i := 17) (N := some 22) (v := undef) (a' := ?_) #[true,true,true,true,true,true,true,true,true,true,true,true,true,true,true,true,true,true,false,false,false,false,false] rfl rfl (aK HT_.out) (fun _ _ _ h => h) (Or.inr ⟨by rfl, rfl⟩) ?_ ?_
   rotate_left
   ·
    simp only [Act.put, sp]
    rfl
   refine pure_ (i := 18) (N := some 23) (v := undef) (a' := ?_) #[true,true,true,true,true,true,true,true,true,true,true,true,true,true,true,true,true,true,true,false,false,false,false] rfl rfl (aK HT_.out) (fun _ _ _ h => h) (Or.inr ⟨by rfl, rfl⟩) ?_ ?_
   rotate_left
   ·
    simp only [Act.put, sp]
    rfl
   refine pure_ (i := 19) (N := some 24) (v := undef) (a' := ?_) #[true,true,true,true,true,true,true,true,true,true,true,true,true,true,true,true,true,true,true,true,false,false,false] rfl rfl (aK HT_.out) (fun _ _ _ h => h) (Or.inr ⟨by rfl, rfl⟩) ?_ ?_
   rotate_left
   ·
    simp only [Act.put, sp]
    rfl
   refine pure_ (i := 20) (N := some 25) (v := undef) (a' := ?_) #[true,true,true,true,true,true,true,true,true,true,true,true,true,true,true,true,true,true,true,true,true,false,false] rfl rfl (aK HT_.out) (fun _ _ _ h => h) (Or.inr ⟨by rfl, rfl⟩) ?_ ?_
   rotate_left
   ·
    simp only [Act.put, sp]
    rfl
   refine pure_ (i := 21) (N := some 26) (v := ?_) (a' := ?_) #[true,true,true,true,true,true,true,true,true,true,true,true,true,true,true,true,true,true,true,true,true,true,false] rfl rfl (aK HT_.out) (fun _ _ _ h => h) (Or.inl ⟨by rfl, ?_⟩) ?_ ?_
   rotate_left
   ·
    intro w'
    go_simp
    with_reducible rfl
   rotate_left
   ·
    simp only [Act.put, sp]
    rfl
   refine pure_ (i := 22) (N := some 4) (v := ?_) (a' := ?_) #[true,true,true,true,true,true,true,true,true,true,true,true,true,true,true,true,true,true,true,true,true,true,true] rfl rfl (aK HT_.out) (fun _ _ _ h => h) (Or.inl ⟨by rfl, ?_⟩) ?_ ?_
   rotate_left
   ·
    intro w'
    go_simp
    with_reducible rfl
   rotate_left
   ·
    simp only [Act.put, sp]
    rfl
   refine done_ (done_of HT_.out (by kernel_rfl)) ?_
   try go_wp2
   go_ret
   exact ⟨re, skG HB.out GE136.out GE136.out⟩
end Go.Proofs.Ytmmjkebboonnkaa.P
/- F28 -/
namespace Go.Proofs.Ytmmjkebboonnkaa.P
open Go.RowKit Go.Proofs.YtmmjkebboonnkaaW.PrintWords Go.Proofs.YtmmjkebboonnkaaW.PrintLast Go.Proofs.YtmmjkebboonnkaaW.PrintMore
attribute [local go_sem] max2_int min2_int max_two min_two max_three min_three max_four min_four   -- for this text's walks alone
set_option linter.unusedVariables false
set_option linter.unusedSimpArgs false
def larchref17_leaf.f (a0_0 : Int) (a0_1 : Int) (a0_2 : Int) (a0_3 : Int) (a0_4 : Int) (a0_5 : Int) : Option (Bool) := if a0_4 = (-1) then (some (a0_5 == (-1))) else (some false)
set_option maxHeartbeats 8000000 in
set_option maxRecDepth 100000 in
theorem larchref17_leaf.calls (a0_0 : Int) (a0_1 : Int) (a0_2 : Int) (a0_3 : Int) (a0_4 : Int) (a0_5 : Int) (r : Bool) (w : World) (h : larchref17_leaf.f a0_0 a0_1 a0_2 a0_3 a0_4 a0_5 = some r) :
  Calls Try.prog 53 #[.agg #[.int .i64 a0_0, .int .i64 a0_1, .int .i64 a0_2, .int .i64 a0_3, .int .i64 a0_4, .int .i64 a0_5]] w fun e w' => e = .returned (.bool r) ∧ Below w.heap.size w w' := by
 have hu49 := Try.underlying49
 have HB := asd (Below.refl w.heap.size w)
 have H : (if a0_4 = (-1) then (some (a0_5 == (-1))) else (some false)) = some r := h
 clear h
 by_cases c2 : a0_4 = (-1)
 ·
  rw [if_pos c2] at H
  have c2b0 : (a0_4 == (-1)) = true := beq_iff_eq.mpr c2
  have c2b1 : (a0_4 != (-1)) = false := bne_eq_false_iff_eq.mpr c2
  clear c2
  obtain rfl := Option.some.inj H
  go_enter Try.func53, Try.ntmps53
  go_wp2_with (first | ((with_reducible refine gate_dst (N := 1) rfl ?_); refine box_event ?hg (N := 1) ?hd (cs := #[.int .i64 a0_0, .int .i64 a0_1, .int .i64 a0_2, .int .i64 a0_3, .int .i64 a0_4, .int .i64 a0_5]) (t := 49) ?hr ?_; (case hd => rfl); (case hg => rfl); (case hr => first | (go_simp; done) | (go_simp; rfl)); intro gb282 hg w3 hbox hb; have n0_ := asd (below_step (skB HB.out) hb); have n1_ := asd (hbox); have n2_ := asd ((by rw [hg]; exact (below_size (skB HB.out)) : w.heap.size ≤ gb282)); have n3_ := asd ((by rw [hg]; exact (below_size (skB HB.out)) : w.heap.size ≤ gb282)); clear HB; have HB := n0_; have BK282 := n1_; have GW282 := n2_; have GE282 := n3_; clear n0_ n1_ n2_ n3_; clear hb hbox hg; obtain ⟨hcz4_0, hcz4_1, hcz4_2, hcz4_3, hcz4_4, hcz4_5, hfz4_0, hfz4_1, hfz4_2, hfz4_3, hfz4_4, hfz4_5⟩ := bk6 BK282.out))
  go_ret
  exact ⟨re, skG HB.out GE282.out GE282.out⟩
 ·
  rw [if_neg c2] at H
  have c2b0 : (a0_4 == (-1)) = false := beq_eq_false_iff_ne.mpr c2
  have c2b1 : (a0_4 != (-1)) = true := bne_iff_ne.mpr c2
  obtain rfl := Option.some.inj H
  go_enter Try.func53, Try.ntmps53
  go_wp2_with (first | ((with_reducible refine gate_dst (N := 1) rfl ?_); refine box_event ?hg (N := 1) ?hd (cs := #[.int .i64 a0_0, .int .i64 a0_1, .int .i64 a0_2, .int .i64 a0_3, .int .i64 a0_4, .int .i64 a0_5]) (t := 49) ?hr ?_; (case hd => rfl); (case hg => rfl); (case hr => first | (go_simp; done) | (go_simp; rfl)); intro gb282 hg w5 hbox hb; have n0_ := asd (below_step (skB HB.out) hb); have n1_ := asd (hbox); have n2_ := asd ((by rw [hg]; exact (below_size (skB HB.out)) : w.heap.size ≤ gb282)); have n3_ := asd ((by rw [hg]; exact (below_size (skB HB.out)) : w.heap.size ≤ gb282)); clear HB; have HB := n0_; have BK282 := n1_; have GW282 := n2_; have GE282 := n3_; clear n0_ n1_ n2_ n3_; clear hb hbox hg; obtain ⟨hcz6_0, hcz6_1, hcz6_2, hcz6_3, hcz6_4, hcz6_5, hfz6_0, hfz6_1, hfz6_2, hfz6_3, hfz6_4, hfz6_5⟩ := bk6 BK282.out))
  go_ret
  exact ⟨re, skG HB.out GE282.out GE282.out⟩
end Go.Proofs.Ytmmjkebboonnkaa.P
/- F29 -/
namespace Go.Proofs.Ytmmjkebboonnkaa.P
open Go.RowKit Go.Proofs.YtmmjkebboonnkaaW.PrintWords Go.Proofs.YtmmjkebboonnkaaW.PrintLast Go.Proofs.YtmmjkebboonnkaaW.PrintMore
attribute [local go_sem] max2_int min2_int max_two min_two max_three min_three max_four min_four   -- for this text's walks alone
set_option linter.unusedVariables false
set_option linter.unusedSimpArgs false
def larchref17_Order.l0 : Nat → List (S49) → List Int → List Int → Option (List Int)
 | 0, _, _, _ => none
 | k + 1, x0, x5, x6 => if (x6.length : Int) > 0 then (if 0 ≤ (wrap64 ((x6.length : Int) - 1)) then (if (wrap64 ((x6.length : Int) - 1)) < (x6.length : Int) then (if (wrap64 ((x6.length : Int) - 1)) ≤ (x6.length : Int) then ((some (x6.take ((wrap64 ((x6.length : Int) - 1)) : Int).toNat : List Int)).bind fun y287 => (if x5.length < 17592186044416 then ((some (x5 ++ [rd x6 (wrap64 ((x6.length : Int) - 1))] : List Int)).bind fun y290 => (if 0 ≤ (rd x6 (wrap64 ((x6.length : Int) - 1))) then (if (rd x6 (wrap64 ((x6.length : Int) - 1))) < (x0.length : Int) then ((larchref17_leaf.f ((J49 x0 (rd x6 (wrap64 ((x6.length : Int) - 1)))).f0) ((J49 x0 (rd x6 (wrap64 ((x6.length : Int) - 1)))).f1) ((J49 x0 (rd x6 (wrap64 ((x6.length : Int) - 1)))).f2) ((J49 x0 (rd x6 (wrap64 ((x6.length : Int) - 1)))).f3) ((J49 x0 (rd x6 (wrap64 ((x6.length : Int) - 1)))).f4) ((J49 x0 (rd x6 (wrap64 ((x6.length : Int) - 1)))).f5)).bind fun t294 => (if t294 = true then (larchref17_Order.l0 k x0 y290 y287) else ((some (([(J49 x0 (rd x6 (wrap64 ((x6.length : Int) - 1)))).f5, (J49 x0 (rd x6 (wrap64 ((x6.length : Int) - 1)))).f4] : List Int) : List Int)).bind fun y297 => (if y287.length + y297.length < 17592186044416 then (larchref17_Order.l0 k x0 y290 (y287 ++ y297)) else (none))))) else (none)) else (none))) else (none))) else (none)) else (none)) else (none)) else (some x5)
def larchref17_Order.f (k : Nat) (l0 : List (S49)) (a1 : Int) : Option (List Int) := larchref17_Order.l0 k l0 ([] : List Int) (([a1] : List Int))
def larchref17_Order.T8 : Bool × List (List Nat × List Nat) := (true, [([], []), ([], []), ([], []), ([1, 2], [1, 2]), ([3], [3]), ([4], [4]), ([], []), ([], []), ([6, 7], [6, 7]), ([8], [8]), ([9], [9]), ([5, 10], [5, 10]), ([0, 11], [0, 11]), ([12, 12, 0, 1, 2, 3, 4, 5, 6, 7, 8, 9, 10, 11, 12], [0, 12])])
def larchref17_Order.B8 : List Nat := [0, 0, 0, 6, 14, 30, 0, 0, 192, 448, 960, 2046, 4095, 8191]
theorem larchref17_Order.tab8 : rtab .any (opsOf Try.f27 8) = larchref17_Order.T8 := by kernel_rfl
theorem larchref17_Order.bits8 : waitsOk larchref17_Order.T8.2 larchref17_Order.B8 = true := by kernel_rfl
set_option maxHeartbeats 8000000 in
set_option maxRecDepth 100000 in
theorem larchref17_Order.calls (k : Nat) (A0 : Option Addr) (c0 : Nat) (l0 : List (S49)) (a1 : Int) (r : List Int) (w : World) (hr0 : Kd.C k49 w A0 l0.length l0) (hc0 : l0.length ≤ c0) (h : larchref17_Order.f k l0 a1 = some r) :
  Calls Try.prog 27 #[.slice A0 l0.length c0, .int .i64 a1] w fun e w' => ∃ v0_ : Value, e = .returned (v0_) ∧ Kd.R (Kd.int .i64) 3 w' w.heap.size (fun _ => True) v0_ r ∧ Below w.heap.size w w' := by
 have hu49 := Try.underlying49
 have HR0 := asd hr0
 have HC0 := asd hc0
 clear hr0 hc0
 have HB := asd (Below.refl w.heap.size w)
 have H : (larchref17_Order.l0 k l0 ([] : List Int) (([a1] : List Int))) = some r := h
 clear h
 obtain ⟨y283, hy283⟩ : ∃ y_ : List Int, y_ = (([a1] : List Int)) := ⟨_, rfl⟩
 replace H : (larchref17_Order.l0 k l0 ([] : List Int) y283) = some r := by first | (rw [hy283]; with_reducible exact H) | (have H2_ := (Option.bind_some _ _).symm.trans H; rw [hy283]; with_reducible exact H2_) | (have H2_ := (Option.bind_some _ _).symm.trans H; with_reducible exact H2_) | with_reducible exact H | (rw [hy283]; exact H) | exact H
 have Ny283 := asd hy283
 clear hy283
 have H' := asd H
 clear H
 go_enter Try.func27, Try.ntmps27
 go_wp2_with (first | ((with_reducible refine gate_dst (N := 9) rfl ?_); refine Kd.R_lit (Kd.int .i64) _ 3 ?hg (N := 9) ?hd (xs := ([a1] : List Int)) (inner := [.int .i64 a1]) (ok := fun _ => True) (okp := fun _ => True) ?hr ?hp (fun _ hk => hk) trivial (Below.refl _ _) (Nat.le_refl _) (by simp) ?_; (case hd => rfl); (case hg => rfl); (case hr => first | (go_simp; done) | (go_simp; rfl)); (case hp => exact (Reps.one (show Kd.M (Kd.int .i64) _ _ _ a1 [.int .i64 a1] from rfl) (Reps.none _ _))); intro v284 w3 ho4 hb hg_ hnew_; clear hg_ hnew_; (first | rw [← Ny283.out] at ho4 | (simp only [Int.reduceToNat] at ho4; rw [← Ny283.out] at ho4)); have n0_ := asd (Kd.R_lower ho4 (below_size (skB HB.out))); have n1_ := asd (below_step (skB HB.out) hb); clear HB; have HO285 := n0_; have HB := n1_; clear n0_ n1_; clear hb ho4))
 go_loopg [5, 6] k (fun kq v5 v6 w' => ∃ (x5_1 : List Int) (x6_1 : List Int), Aside0 (larchref17_Order.l0 kq l0 x5_1 x6_1 = some r) ∧ Aside0 (kq ≤ k) ∧ Aside0 (Kd.R (Kd.int .i64) 3 w' w.heap.size (fun k_ => some k_ ≠ (v6 : Value).ownBlock) v5 x5_1) ∧ Aside0 (Kd.R (Kd.int .i64) 3 w' w.heap.size (fun k_ => some k_ ≠ (v5 : Value).ownBlock) v6 x6_1) ∧ Aside0 (Below w.heap.size w w'))
 case atStart => exact ⟨(([] : List Int)), (y283), H', ⟨Nat.le_refl _⟩, ⟨by first | exact Kd.R_nil _ _ _ _ _ | exact Kd.N_nil _ _ _ _ _ | exact Kd.V_nil _ _ _ _ _ | exact Kd.Q_nil _ _ _ _ _ | exact Kd.S_nil _ _ _ _ _⟩, ⟨skR (Kd.R_mono HO285.out (fun _ hk => (by simp [Value.ownBlock])))⟩, ⟨skB HB.out⟩⟩
 case round =>
  clear H'
  try clear c2
  try clear p2
  obtain ⟨x5_1, x6_1, HA, HK1, HO_5, HO_6, HB⟩ := hrel
  cases gk with
  | zero => exact absurd HA.out (by simp [larchref17_Order.l0])
  | succ k1 =>
   have H := HA.out
   clear HA
   simp only [larchref17_Order.l0] at H
   by_cases c5 : (x6_1.length : Int) > 0
   ·
    rw [if_pos c5] at H
    have c5b0 : decide (0 < (x6_1.length : Int)) = true := decide_eq_true c5
    have c5b1 : decide (0 < x6_1.length) = true := decide_eq_true (by omega)
    clear c5
    obtain ⟨ji6, hji6⟩ : ∃ j_ : Int, (wrap64 ((x6_1.length : Int) - 1)) = j_ := ⟨_, rfl⟩
    replace H : (if 0 ≤ (ji6) then (if (ji6) < (x6_1.length : Int) then (if (ji6) ≤ (x6_1.length : Int) then ((some (x6_1.take ((ji6) : Int).toNat : List Int)).bind fun y287 => (if x5_1.length < 17592186044416 then ((some (x5_1 ++ [rd x6_1 (ji6)] : List Int)).bind fun y290 => (if 0 ≤ (rd x6_1 (ji6)) then (if (rd x6_1 (ji6)) < (l0.length : Int) then ((larchref17_leaf.f ((J49 l0 (rd x6_1 (ji6))).f0) ((J49 l0 (rd x6_1 (ji6))).f1) ((J49 l0 (rd x6_1 (ji6))).f2) ((J49 l0 (rd x6_1 (ji6))).f3) ((J49 l0 (rd x6_1 (ji6))).f4) ((J49 l0 (rd x6_1 (ji6))).f5)).bind fun t294 => (if t294 = true then (larchref17_Order.l0 k1 l0 y290 y287) else ((some (([(J49 l0 (rd x6_1 (ji6))).f5, (J49 l0 (rd x6_1 (ji6))).f4] : List Int) : List Int)).bind fun y297 => (if y287.length + y297.length < 17592186044416 then (larchref17_Order.l0 k1 l0 y290 (y287 ++ y297)) else (none))))) else (none)) else (none))) else (none))) else (none)) else (none)) else (none)) = some r := by first | (rw [hji6] at H; exact H) | (simp only [hji6] at H ⊢; exact H)
    have hji6w : (IntKind.i64.wrap ((x6_1.length : Int) - 1)) = ji6 := (i64_w _).trans hji6
    by_cases c7 : 0 ≤ (ji6)
    ·
     rw [if_pos c7] at H
     have c7b0 : decide (0 ≤ (ji6)) = true := decide_eq_true c7
     clear c7
     by_cases c8 : (ji6) < (x6_1.length : Int)
     ·
      rw [if_pos c8] at H
      have c8b0 : decide ((ji6) < (x6_1.length : Int)) = true := decide_eq_true c8
      clear c8
      by_cases c9 : (ji6) ≤ (x6_1.length : Int)
      ·
       rw [if_pos c9] at H
       have c9b0 := eq_true c9
       have c9b1 : decide ((ji6) ≤ (x6_1.length : Int)) = true := decide_eq_true c9
       clear c9
       obtain ⟨y287, hy287⟩ : ∃ y_ : List Int, y_ = (x6_1.take ((ji6) : Int).toNat) := ⟨_, rfl⟩
       replace H : (if x5_1.length < 17592186044416 then ((some (x5_1 ++ [rd x6_1 (ji6)] : List Int)).bind fun y290 => (if 0 ≤ (rd x6_1 (ji6)) then (if (rd x6_1 (ji6)) < (l0.length : Int) then ((larchref17_leaf.f ((J49 l0 (rd x6_1 (ji6))).f0) ((J49 l0 (rd x6_1 (ji6))).f1) ((J49 l0 (rd x6_1 (ji6))).f2) ((J49 l0 (rd x6_1 (ji6))).f3) ((J49 l0 (rd x6_1 (ji6))).f4) ((J49 l0 (rd x6_1 (ji6))).f5)).bind fun t294 => (if t294 = true then (larchref17_Order.l0 k1 l0 y290 y287) else ((some (([(J49 l0 (rd x6_1 (ji6))).f5, (J49 l0 (rd x6_1 (ji6))).f4] : List Int) : List Int)).bind fun y297 => (if y287.length + y297.length < 17592186044416 then (larchref17_Order.l0 k1 l0 y290 (y287 ++ y297)) else (none))))) else (none)) else (none))) else (none)) = some r := by first | (rw [hy287]; with_reducible exact H) | (have H2_ := (Option.bind_some _ _).symm.trans H; rw [hy287]; with_reducible exact H2_) | (have H2_ := (Option.bind_some _ _).symm.trans H; with_reducible exact H2_) | with_reducible exact H | (rw [hy287]; exact H) | exact H
       have Ny287 := asd hy287
       clear hy287
       by_cases c10 : x5_1.length < 17592186044416
       ·
        rw [if_pos c10] at H
        have LMc10 := asd c10
        clear c10
        obtain ⟨y290, hy290⟩ : ∃ y_ : List Int, y_ = (x5_1 ++ [rd x6_1 (ji6)]) := ⟨_, rfl⟩
        replace H : (if 0 ≤ (rd x6_1 (ji6)) then (if (rd x6_1 (ji6)) < (l0.length : Int) then ((larchref17_leaf.f ((J49 l0 (rd x6_1 (ji6))).f0) ((J49 l0 (rd x6_1 (ji6))).f1) ((J49 l0 (rd x6_1 (ji6))).f2) ((J49 l0 (rd x6_1 (ji6))).f3) ((J49 l0 (rd x6_1 (ji6))).f4) ((J49 l0 (rd x6_1 (ji6))).f5)).bind fun t294 => (if t294 = true then (larchref17_Order.l0 k1 l0 y290 y287) else ((some (([(J49 l0 (rd x6_1 (ji6))).f5, (J49 l0 (rd x6_1 (ji6))).f4] : List Int) : List Int)).bind fun y297 => (if y287.length + y297.length < 17592186044416 then (larchref17_Order.l0 k1 l0 y290 (y287 ++ y297)) else (none))))) else (none)) else (none)) = some r := by first | (rw [hy290]; with_reducible exact H) | (have H2_ := (Option.bind_some _ _).symm.trans H; rw [hy290]; with_reducible exact H2_) | (have H2_ := (Option.bind_some _ _).symm.trans H; with_reducible exact H2_) | with_reducible exact H | (rw [hy290]; exact H) | exact H
        have Ny290 := asd hy290
        clear hy290
        by_cases c11 : 0 ≤ (rd x6_1 (ji6))
        ·
         rw [if_pos c11] at H
         have c11b0 : decide (0 ≤ (rd x6_1 (ji6))) = true := decide_eq_true c11
         clear c11
         by_cases c12 : (rd x6_1 (ji6)) < (l0.length : Int)
         ·
          rw [if_pos c12] at H
          have c12b0 : decide ((rd x6_1 (ji6)) < (l0.length : Int)) = true := decide_eq_true c12
          clear c12
          replace H := Option.bind_eq_some_iff.mp H
          obtain ⟨t294, A130, H⟩ := H
          replace H : (if t294 = true then (larchref17_Order.l0 k1 l0 y290 y287) else ((some (([(J49 l0 (rd x6_1 (ji6))).f5, (J49 l0 (rd x6_1 (ji6))).f4] : List Int) : List Int)).bind fun y297 => (if y287.length + y297.length < 17592186044416 then (larchref17_Order.l0 k1 l0 y290 (y287 ++ y297)) else (none)))) = some r := H
          have A13 := asd A130
          clear A130
          by_cases c14 : t294 = true
          ·
           subst c14
           have H1 : (larchref17_Order.l0 k1 l0 y290 y287) = some r := by rw [if_pos rfl] at H; exact H
           clear H
           have H := H1
           clear H1
           have H' := asd H
           clear H
           obtain ⟨Ao15, co15, eo15⟩ := Kd.R_slice HO_6.out
           subst eo15
           have p286 : 0 ≤ ((ji6) : Int) := dt
           have q286 : (ji6) < (x6_1.length : Int) := dt
           obtain ⟨ad286, e286, hx286_0⟩ := Kd.at_int (Kd.R_reads' HO_6.out).2.2 (ji6) p286 q286
           cases e286
           replace p286 := eq_true p286
           replace q286 := eq_true q286
           have q16 : ((ji6) : Int) ≤ ((x6_1.length : Int) : Int) := dt
           obtain ⟨i016, hi016, _, hsz16, _⟩ := info_parts info3
           have hcut16 := cut_to (P := Try.prog) 23 3 .i64 Try.underlying23 hi016 (some ad286) x6_1.length co15 (ji6) dt q16 (Kd.R_reads' HO_6.out).2.1
           have hr16 := Kd.R_take (m := ((ji6) : Int).toNat) HO_6.out (by omega)
           have hy16 : y287.length = ((ji6) : Int).toNat := (by rw [Ny287.out, List.length_take]; omega)
           rw [← Ny287.out] at hr16
           rw [← hy16] at hr16 hcut16
           clear hy16 hi016 hsz16 HO_6
           have HO289 := asd hr16
           clear hr16
           replace q16 := eq_true q16
           go_wp2_with (first | ((with_reducible refine gate_builtin (b := .append) (xs := #[.tmp 24, .tmp 26]) rfl ?_); at_builtin; refine Kd.R_append (Kd.int .i64) (w0 := w) w.heap.size rfl (.tmp 24) (.tmp 26) 23 3 (.int .i64 0) 8 rfl Try.underlying23 info3 rfl (by decide) (by omega) u5 x5_1 (rd x6_1 (ji6)) [.int .i64 (rd x6_1 (ji6))] (fun k_ => some k_ ≠ (.slice (some ad286) y287.length co15 : Value).ownBlock) (fun _ => False) rfl rfl ?aP (fun _ hk => hk.elim) ?aF ?aO ?aB ?aS ?aL ?_; (case aP => exact rfl); (case aB => exact (skB HB.out)); (case aF => exact (fun k_ hk => Kd.fresh' (Kd.R_lt (skR HO289.out)) k_ hk)); (case aO => exact (skR HO_5.out)); (case aS => exact (below_size (skB HB.out))); (case aL => have := LMc10.out; omega); intro v291 w17 ho hb hg hat; rw [← Ny290.out] at ho; have n0_ := asd (Kd.R_after (ok := (fun _ => True)) (skR (Kd.R_mono HO289.out (fun _ hk => ⟨trivial, hk⟩))) hg hat); have n1_ := asd (hb); have n2_ := asd (ho); clear HO289; clear HB; clear HO_5; have HO289 := n0_; have HB := n1_; have HO292 := n2_; clear n0_ n1_ n2_; clear ho hb hg hat; have p293 : 0 ≤ ((rd x6_1 (ji6)) : Int) := dt; have q293 : (rd x6_1 (ji6)) < (l0.length : Int) := dt; obtain ⟨ad293, e293, hx293_0, hx293_1, hx293_2, hx293_3, hx293_4, hx293_5⟩ := at_T49 HR0.out (rd x6_1 (ji6)) p293 q293; cases e293; replace hx293_0 := skc HB.out hx293_0; replace hx293_1 := skc HB.out hx293_1; replace hx293_2 := skc HB.out hx293_2; replace hx293_3 := skc HB.out hx293_3; replace hx293_4 := skc HB.out hx293_4; replace hx293_5 := skc HB.out hx293_5; replace p293 := eq_true p293; replace q293 := eq_true q293) | ((with_reducible refine gate_callee (f := 53) rfl ?_); refine goesL_ (some 32) rfl rfl Try.func53 (by kernel_rfl) rfl #[.agg #[.int .i64 ((J49 l0 (rd x6_1 (ji6))).f0), .int .i64 ((J49 l0 (rd x6_1 (ji6))).f1), .int .i64 ((J49 l0 (rd x6_1 (ji6))).f2), .int .i64 ((J49 l0 (rd x6_1 (ji6))).f3), .int .i64 ((J49 l0 (rd x6_1 (ji6))).f4), .int .i64 ((J49 l0 (rd x6_1 (ji6))).f5)]] rfl (by (try simp only [List.map_toArray, List.map_cons, List.map_nil]); first | done | (simp only [hji6]; rfl) | rfl | (simp only [List.length_drop, List.length_take]; rfl)) ?_; (with_reducible refine (larchref17_leaf.calls ((J49 l0 (rd x6_1 (ji6))).f0) ((J49 l0 (rd x6_1 (ji6))).f1) ((J49 l0 (rd x6_1 (ji6))).f2) ((J49 l0 (rd x6_1 (ji6))).f3) ((J49 l0 (rd x6_1 (ji6))).f4) ((J49 l0 (rd x6_1 (ji6))).f5) true _ A13.out).mono ?_); rintro e w18 ⟨rfl, hb⟩; refine ⟨_, rfl, ?_⟩; have n0_ := asd (Kd.R_below (skR HO289.out) hb); have n1_ := asd (Kd.R_below (skR HO292.out) hb); have n2_ := asd (below_step (skB HB.out) hb); clear HO289; clear HO292; clear HB; have HO289 := n0_; have HO292 := n1_; have HB := n2_; clear n0_ n1_ n2_; (try clear hb); (try clear hb2); (try clear hk); (try clear hi)))
           go_roundg k1
           case measure => have := HK1.out; omega
           case rel => exact ⟨(y290), (y287), H', ⟨by have := HK1.out; omega⟩, ⟨skR HO292.out⟩, ⟨skR (Kd.R_mono HO289.out (fun _ hk => hk.2))⟩, ⟨skB HB.out⟩⟩
          ·
           replace c14 := Bool.eq_false_iff.mpr c14
           subst c14
           have H1 : ((some (([(J49 l0 (rd x6_1 (ji6))).f5, (J49 l0 (rd x6_1 (ji6))).f4] : List Int) : List Int)).bind fun y297 => (if y287.length + y297.length < 17592186044416 then (larchref17_Order.l0 k1 l0 y290 (y287 ++ y297)) else (none))) = some r := by rw [if_neg (show ¬ (false = true) by decide)] at H; exact H
           clear H
           have H := H1
           clear H1
           obtain ⟨y297, hy297⟩ : ∃ y_ : List Int, y_ = (([(J49 l0 (rd x6_1 (ji6))).f5, (J49 l0 (rd x6_1 (ji6))).f4] : List Int)) := ⟨_, rfl⟩
           replace H : (if y287.length + y297.length < 17592186044416 then (larchref17_Order.l0 k1 l0 y290 (y287 ++ y297)) else (none)) = some r := by first | (rw [hy297]; with_reducible exact H) | (have H2_ := (Option.bind_some _ _).symm.trans H; rw [hy297]; with_reducible exact H2_) | (have H2_ := (Option.bind_some _ _).symm.trans H; with_reducible exact H2_) | with_reducible exact H | (rw [hy297]; exact H) | exact H
           have Ny297 := asd hy297
           clear hy297
           by_cases c19 : y287.length + y297.length < 17592186044416
           ·
            rw [if_pos c19] at H
            have LMc19 := asd c19
            clear c19
            obtain ⟨y300, hy300⟩ : ∃ y_ : List Int, y_ = (y287 ++ y297) := ⟨_, rfl⟩
            replace H : (larchref17_Order.l0 k1 l0 y290 y300) = some r := by first | (rw [hy300]; with_reducible exact H) | (have H2_ := (Option.bind_some _ _).symm.trans H; rw [hy300]; with_reducible exact H2_) | (have H2_ := (Option.bind_some _ _).symm.trans H; with_reducible exact H2_) | with_reducible exact H | (rw [hy300]; exact H) | exact H
            have Ny300 := asd hy300
            clear hy300
            have H' := asd H
            clear H
            obtain ⟨Ao20, co20, eo20⟩ := Kd.R_slice HO_6.out
            subst eo20
            have p286 : 0 ≤ ((ji6) : Int) := dt
            have q286 : (ji6) < (x6_1.length : Int) := dt
            obtain ⟨ad286, e286, hx286_0⟩ := Kd.at_int (Kd.R_reads' HO_6.out).2.2 (ji6) p286 q286
            cases e286
            replace p286 := eq_true p286
            replace q286 := eq_true q286
            have q21 : ((ji6) : Int) ≤ ((x6_1.length : Int) : Int) := dt
            obtain ⟨i021, hi021, _, hsz21, _⟩ := info_parts info3
            have hcut21 := cut_to (P := Try.prog) 23 3 .i64 Try.underlying23 hi021 (some ad286) x6_1.length co20 (ji6) dt q21 (Kd.R_reads' HO_6.out).2.1
            have hr21 := Kd.R_take (m := ((ji6) : Int).toNat) HO_6.out (by omega)
            have hy21 : y287.length = ((ji6) : Int).toNat := (by rw [Ny287.out, List.length_take]; omega)
            rw [← Ny287.out] at hr21
            rw [← hy21] at hr21 hcut21
            clear hy21 hi021 hsz21 HO_6
            have HO289 := asd hr21
            clear hr21
            replace q21 := eq_true q21
            try go_wp2_with (first | ((with_reducible refine gate_builtin (b := .append) (xs := #[.tmp 24, .tmp 26]) rfl ?_); at_builtin; refine Kd.R_append (Kd.int .i64) (w0 := w) w.heap.size rfl (.tmp 24) (.tmp 26) 23 3 (.int .i64 0) 8 rfl Try.underlying23 info3 rfl (by decide) (by omega) u5 x5_1 (rd x6_1 (ji6)) [.int .i64 (rd x6_1 (ji6))] (fun k_ => some k_ ≠ (.slice (some ad286) y287.length co20 : Value).ownBlock) (fun _ => False) rfl rfl ?aP (fun _ hk => hk.elim) ?aF ?aO ?aB ?aS ?aL ?_; (case aP => exact rfl); (case aB => exact (skB HB.out)); (case aF => exact (fun k_ hk => Kd.fresh' (Kd.R_lt (skR HO289.out)) k_ hk)); (case aO => exact (skR HO_5.out)); (case aS => exact (below_size (skB HB.out))); (case aL => have := LMc10.out; omega); intro v291 w22 ho hb hg hat; rw [← Ny290.out] at ho; have n0_ := asd (Kd.R_after (ok := (fun _ => True)) (skR (Kd.R_mono HO289.out (fun _ hk => ⟨trivial, hk⟩))) hg hat); have n1_ := asd (hb); have n2_ := asd (ho); clear HO289; clear HB; clear HO_5; have HO289 := n0_; have HB := n1_; have HO292 := n2_; clear n0_ n1_ n2_; clear ho hb hg hat; have p293 : 0 ≤ ((rd x6_1 (ji6)) : Int) := dt; have q293 : (rd x6_1 (ji6)) < (l0.length : Int) := dt; obtain ⟨ad293, e293, hx293_0, hx293_1, hx293_2, hx293_3, hx293_4, hx293_5⟩ := at_T49 HR0.out (rd x6_1 (ji6)) p293 q293; cases e293; replace hx293_0 := skc HB.out hx293_0; replace hx293_1 := skc HB.out hx293_1; replace hx293_2 := skc HB.out hx293_2; replace hx293_3 := skc HB.out hx293_3; replace hx293_4 := skc HB.out hx293_4; replace hx293_5 := skc HB.out hx293_5; replace p293 := eq_true p293; replace q293 := eq_true q293) | ((with_reducible refine gate_callee (f := 53) rfl ?_); refine goesL_ (some 32) rfl rfl Try.func53 (by kernel_rfl) rfl #[.agg #[.int .i64 ((J49 l0 (rd x6_1 (ji6))).f0), .int .i64 ((J49 l0 (rd x6_1 (ji6))).f1), .int .i64 ((J49 l0 (rd x6_1 (ji6))).f2), .int .i64 ((J49 l0 (rd x6_1 (ji6))).f3), .int .i64 ((J49 l0 (rd x6_1 (ji6))).f4), .int .i64 ((J49 l0 (rd x6_1 (ji6))).f5)]] rfl (by (try simp only [List.map_toArray, List.map_cons, List.map_nil]); first | done | (simp only [hji6]; rfl) | rfl | (simp only [List.length_drop, List.length_take]; rfl)) ?_; (with_reducible refine (larchref17_leaf.calls ((J49 l0 (rd x6_1 (ji6))).f0) ((J49 l0 (rd x6_1 (ji6))).f1) ((J49 l0 (rd x6_1 (ji6))).f2) ((J49 l0 (rd x6_1 (ji6))).f3) ((J49 l0 (rd x6_1 (ji6))).f4) ((J49 l0 (rd x6_1 (ji6))).f5) false _ A13.out).mono ?_); rintro e w23 ⟨rfl, hb⟩; refine ⟨_, rfl, ?_⟩; have n0_ := asd (Kd.R_below (skR HO289.out) hb); have n1_ := asd (Kd.R_below (skR HO292.out) hb); have n2_ := asd (below_step (skB HB.out) hb); clear HO289; clear HO292; clear HB; have HO289 := n0_; have HO292 := n1_; have HB := n2_; clear n0_ n1_ n2_; (try clear hb); (try clear hb2); (try clear hk); (try clear hi)))
            have n0_ := asd (Kd.R_drew HO289.out)
            have n1_ := asd (Kd.R_drew HO292.out)
            have n2_ := asd (below_drew1 HB.out)
            clear HO289
            clear HO292
            clear HB
            have HO289 := n0_
            have HO292 := n1_
            have HB := n2_
            clear n0_ n1_ n2_
            have p295 : 0 ≤ ((rd x6_1 (ji6)) : Int) := dt
            have q295 : (rd x6_1 (ji6)) < (l0.length : Int) := dt
            obtain ⟨ad295, e295, hx295_0, hx295_1, hx295_2, hx295_3, hx295_4, hx295_5⟩ := at_T49 HR0.out (rd x6_1 (ji6)) p295 q295
            have hw295_5 := hx295_5
            have hw295_4 := hx295_4
            have hw295_3 := hx295_3
            have hw295_2 := hx295_2
            have hw295_1 := hx295_1
            have hw295_0 := hx295_0
            obtain rfl : ad293 = ad295 := (by injection e295)
            replace hx295_0 := skc HB.out hx295_0
            replace hx295_1 := skc HB.out hx295_1
            replace hx295_2 := skc HB.out hx295_2
            replace hx295_3 := skc HB.out hx295_3
            replace hx295_4 := skc HB.out hx295_4
            replace hx295_5 := skc HB.out hx295_5
            replace p295 := eq_true p295
            replace q295 := eq_true q295
            have p296 : 0 ≤ ((rd x6_1 (ji6)) : Int) := dt
            have q296 : (rd x6_1 (ji6)) < (l0.length : Int) := dt
            obtain ⟨ad296, e296, hx296_0, hx296_1, hx296_2, hx296_3, hx296_4, hx296_5⟩ := at_T49 HR0.out (rd x6_1 (ji6)) p296 q296
            have hw296_5 := hx296_5
            have hw296_4 := hx296_4
            have hw296_3 := hx296_3
            have hw296_2 := hx296_2
            have hw296_1 := hx296_1
            have hw296_0 := hx296_0
            obtain rfl : ad293 = ad296 := (by injection e296)
            replace hx296_0 := skc HB.out hx296_0
            replace hx296_1 := skc HB.out hx296_1
            replace hx296_2 := skc HB.out hx296_2
            replace hx296_3 := skc HB.out hx296_3
            replace hx296_4 := skc HB.out hx296_4
            replace hx296_5 := skc HB.out hx296_5
            replace p296 := eq_true p296
            replace q296 := eq_true q296
            refine start_ (n := 14) (S := fun w' => w'.cell? (ad293.add (((rd x6_1 (ji6))).toNat * 6)) = some (.int .i64 ((J49 l0 (rd x6_1 (ji6))).f0)) ∧ w'.cell? ⟨(ad293.add (((rd x6_1 (ji6))).toNat * 6)).block, (ad293.add (((rd x6_1 (ji6))).toNat * 6)).off + 1, none⟩ = some (.int .i64 ((J49 l0 (rd x6_1 (ji6))).f1)) ∧ w'.cell? ⟨(ad293.add (((rd x6_1 (ji6))).toNat * 6)).block, (ad293.add (((rd x6_1 (ji6))).toNat * 6)).off + 2, none⟩ = some (.int .i64 ((J49 l0 (rd x6_1 (ji6))).f2)) ∧ w'.cell? ⟨(ad293.add (((rd x6_1 (ji6))).toNat * 6)).block, (ad293.add (((rd x6_1 (ji6))).toNat * 6)).off + 3, none⟩ = some (.int .i64 ((J49 l0 (rd x6_1 (ji6))).f3)) ∧ w'.cell? ⟨(ad293.add (((rd x6_1 (ji6))).toNat * 6)).block, (ad293.add (((rd x6_1 (ji6))).toNat * 6)).off + 4, none⟩ = some (.int .i64 ((J49 l0 (rd x6_1 (ji6))).f4)) ∧ w'.cell? ⟨(ad293.add (((rd x6_1 (ji6))).toNat * 6)).block, (ad293.add (((rd x6_1 (ji6))).toNat * 6)).off + 5, none⟩ = some (.int .i64 ((J49 l0 (rd x6_1 (ji6))).f5)) ∧ w'.cell? (ad293.add (((rd x6_1 (ji6))).toNat * 6)) = some (.int .i64 ((J49 l0 (rd x6_1 (ji6))).f0)) ∧ w'.cell? ⟨(ad293.add (((rd x6_1 (ji6))).toNat * 6)).block, (ad293.add (((rd x6_1 (ji6))).toNat * 6)).off + 1, none⟩ = some (.int .i64 ((J49 l0 (rd x6_1 (ji6))).f1)) ∧ w'.cell? ⟨(ad293.add (((rd x6_1 (ji6))).toNat * 6)).block, (ad293.add (((rd x6_1 (ji6))).toNat * 6)).off + 2, none⟩ = some (.int .i64 ((J49 l0 (rd x6_1 (ji6))).f2)) ∧ w'.cell? ⟨(ad293.add (((rd x6_1 (ji6))).toNat * 6)).block, (ad293.add (((rd x6_1 (ji6))).toNat * 6)).off + 3, none⟩ = some (.int .i64 ((J49 l0 (rd x6_1 (ji6))).f3)) ∧ w'.cell? ⟨(ad293.add (((rd x6_1 (ji6))).toNat * 6)).block, (ad293.add (((rd x6_1 (ji6))).toNat * 6)).off + 4, none⟩ = some (.int .i64 ((J49 l0 (rd x6_1 (ji6))).f4)) ∧ w'.cell? ⟨(ad293.add (((rd x6_1 (ji6))).toNat * 6)).block, (ad293.add (((rd x6_1 (ji6))).toNat * 6)).off + 5, none⟩ = some (.int .i64 ((J49 l0 (rd x6_1 (ji6))).f5))) (ds := []) #[false,false,false,false,false,false,false,false,false,false,false,false,false,false] (by kernel_rfl) rfl rfl ⟨(skc HB.out hw295_0), (skc HB.out hw295_1), (skc HB.out hw295_2), (skc HB.out hw295_3), (skc HB.out hw295_4), (skc HB.out hw295_5), (skc HB.out hw296_0), (skc HB.out hw296_1), (skc HB.out hw296_2), (skc HB.out hw296_3), (skc HB.out hw296_4), (skc HB.out hw296_5)⟩ (fun hHeld => ?_); refine with_tabW larchref17_Order.tab8 larchref17_Order.bits8 (fun HT_ HW_ => ?_)
            generalize w23.drew = w24 at HO289 HO292 HB hx295_0 hx295_1 hx295_2 hx295_3 hx295_4 hx295_5 hx296_0 hx296_1 hx296_2 hx296_3 hx296_4 hx296_5 hHeld ⊢
            refine pure_ (i := 0) (N := some 34) (v := ?_) (a' := ?_) #[true,false,false,false,false,false,false,false,false,false,false,false,false,false] rfl rfl (aK HT_.out) (fun _ _ _ h => h) (Or.inl ⟨by rfl, ?_⟩) ?_ ?_
            rotate_left
            ·
             intro w'
             go_simp
             with_reducible rfl
            rotate_left
            ·
             simp only [Act.put, sp]
             rfl
            refine pure_ (i := 1) (N := some 35) (v := ?_) (a' := ?_) #[true,true,false,false,false,false,false,false,false,false,false,false,false,false] rfl rfl (aK HT_.out) (fun _ _ _ h => h) (Or.inl ⟨by rfl, ?_⟩) ?_ ?_
            rotate_left
            ·
             intro w'
             go_simp
             with_reducible rfl
            rotate_left
            ·
             simp only [Act.put, sp]
             rfl
            refine pure_ (i := 2) (N := some 36) (v := ?_) (a' := ?_) #[true,true,true,false,false,false,false,false,false,false,false,false,false,false] rfl rfl (aK HT_.out) (fun _ _ _ h => h) (Or.inl ⟨by rfl, ?_⟩) ?_ ?_
            rotate_left
            ·
             intro w'
             go_simp
             with_reducible rfl
            rotate_left
            ·
             simp only [Act.put, sp]
             rfl
            refine pure_ (i := 3) (N := some 37) (v := ?_) (a' := ?_) #[true,true,true,true,false,false,false,false,false,false,false,false,false,false] rfl rfl (aK HT_.out) (fun _ _ _ h => h) (Or.inl ⟨by rfl, ?_⟩) ?_ ?_
            rotate_left
            ·
             intro w'
             go_simp
             with_reducible rfl
            rotate_left
            ·
             simp only [Act.put, sp]
             rfl
            refine pure_ (i := 4) (N := some 38) (v := ?_) (a' := ?_) #[true,true,true,true,true,false,false,false,false,false,false,false,false,false] rfl rfl (aK HT_.out) (fun _ _ _ h => h) (Or.inl ⟨by rfl, ?_⟩) ?_ ?_
            rotate_left
            ·
             intro w'
             go_simp
             with_reducible rfl
            rotate_left
            ·
             simp only [Act.put, sp]
             rfl
            refine pure_ (i := 6) (N := some 40) (v := ?_) (a' := ?_) #[true,true,true,true,true,false,true,false,false,false,false,false,false,false] rfl rfl (aK HT_.out) (fun _ _ _ h => h) (Or.inl ⟨by rfl, ?_⟩) ?_ ?_
            rotate_left
            ·
             intro w'
             go_simp
             with_reducible rfl
            rotate_left
            ·
             simp only [Act.put, sp]
             rfl
            refine pure_ (i := 7) (N := some 41) (v := ?_) (a' := ?_) #[true,true,true,true,true,false,true,true,false,false,false,false,false,false] rfl rfl (aK HT_.out) (fun _ _ _ h => h) (Or.inl ⟨by rfl, ?_⟩) ?_ ?_
            rotate_left
            ·
             intro w'
             go_simp
             with_reducible rfl
            rotate_left
            ·
             simp only [Act.put, sp]
             rfl
            refine pure_ (i := 8) (N := some 42) (v := ?_) (a' := ?_) #[true,true,true,true,true,false,true,true,true,false,false,false,false,false] rfl rfl (aK HT_.out) (fun _ _ _ h => h) (Or.inl ⟨by rfl, ?_⟩) ?_ ?_
            rotate_left
            ·
             intro w'
             go_simp
             with_reducible rfl
            rotate_left
            ·
             simp only [Act.put, sp]
             rfl
            refine pure_ (i := 9) (N := some 43) (v := ?_) (a' := ?_) #[true,true,true,true,true,false,true,true,true,true,false,false,false,false] rfl rfl (aK HT_.out) (fun _ _ _ h => h) (Or.inl ⟨by rfl, ?_⟩) ?_ ?_
            rotate_left
            ·
             intro w'
             go_simp
             with_reducible rfl
            rotate_left
            ·
             simp only [Act.put, sp]
             rfl
            refine take_ (i := 5) (N := some 39) (v := ?_) (a' := ?_) #[true,true,true,true,true,true,true,true,true,true,false,false,false,false] rfl rfl (take_ofW HT_.out HW_.out (by kernel_rfl)) (fun _ _ _ h => h) (Or.inl ⟨by rfl, ?_⟩) hHeld ?_ ?_
            rotate_left
            ·
             rintro w' ⟨s0, s1, s2, s3, s4, s5, s6, s7, s8, s9, s10, s11⟩
             go_simp
             with_reducible rfl
            rotate_left
            ·
             simp only [Act.put, sp]
             rfl
            refine take_ (i := 10) (N := some 44) (v := ?_) (a' := ?_) #[true,true,true,true,true,true,true,true,true,true,true,false,false,false] rfl rfl (take_ofW HT_.out HW_.out (by kernel_rfl)) (fun _ _ _ h => h) (Or.inl ⟨by rfl, ?_⟩) hHeld ?_ ?_
            rotate_left
            ·
             rintro w' ⟨s0, s1, s2, s3, s4, s5, s6, s7, s8, s9, s10, s11⟩
             go_simp
             with_reducible rfl
            rotate_left
            ·
             simp only [Act.put, sp]
             rfl
            refine one_ (i := 11) (N := some 45) #[true,true,true,true,true,true,true,true,true,true,true,true,false,false] rfl rfl (one_of HT_.out (by kernel_rfl)) (by decide) (fun K hK => ?_)
            refine Kd.R_lit_step (Kd.int .i64) _ 3 ?hg (N := 45) ?hd (xs := ([(J49 l0 (rd x6_1 (ji6))).f5, (J49 l0 (rd x6_1 (ji6))).f4] : List Int)) (inner := [.int .i64 ((J49 l0 (rd x6_1 (ji6))).f5), .int .i64 ((J49 l0 (rd x6_1 (ji6))).f4)]) (ok := fun _ => True) (okp := fun _ => True) ?hr ?hp (fun _ hk => hk) trivial (Below.refl _ _) (Nat.le_refl _) (by simp) ?_; (case hd => rfl); (case hg => rfl); (case hr => first | (go_simp; done) | (go_simp; rfl)); (case hp => exact (Reps.one (show Kd.M (Kd.int .i64) _ _ _ ((J49 l0 (rd x6_1 (ji6))).f5) [.int .i64 ((J49 l0 (rd x6_1 (ji6))).f5)] from rfl) (Reps.one (show Kd.M (Kd.int .i64) _ _ _ ((J49 l0 (rd x6_1 (ji6))).f4) [.int .i64 ((J49 l0 (rd x6_1 (ji6))).f4)] from rfl) (Reps.none _ _))))
            intro v298 w25 ho26 hb hg_ hnew_
            clear hg_ hnew_
            (first | rw [← Ny297.out] at ho26 | (simp only [Int.reduceToNat] at ho26; rw [← Ny297.out] at ho26))
            have n0_ := asd (Kd.R_elder' (skR HO289.out) (Kd.R_base ho26) hb)
            have n1_ := asd (Kd.R_elder' (skR HO292.out) (Kd.R_base ho26) hb)
            have n2_ := asd (Kd.R_lower (Kd.R_new' (Kd.R_new' ho26 (Kd.R_lt (skR HO289.out))) (Kd.R_lt (skR HO292.out))) (below_size (skB HB.out)))
            have n3_ := asd (below_step (skB HB.out) hb)
            clear HO289
            clear HO292
            clear HB
            have HO289 := n0_
            have HO292 := n1_
            have HO299 := n2_
            have HB := n3_
            clear n0_ n1_ n2_ n3_
            clear hb ho26
            obtain ⟨Ao28, co28, eo28⟩ := Kd.R_slice HO299.out
            (first | subst eo28 | (injection eo28 with f1_ f2_ f3_; have f4_ := f1_.symm; have f5_ := f3_.symm; clear f1_ f2_ f3_; subst f4_; subst f5_))
            refine hK.out _ _ ⟨(skc HB.out hw295_0), (skc HB.out hw295_1), (skc HB.out hw295_2), (skc HB.out hw295_3), (skc HB.out hw295_4), (skc HB.out hw295_5), (skc HB.out hw296_0), (skc HB.out hw296_1), (skc HB.out hw296_2), (skc HB.out hw296_3), (skc HB.out hw296_4), (skc HB.out hw296_5)⟩ (fun hHeld => ?_)
            clear hK K
            refine norm_ (a' := ?_) ?_ ?_
            rotate_left
            ·
             show Act.put _ (some 45) _ = _
             simp only [Act.put, sp]
             rfl
            refine one_ (i := 12) (N := some 46) #[true,true,true,true,true,true,true,true,true,true,true,true,true,false] rfl rfl (one_of HT_.out (by kernel_rfl)) (by decide) (fun K hK => ?_)
            refine Kd.R_append_rows_step (Kd.int .i64) (w0 := w) w.heap.size (by rfl) (.tmp 34) (.tmp 45) 23 3 (.int .i64 0) 8 rfl Try.underlying23 info3 rfl (by decide) (by omega) (.slice (some ad286) y287.length co20) y287 y297 _ _ _ (fun k_ => some k_ ≠ (v291 : Value).ownBlock ∧ some k_ ≠ (.slice Ao28 y297.length co28 : Value).ownBlock) (fun _ => False) rfl rfl ?aO ?aR (fun _ _ h => h) (fun _ h => h.elim) ?aF ?aB ?aS ?aL ?_
            (case aR => exact skC (Kd.R_reads' HO299.out).2.2)
            (case aB => exact (skB HB.out))
            (case aF => exact (fun k_ hk => ⟨Kd.fresh' (Kd.R_lt (skR HO292.out)) k_ hk, Kd.fresh' (Kd.R_lt (skR HO299.out)) k_ hk⟩))
            (case aO => exact (skR (Kd.R_mono HO289.out (fun _ hk => ⟨hk.1.2, hk.2⟩))))
            (case aS => exact (below_size (skB HB.out)))
            (case aL => have := LMc19.out; omega)
            intro v301 w27 ho hb hg hat
            rw [← Ny300.out] at ho
            have n0_ := asd (Kd.R_after (ok := (fun k_ => some k_ ≠ (.slice Ao28 y297.length co28 : Value).ownBlock)) (skR (Kd.R_mono HO292.out (fun _ hk => ⟨hk.2, hk.1⟩))) hg hat)
            have n1_ := asd (Kd.R_after (ok := (fun k_ => some k_ ≠ (v291 : Value).ownBlock)) (skR (Kd.R_mono HO299.out (fun _ hk => ⟨hk.2, hk.1.2⟩))) hg hat)
            have n2_ := asd (hb)
            have n3_ := asd (ho)
            clear HO292
            clear HO299
            clear HB
            clear HO289
            have HO292 := n0_
            have HO299 := n1_
            have HB := n2_
            have HO302 := n3_
            clear n0_ n1_ n2_ n3_
            clear ho hb hg hat
            refine hK.out _ _ ⟨(skc HB.out hw295_0), (skc HB.out hw295_1), (skc HB.out hw295_2), (skc HB.out hw295_3), (skc HB.out hw295_4), (skc HB.out hw295_5), (skc HB.out hw296_0), (skc HB.out hw296_1), (skc HB.out hw296_2), (skc HB.out hw296_3), (skc HB.out hw296_4), (skc HB.out hw296_5)⟩ (fun hHeld => ?_)
            clear hK K
            refine norm_ (a' := ?_) ?_ ?_
            rotate_left
            ·
             show Act.put _ (some 46) _ = _
             simp only [Act.put, sp]
             rfl
            refine pure_ (i := 13) (N := some 6) (v := ?_) (a' := ?_) #[true,true,true,true,true,true,true,true,true,true,true,true,true,true] rfl rfl (aK HT_.out) (fun _ _ _ h => h) (Or.inl ⟨by rfl, ?_⟩) ?_ ?_
            rotate_left
            ·
             intro w'
             go_simp
             with_reducible rfl
            rotate_left
            ·
             simp only [Act.put, sp]
             rfl
            refine done_ (done_of HT_.out (by kernel_rfl)) ?_
            try go_wp2
            go_roundg k1
            case measure => have := HK1.out; omega
            case rel => exact ⟨(y290), (y300), H', ⟨by have := HK1.out; omega⟩, ⟨skR (Kd.R_mono HO292.out (fun _ hk => hk.2))⟩, ⟨skR (Kd.R_mono HO302.out (fun _ hk => hk.1))⟩, ⟨skB HB.out⟩⟩
           ·
            rw [if_neg c19] at H
            exact absurd H (by simp)
         ·
          rw [if_neg c12] at H
          exact absurd H (by simp)
        ·
         rw [if_neg c11] at H
         exact absurd H (by simp)
       ·
        rw [if_neg c10] at H
        exact absurd H (by simp)
      ·
       rw [if_neg c9] at H
       exact absurd H (by simp)
     ·
      rw [if_neg c8] at H
      exact absurd H (by simp)
    ·
     rw [if_neg c7] at H
     exact absurd H (by simp)
   ·
    rw [if_neg c5] at H
    have c5b0 : decide (0 < (x6_1.length : Int)) = false := decide_eq_false c5
    have c5b1 : decide (0 < x6_1.length) = false := decide_eq_false (by omega)
    clear c5
    obtain rfl := Option.some.inj H
    obtain ⟨Ao29, co29, eo29⟩ := Kd.R_slice HO_6.out
    subst eo29
    go_wp2
    go_ret
    exact ⟨_, re, skR (Kd.R_mono HO_5.out (fun _ hk => trivial)), skB HB.out⟩
end Go.Proofs.Ytmmjkebboonnkaa.P
/- F32 -/
namespace Go.Proofs.Ytmmjkebboonnkaa.P
open Go.RowKit Go.Proofs.YtmmjkebboonnkaaW.PrintWords Go.Proofs.YtmmjkebboonnkaaW.PrintLast Go.Proofs.YtmmjkebboonnkaaW.PrintMore
attribute [local go_sem] max2_int min2_int max_two min_two max_three min_three max_four min_four   -- for this text's walks alone
set_option linter.unusedVariables false
set_option linter.unusedSimpArgs false
mutual
def larchref17_Check.l0 : Nat → List (S49) → List Int → Int → Option (Int)
 | 0, _, _, _ => none
 | k + 1, x0, x3, x4 => if x4 < (x0.length : Int) then (if 0 ≤ x4 then (if ((J49 x0 x4).f1) = 0 then (if ((J49 x0 x4).f1) = 1 then (if ((J49 x0 x4).f0) = 0 then (if ((J49 x0 x4).f3) = 0 then (if ((J49 x0 x4).f2) < 0 then (larchref17_Check.j1 k x0 x3 x4 true ((J49 x0 x4).f0) ((J49 x0 x4).f1) ((J49 x0 x4).f2) ((J49 x0 x4).f3) ((J49 x0 x4).f4) ((J49 x0 x4).f5)) else (larchref17_Check.j1 k x0 x3 x4 (decide (((J49 x0 x4).f2) > 1000000)) ((J49 x0 x4).f0) ((J49 x0 x4).f1) ((J49 x0 x4).f2) ((J49 x0 x4).f3) ((J49 x0 x4).f4) ((J49 x0 x4).f5))) else (larchref17_Check.j1 k x0 x3 x4 true ((J49 x0 x4).f0) ((J49 x0 x4).f1) ((J49 x0 x4).f2) ((J49 x0 x4).f3) ((J49 x0 x4).f4) ((J49 x0 x4).f5))) else (larchref17_Check.j1 k x0 x3 x4 true ((J49 x0 x4).f0) ((J49 x0 x4).f1) ((J49 x0 x4).f2) ((J49 x0 x4).f3) ((J49 x0 x4).f4) ((J49 x0 x4).f5))) else (if ((J49 x0 x4).f2) < 0 then (larchref17_Check.j1 k x0 x3 x4 true ((J49 x0 x4).f0) ((J49 x0 x4).f1) ((J49 x0 x4).f2) ((J49 x0 x4).f3) ((J49 x0 x4).f4) ((J49 x0 x4).f5)) else (larchref17_Check.j1 k x0 x3 x4 (decide (((J49 x0 x4).f2) > 1000000)) ((J49 x0 x4).f0) ((J49 x0 x4).f1) ((J49 x0 x4).f2) ((J49 x0 x4).f3) ((J49 x0 x4).f4) ((J49 x0 x4).f5)))) else (if ((J49 x0 x4).f1) = 1 then (if ((J49 x0 x4).f0) = 0 then (if ((J49 x0 x4).f3) = 0 then (if ((J49 x0 x4).f2) < 0 then (larchref17_Check.j1 k x0 x3 x4 true ((J49 x0 x4).f0) ((J49 x0 x4).f1) ((J49 x0 x4).f2) ((J49 x0 x4).f3) ((J49 x0 x4).f4) ((J49 x0 x4).f5)) else (larchref17_Check.j1 k x0 x3 x4 (decide (((J49 x0 x4).f2) > 1000000)) ((J49 x0 x4).f0) ((J49 x0 x4).f1) ((J49 x0 x4).f2) ((J49 x0 x4).f3) ((J49 x0 x4).f4) ((J49 x0 x4).f5))) else (larchref17_Check.j1 k x0 x3 x4 true ((J49 x0 x4).f0) ((J49 x0 x4).f1) ((J49 x0 x4).f2) ((J49 x0 x4).f3) ((J49 x0 x4).f4) ((J49 x0 x4).f5))) else (larchref17_Check.j1 k x0 x3 x4 true ((J49 x0 x4).f0) ((J49 x0 x4).f1) ((J49 x0 x4).f2) ((J49 x0 x4).f3) ((J49 x0 x4).f4) ((J49 x0 x4).f5))) else (larchref17_Check.j1 k x0 x3 x4 true ((J49 x0 x4).f0) ((J49 x0 x4).f1) ((J49 x0 x4).f2) ((J49 x0 x4).f3) ((J49 x0 x4).f4) ((J49 x0 x4).f5)))) else (none)) else (larchref17_Check.l1 k x0 x3 1)
def larchref17_Check.j1 : Nat → List (S49) → List Int → Int → Bool → Int → Int → Int → Int → Int → Int → Option (Int)
 | 0, _, _, _, _, _, _, _, _, _, _ => none
 | k + 1, x0, x3, x4, x58, x327000, x327001, x327002, x327003, x327004, x327005 => if x58 = true then (some 3) else ((larchref17_leaf.f x327000 x327001 x327002 x327003 x327004 x327005).bind fun t327 => (if t327 = true then (larchref17_Check.l0 k x0 x3 (wrap64 (x4 + 1))) else (if x327003 = 0 then (if x327004 < 1 then (some 3) else (if x327004 ≥ (x0.length : Int) then (some 3) else (if x327005 < 1 then (some 3) else (if x327005 ≥ (x0.length : Int) then (some 3) else (if x327004 = x327005 then (some 3) else (if 0 ≤ x327004 then (if x327004 < (x3.length : Int) then ((some (x3.set (x327004 : Int).toNat (wrap64 ((rd x3 x327004) + 1)) : List Int)).bind fun y329 => (if 0 ≤ x327005 then (if x327005 < (x3.length : Int) then (larchref17_Check.l0 k x0 (y329.set (x327005 : Int).toNat (wrap64 ((rd y329 x327005) + 1))) (wrap64 (x4 + 1))) else (none)) else (none))) else (none)) else (none))))))) else (some 3))))
def larchref17_Check.l1 : Nat → List (S49) → List Int → Int → Option (Int)
 | 0, _, _, _ => none
 | k + 1, x0, x3, x6 => if x6 < (x0.length : Int) then (if 0 ≤ x6 then (if x6 < (x3.length : Int) then (if (rd x3 x6) = 1 then (larchref17_Check.l1 k x0 x3 (wrap64 (x6 + 1))) else (some 3)) else (none)) else (none)) else (if 0 < (x3.length : Int) then (if (rd x3 0) = 0 then ((larchref17_Order.f k x0 0).bind fun t334 => (if (t334.length : Int) = (x0.length : Int) then (some 0) else (some 3))) else (some 3)) else (none))
end
def larchref17_Check.f (k : Nat) (l0 : List (S49)) : Option (Int) := if (l0.length : Int) > 100000 then (some 2) else (if (l0.length : Int) = 0 then (some 3) else (if 0 ≤ (l0.length : Int) then (if ((l0.length : Int) : Int).toNat ≤ 35184372088832 then (larchref17_Check.l0 k l0 (List.replicate ((l0.length : Int) : Int).toNat 0) 0) else (none)) else (none)))
set_option maxHeartbeats 8000000 in
set_option maxRecDepth 100000 in
theorem larchref17_Check.calls (k : Nat) (A0 : Option Addr) (c0 : Nat) (l0 : List (S49)) (r : Int) (w : World) (hr0 : Kd.C k49 w A0 l0.length l0) (hc0 : l0.length ≤ c0) (h : larchref17_Check.f k l0 = some r) :
  Calls Try.prog 59 #[.slice A0 l0.length c0] w fun e w' => e = .returned (.int .i64 r) ∧ Below w.heap.size w w' := by
 have hu49 := Try.underlying49
 have HR0 := asd hr0
 have HC0 := asd hc0
 clear hr0 hc0
 have HB := asd (Below.refl w.heap.size w)
 have H : (if (l0.length : Int) > 100000 then (some 2) else (if (l0.length : Int) = 0 then (some 3) else (if 0 ≤ (l0.length : Int) then (if ((l0.length : Int) : Int).toNat ≤ 35184372088832 then (larchref17_Check.l0 k l0 (List.replicate ((l0.length : Int) : Int).toNat 0) 0) else (none)) else (none)))) = some r := h
 clear h
 by_cases c2 : (l0.length : Int) > 100000
 ·
  rw [if_pos c2] at H
  have c2b0 : decide (100000 < (l0.length : Int)) = true := decide_eq_true c2
  have c2b1 : decide (100000 < l0.length) = true := decide_eq_true (by omega)
  clear c2
  obtain rfl := Option.some.inj H
  go_enter Try.func59, Try.ntmps59
  go_wp2
  go_ret
  exact ⟨re, skB HB.out⟩
 ·
  rw [if_neg c2] at H
  have c2b0 : decide (100000 < (l0.length : Int)) = false := decide_eq_false c2
  have c2b1 : decide (100000 < l0.length) = false := decide_eq_false (by omega)
  clear c2
  by_cases c3 : (l0.length : Int) = 0
  ·
   rw [if_pos c3] at H
   have c3b0 : ((l0.length : Int) == 0) = true := beq_iff_eq.mpr c3
   have c3b1 : ((l0.length : Int) != 0) = false := bne_eq_false_iff_eq.mpr c3
   clear c3
   obtain rfl := Option.some.inj H
   go_enter Try.func59, Try.ntmps59
   go_wp2
   go_ret
   exact ⟨re, skB HB.out⟩
  ·
   rw [if_neg c3] at H
   have c3b0 : ((l0.length : Int) == 0) = false := beq_eq_false_iff_ne.mpr c3
   have c3b1 : ((l0.length : Int) != 0) = true := bne_iff_ne.mpr c3
   have c3b2 : ¬ (l0 = []) := fun h_ => c3 (by rw [h_]; rfl)
   by_cases c4 : 0 ≤ (l0.length : Int)
   ·
    rw [if_pos c4] at H
    have c4b0 := eq_true c4
    have c4b1 : decide (0 ≤ (l0.length : Int)) = true := decide_eq_true c4
    clear c4
    by_cases c5 : ((l0.length : Int) : Int).toNat ≤ 35184372088832
    ·
     rw [if_pos c5] at H
     have c5b0 := eq_true c5
     have c5b1 : decide (((l0.length : Int) : Int).toNat ≤ 35184372088832) = true := decide_eq_true c5
     clear c5
     obtain ⟨y322, hy322⟩ : ∃ y_ : List Int, y_ = (List.replicate ((l0.length : Int) : Int).toNat 0) := ⟨_, rfl⟩
     replace H : (larchref17_Check.l0 k l0 y322 0) = some r := by first | (rw [hy322]; with_reducible exact H) | (have H2_ := (Option.bind_some _ _).symm.trans H; rw [hy322]; with_reducible exact H2_) | (have H2_ := (Option.bind_some _ _).symm.trans H; with_reducible exact H2_) | with_reducible exact H | (rw [hy322]; exact H) | exact H
     have Ny322 := asd hy322
     clear hy322
     have H' := asd H
     clear H
     go_enter Try.func59, Try.ntmps59
     go_wp2_with (first | ((with_reducible refine gate_dst (N := 15) rfl ?_); (try (refine gate_guard (by rfl) ?_; dsimp only)); refine Kd.R_make (Kd.int .i64) _ 3 rfl (N := 15) rfl 23 _ _ rfl (l0.length : Int) rfl rfl Try.underlying23 (.int .i64 0) 8 info3 rfl (by decide) (by omega) 0 (ok := fun _ => True) (okp := fun _ => True) rfl (fun _ hk => hk) trivial dt (Nat.le_trans (Nat.mul_le_mul_right _ (dt : (l0.length : Int).toNat ≤ 35184372088832)) (by omega)) (Below.refl _ _) (Nat.le_refl _) ?_; intro v323 w6 ho7 hb hg_ hnew_; clear hg_ hnew_; (first | rw [← Ny322.out] at ho7 | (simp only [Int.reduceToNat] at ho7; rw [← Ny322.out] at ho7)); have n0_ := asd (Kd.R_lower ho7 (below_size (skB HB.out))); have n1_ := asd (below_step (skB HB.out) hb); clear HB; have HO324 := n0_; have HB := n1_; clear n0_ n1_; clear hb ho7))
     go_loopg [4] k (fun kq v4 w' => ∃ (x3_1 : List Int) (x4_1 : Int), v4 = .int .i64 x4_1 ∧ Aside0 (larchref17_Check.l0 kq l0 x3_1 x4_1 = some r) ∧ Aside0 (kq ≤ k) ∧ Aside0 (Kd.R (Kd.int .i64) 3 w' w.heap.size (fun _ => True) v323 x3_1) ∧ Aside0 (Below w.heap.size w w'))
     case atStart => exact ⟨(y322), (0), rs, H', ⟨Nat.le_refl _⟩, ⟨skR HO324.out⟩, ⟨skB HB.out⟩⟩
     case round =>
      clear H'
      try clear c2
      try clear c2b0
      try clear c2b1
      try clear p2
      try clear c3
      try clear c3b0
      try clear c3b1
      try clear c3b2
      try clear c4
      try clear c4b0
      try clear c4b1
      try clear c5
      try clear c5b0
      try clear c5b1
      obtain ⟨x3_1, x4_1, rfl, HA, HK1, HO_3, HB⟩ := hrel
      cases gk with
      | zero => exact absurd HA.out (by simp [larchref17_Check.l0])
      | succ k1 =>
       have H := HA.out
       clear HA
       simp only [larchref17_Check.l0] at H
       by_cases c8 : x4_1 < (l0.length : Int)
       ·
        rw [if_pos c8] at H
        have c8b0 : decide (x4_1 < (l0.length : Int)) = true := decide_eq_true c8
        clear c8
        by_cases c9 : 0 ≤ x4_1
        ·
         rw [if_pos c9] at H
         have c9b0 : decide (0 ≤ x4_1) = true := decide_eq_true c9
         clear c9
         have HC10 := asd H
         clear H
         have p325 : 0 ≤ (x4_1 : Int) := dt
         have q325 : x4_1 < (l0.length : Int) := dt
         obtain ⟨ad325, e325, hx325_0, hx325_1, hx325_2, hx325_3, hx325_4, hx325_5⟩ := at_T49 HR0.out x4_1 p325 q325
         cases e325
         replace hx325_0 := skc HB.out hx325_0
         replace hx325_1 := skc HB.out hx325_1
         replace hx325_2 := skc HB.out hx325_2
         replace hx325_3 := skc HB.out hx325_3
         replace hx325_4 := skc HB.out hx325_4
         replace hx325_5 := skc HB.out hx325_5
         replace p325 := eq_true p325
         replace q325 := eq_true q325
         go_upto_region 10 with (first | ((with_reducible refine gate_dst (N := 5) rfl ?_); (try (refine gate_guard (by rfl) ?_; dsimp only)); refine box_event ?hg (N := 5) ?hd (cs := #[.int .i64 0, .int .i64 0, .int .i64 0, .int .i64 0, .int .i64 0, .int .i64 0]) (t := 49) ?hr ?_; (case hd => rfl); (case hg => rfl); (case hr => first | (go_simp; done) | (go_simp; rfl)); intro gb326 hg w11 hbox hb; have n0_ := asd (Kd.R_below (skR HO_3.out) hb); have n1_ := asd (below_step (skB HB.out) hb); have n2_ := asd (hbox); have n3_ := asd ((by rw [hg]; exact (below_size (skB HB.out)) : w.heap.size ≤ gb326)); have n4_ := asd ((by rw [hg]; exact (below_size (skB HB.out)) : w.heap.size ≤ gb326)); clear HO_3; clear HB; have HO_3 := n0_; have HB := n1_; have BK326 := n2_; have GW326 := n3_; have GE326 := n4_; clear n0_ n1_ n2_ n3_ n4_; clear hb hbox hg; obtain ⟨hcz12_0, hcz12_1, hcz12_2, hcz12_3, hcz12_4, hcz12_5, hfz12_0, hfz12_1, hfz12_2, hfz12_3, hfz12_4, hfz12_5⟩ := bk6 BK326.out))
         (try simp only [Act.put, List.setIfInBounds_toArray, List.set_cons_zero, List.set_cons_succ])
         go_cut [58] (fun v58 wc => ∃ (kq : Nat) (x58_9 : Bool), v58 = .bool x58_9 ∧ Aside0 (larchref17_Check.j1 kq l0 x3_1 x4_1 x58_9 ((J49 l0 x4_1).f0) ((J49 l0 x4_1).f1) ((J49 l0 x4_1).f2) ((J49 l0 x4_1).f3) ((J49 l0 x4_1).f4) ((J49 l0 x4_1).f5) = some r) ∧ Aside0 (kq ≤ k1) ∧ Aside0 (Kd.R (Kd.int .i64) 3 wc w.heap.size (fun _ => True) v323 x3_1) ∧ Aside0 (wc.heap[gb326]? = some (.cells #[.int .i64 ((J49 l0 x4_1).f0), .int .i64 ((J49 l0 x4_1).f1), .int .i64 ((J49 l0 x4_1).f2), .int .i64 ((J49 l0 x4_1).f3), .int .i64 ((J49 l0 x4_1).f4), .int .i64 ((J49 l0 x4_1).f5)] 49 (0, 0))) ∧ Aside0 (Below w.heap.size w wc))
         case first =>
          have H := HC10.out
          clear HC10
          by_cases c13 : ((J49 l0 x4_1).f1) = 0
          ·
           rw [if_pos c13] at H
           have c13b0 : (((J49 l0 x4_1).f1) == 0) = true := beq_iff_eq.mpr c13
           have c13b1 : (((J49 l0 x4_1).f1) != 0) = false := bne_eq_false_iff_eq.mpr c13
           clear c13
           (first | rw [c13b0] | (simp only [i64_w, i32_w]; rw [c13b0]) | skip)
           by_cases c14 : ((J49 l0 x4_1).f1) = 1
           ·
            rw [if_pos c14] at H
            have c14b0 : (((J49 l0 x4_1).f1) == 1) = true := beq_iff_eq.mpr c14
            have c14b1 : (((J49 l0 x4_1).f1) != 1) = false := bne_eq_false_iff_eq.mpr c14
            clear c14
            by_cases c15 : ((J49 l0 x4_1).f0) = 0
            ·
             rw [if_pos c15] at H
             have c15b0 : (((J49 l0 x4_1).f0) == 0) = true := beq_iff_eq.mpr c15
             have c15b1 : (((J49 l0 x4_1).f0) != 0) = false := bne_eq_false_iff_eq.mpr c15
             clear c15
             by_cases c16 : ((J49 l0 x4_1).f3) = 0
             ·
              rw [if_pos c16] at H
              have c16b0 : (((J49 l0 x4_1).f3) == 0) = true := beq_iff_eq.mpr c16
              have c16b1 : (((J49 l0 x4_1).f3) != 0) = false := bne_eq_false_iff_eq.mpr c16
              clear c16
              by_cases c17 : ((J49 l0 x4_1).f2) < 0
              ·
               rw [if_pos c17] at H
               have c17b0 : decide (((J49 l0 x4_1).f2) < 0) = true := decide_eq_true c17
               clear c17
               have H' := asd H
               clear H
               obtain ⟨hcz18_0, hcz18_1, hcz18_2, hcz18_3, hcz18_4, hcz18_5, hfz18_0, hfz18_1, hfz18_2, hfz18_3, hfz18_4, hfz18_5⟩ := bk6 BK326.out
               go_wp2
               go_meet
               case rel => exact ⟨_, (true), rs, H', ⟨by have := HK1.out; first | omega | exact Nat.le_refl _⟩, ⟨skR (Kd.R_mono (Kd.R_far (p := ⟨gb326, 5, none⟩) (Kd.R_far (p := ⟨gb326, 4, none⟩) (Kd.R_far (p := ⟨gb326, 3, none⟩) (Kd.R_far (p := ⟨gb326, 2, none⟩) (Kd.R_far (p := ⟨gb326, 1, none⟩) (Kd.R_far (p := ⟨gb326, 0, none⟩) (Kd.R_types HO_3.out BK326.out (by decide)) (fun _ hk => hk.2) (.int .i64 ((J49 l0 x4_1).f0))) (fun _ hk => hk.2) (.int .i64 ((J49 l0 x4_1).f1))) (fun _ hk => hk.2) (.int .i64 ((J49 l0 x4_1).f2))) (fun _ hk => hk.2) (.int .i64 ((J49 l0 x4_1).f3))) (fun _ hk => hk.2) (.int .i64 ((J49 l0 x4_1).f4))) (fun _ hk => hk.2) (.int .i64 ((J49 l0 x4_1).f5))) (fun _ hk => trivial))⟩, ⟨by refine skk ?_; refine blk_put (cs := #[.int .i64 ((J49 l0 x4_1).f0), .int .i64 ((J49 l0 x4_1).f1), .int .i64 ((J49 l0 x4_1).f2), .int .i64 ((J49 l0 x4_1).f3), .int .i64 ((J49 l0 x4_1).f4), .int .i64 0]) ?_ 5 _ rfl; refine skk ?_; refine blk_put (cs := #[.int .i64 ((J49 l0 x4_1).f0), .int .i64 ((J49 l0 x4_1).f1), .int .i64 ((J49 l0 x4_1).f2), .int .i64 ((J49 l0 x4_1).f3), .int .i64 0, .int .i64 0]) ?_ 4 _ rfl; refine skk ?_; refine blk_put (cs := #[.int .i64 ((J49 l0 x4_1).f0), .int .i64 ((J49 l0 x4_1).f1), .int .i64 ((J49 l0 x4_1).f2), .int .i64 0, .int .i64 0, .int .i64 0]) ?_ 3 _ rfl; refine skk ?_; refine blk_put (cs := #[.int .i64 ((J49 l0 x4_1).f0), .int .i64 ((J49 l0 x4_1).f1), .int .i64 0, .int .i64 0, .int .i64 0, .int .i64 0]) ?_ 2 _ rfl; refine skk ?_; refine blk_put (cs := #[.int .i64 ((J49 l0 x4_1).f0), .int .i64 0, .int .i64 0, .int .i64 0, .int .i64 0, .int .i64 0]) ?_ 1 _ rfl; refine skk ?_; refine blk_put (cs := #[.int .i64 0, .int .i64 0, .int .i64 0, .int .i64 0, .int .i64 0, .int .i64 0]) ?_ 0 _ rfl; refine skk ?_; exact BK326.out⟩, ⟨skG HB.out GE326.out GE326.out⟩⟩
              ·
               rw [if_neg c17] at H
               have c17b0 : decide (((J49 l0 x4_1).f2) < 0) = false := decide_eq_false c17
               clear c17
               have H' := asd H
               clear H
               obtain ⟨hcz19_0, hcz19_1, hcz19_2, hcz19_3, hcz19_4, hcz19_5, hfz19_0, hfz19_1, hfz19_2, hfz19_3, hfz19_4, hfz19_5⟩ := bk6 BK326.out
               go_wp2
               go_meet
               case rel => exact ⟨_, (decide (((J49 l0 x4_1).f2) > 1000000)), rs, H', ⟨by have := HK1.out; first | omega | exact Nat.le_refl _⟩, ⟨skR (Kd.R_mono (Kd.R_far (p := ⟨gb326, 5, none⟩) (Kd.R_far (p := ⟨gb326, 4, none⟩) (Kd.R_far (p := ⟨gb326, 3, none⟩) (Kd.R_far (p := ⟨gb326, 2, none⟩) (Kd.R_far (p := ⟨gb326, 1, none⟩) (Kd.R_far (p := ⟨gb326, 0, none⟩) (Kd.R_types HO_3.out BK326.out (by decide)) (fun _ hk => hk.2) (.int .i64 ((J49 l0 x4_1).f0))) (fun _ hk => hk.2) (.int .i64 ((J49 l0 x4_1).f1))) (fun _ hk => hk.2) (.int .i64 ((J49 l0 x4_1).f2))) (fun _ hk => hk.2) (.int .i64 ((J49 l0 x4_1).f3))) (fun _ hk => hk.2) (.int .i64 ((J49 l0 x4_1).f4))) (fun _ hk => hk.2) (.int .i64 ((J49 l0 x4_1).f5))) (fun _ hk => trivial))⟩, ⟨by refine skk ?_; refine blk_put (cs := #[.int .i64 ((J49 l0 x4_1).f0), .int .i64 ((J49 l0 x4_1).f1), .int .i64 ((J49 l0 x4_1).f2), .int .i64 ((J49 l0 x4_1).f3), .int .i64 ((J49 l0 x4_1).f4), .int .i64 0]) ?_ 5 _ rfl; refine skk ?_; refine blk_put (cs := #[.int .i64 ((J49 l0 x4_1).f0), .int .i64 ((J49 l0 x4_1).f1), .int .i64 ((J49 l0 x4_1).f2), .int .i64 ((J49 l0 x4_1).f3), .int .i64 0, .int .i64 0]) ?_ 4 _ rfl; refine skk ?_; refine blk_put (cs := #[.int .i64 ((J49 l0 x4_1).f0), .int .i64 ((J49 l0 x4_1).f1), .int .i64 ((J49 l0 x4_1).f2), .int .i64 0, .int .i64 0, .int .i64 0]) ?_ 3 _ rfl; refine skk ?_; refine blk_put (cs := #[.int .i64 ((J49 l0 x4_1).f0), .int .i64 ((J49 l0 x4_1).f1), .int .i64 0, .int .i64 0, .int .i64 0, .int .i64 0]) ?_ 2 _ rfl; refine skk ?_; refine blk_put (cs := #[.int .i64 ((J49 l0 x4_1).f0), .int .i64 0, .int .i64 0, .int .i64 0, .int .i64 0, .int .i64 0]) ?_ 1 _ rfl; refine skk ?_; refine blk_put (cs := #[.int .i64 0, .int .i64 0, .int .i64 0, .int .i64 0, .int .i64 0, .int .i64 0]) ?_ 0 _ rfl; refine skk ?_; exact BK326.out⟩, ⟨skG HB.out GE326.out GE326.out⟩⟩
             ·
              rw [if_neg c16] at H
              have c16b0 : (((J49 l0 x4_1).f3) == 0) = false := beq_eq_false_iff_ne.mpr c16
              have c16b1 : (((J49 l0 x4_1).f3) != 0) = true := bne_iff_ne.mpr c16
              have H' := asd H
              clear H
              obtain ⟨hcz20_0, hcz20_1, hcz20_2, hcz20_3, hcz20_4, hcz20_5, hfz20_0, hfz20_1, hfz20_2, hfz20_3, hfz20_4, hfz20_5⟩ := bk6 BK326.out
              go_wp2
              go_meet
              case rel => exact ⟨_, (true), rs, H', ⟨by have := HK1.out; first | omega | exact Nat.le_refl _⟩, ⟨skR (Kd.R_mono (Kd.R_far (p := ⟨gb326, 5, none⟩) (Kd.R_far (p := ⟨gb326, 4, none⟩) (Kd.R_far (p := ⟨gb326, 3, none⟩) (Kd.R_far (p := ⟨gb326, 2, none⟩) (Kd.R_far (p := ⟨gb326, 1, none⟩) (Kd.R_far (p := ⟨gb326, 0, none⟩) (Kd.R_types HO_3.out BK326.out (by decide)) (fun _ hk => hk.2) (.int .i64 ((J49 l0 x4_1).f0))) (fun _ hk => hk.2) (.int .i64 ((J49 l0 x4_1).f1))) (fun _ hk => hk.2) (.int .i64 ((J49 l0 x4_1).f2))) (fun _ hk => hk.2) (.int .i64 ((J49 l0 x4_1).f3))) (fun _ hk => hk.2) (.int .i64 ((J49 l0 x4_1).f4))) (fun _ hk => hk.2) (.int .i64 ((J49 l0 x4_1).f5))) (fun _ hk => trivial))⟩, ⟨by refine skk ?_; refine blk_put (cs := #[.int .i64 ((J49 l0 x4_1).f0), .int .i64 ((J49 l0 x4_1).f1), .int .i64 ((J49 l0 x4_1).f2), .int .i64 ((J49 l0 x4_1).f3), .int .i64 ((J49 l0 x4_1).f4), .int .i64 0]) ?_ 5 _ rfl; refine skk ?_; refine blk_put (cs := #[.int .i64 ((J49 l0 x4_1).f0), .int .i64 ((J49 l0 x4_1).f1), .int .i64 ((J49 l0 x4_1).f2), .int .i64 ((J49 l0 x4_1).f3), .int .i64 0, .int .i64 0]) ?_ 4 _ rfl; refine skk ?_; refine blk_put (cs := #[.int .i64 ((J49 l0 x4_1).f0), .int .i64 ((J49 l0 x4_1).f1), .int .i64 ((J49 l0 x4_1).f2), .int .i64 0, .int .i64 0, .int .i64 0]) ?_ 3 _ rfl; refine skk ?_; refine blk_put (cs := #[.int .i64 ((J49 l0 x4_1).f0), .int .i64 ((J49 l0 x4_1).f1), .int .i64 0, .int .i64 0, .int .i64 0, .int .i64 0]) ?_ 2 _ rfl; refine skk ?_; refine blk_put (cs := #[.int .i64 ((J49 l0 x4_1).f0), .int .i64 0, .int .i64 0, .int .i64 0, .int .i64 0, .int .i64 0]) ?_ 1 _ rfl; refine skk ?_; refine blk_put (cs := #[.int .i64 0, .int .i64 0, .int .i64 0, .int .i64 0, .int .i64 0, .int .i64 0]) ?_ 0 _ rfl; refine skk ?_; exact BK326.out⟩, ⟨skG HB.out GE326.out GE326.out⟩⟩
            ·
             rw [if_neg c15] at H
             have c15b0 : (((J49 l0 x4_1).f0) == 0) = false := beq_eq_false_iff_ne.mpr c15
             have c15b1 : (((J49 l0 x4_1).f0) != 0) = true := bne_iff_ne.mpr c15
             have H' := asd H
             clear H
             obtain ⟨hcz21_0, hcz21_1, hcz21_2, hcz21_3, hcz21_4, hcz21_5, hfz21_0, hfz21_1, hfz21_2, hfz21_3, hfz21_4, hfz21_5⟩ := bk6 BK326.out
             go_wp2
             go_meet
             case rel => exact ⟨_, (true), rs, H', ⟨by have := HK1.out; first | omega | exact Nat.le_refl _⟩, ⟨skR (Kd.R_mono (Kd.R_far (p := ⟨gb326, 5, none⟩) (Kd.R_far (p := ⟨gb326, 4, none⟩) (Kd.R_far (p := ⟨gb326, 3, none⟩) (Kd.R_far (p := ⟨gb326, 2, none⟩) (Kd.R_far (p := ⟨gb326, 1, none⟩) (Kd.R_far (p := ⟨gb326, 0, none⟩) (Kd.R_types HO_3.out BK326.out (by decide)) (fun _ hk => hk.2) (.int .i64 ((J49 l0 x4_1).f0))) (fun _ hk => hk.2) (.int .i64 ((J49 l0 x4_1).f1))) (fun _ hk => hk.2) (.int .i64 ((J49 l0 x4_1).f2))) (fun _ hk => hk.2) (.int .i64 ((J49 l0 x4_1).f3))) (fun _ hk => hk.2) (.int .i64 ((J49 l0 x4_1).f4))) (fun _ hk => hk.2) (.int .i64 ((J49 l0 x4_1).f5))) (fun _ hk => trivial))⟩, ⟨by refine skk ?_; refine blk_put (cs := #[.int .i64 ((J49 l0 x4_1).f0), .int .i64 ((J49 l0 x4_1).f1), .int .i64 ((J49 l0 x4_1).f2), .int .i64 ((J49 l0 x4_1).f3), .int .i64 ((J49 l0 x4_1).f4), .int .i64 0]) ?_ 5 _ rfl; refine skk ?_; refine blk_put (cs := #[.int .i64 ((J49 l0 x4_1).f0), .int .i64 ((J49 l0 x4_1).f1), .int .i64 ((J49 l0 x4_1).f2), .int .i64 ((J49 l0 x4_1).f3), .int .i64 0, .int .i64 0]) ?_ 4 _ rfl; refine skk ?_; refine blk_put (cs := #[.int .i64 ((J49 l0 x4_1).f0), .int .i64 ((J49 l0 x4_1).f1), .int .i64 ((J49 l0 x4_1).f2), .int .i64 0, .int .i64 0, .int .i64 0]) ?_ 3 _ rfl; refine skk ?_; refine blk_put (cs := #[.int .i64 ((J49 l0 x4_1).f0), .int .i64 ((J49 l0 x4_1).f1), .int .i64 0, .int .i64 0, .int .i64 0, .int .i64 0]) ?_ 2 _ rfl; refine skk ?_; refine blk_put (cs := #[.int .i64 ((J49 l0 x4_1).f0), .int .i64 0, .int .i64 0, .int .i64 0, .int .i64 0, .int .i64 0]) ?_ 1 _ rfl; refine skk ?_; refine blk_put (cs := #[.int .i64 0, .int .i64 0, .int .i64 0, .int .i64 0, .int .i64 0, .int .i64 0]) ?_ 0 _ rfl; refine skk ?_; exact BK326.out⟩, ⟨skG HB.out GE326.out GE326.out⟩⟩
           ·
            rw [if_neg c14] at H
            have c14b0 : (((J49 l0 x4_1).f1) == 1) = false := beq_eq_false_iff_ne.mpr c14
            have c14b1 : (((J49 l0 x4_1).f1) != 1) = true := bne_iff_ne.mpr c14
            by_cases c22 : ((J49 l0 x4_1).f2) < 0
            ·
             rw [if_pos c22] at H
             have c22b0 : decide (((J49 l0 x4_1).f2) < 0) = true := decide_eq_true c22
             clear c22
             have H' := asd H
             clear H
             obtain ⟨hcz23_0, hcz23_1, hcz23_2, hcz23_3, hcz23_4, hcz23_5, hfz23_0, hfz23_1, hfz23_2, hfz23_3, hfz23_4, hfz23_5⟩ := bk6 BK326.out
             go_wp2
             go_meet
             case rel => exact ⟨_, (true), rs, H', ⟨by have := HK1.out; first | omega | exact Nat.le_refl _⟩, ⟨skR (Kd.R_mono (Kd.R_far (p := ⟨gb326, 5, none⟩) (Kd.R_far (p := ⟨gb326, 4, none⟩) (Kd.R_far (p := ⟨gb326, 3, none⟩) (Kd.R_far (p := ⟨gb326, 2, none⟩) (Kd.R_far (p := ⟨gb326, 1, none⟩) (Kd.R_far (p := ⟨gb326, 0, none⟩) (Kd.R_types HO_3.out BK326.out (by decide)) (fun _ hk => hk.2) (.int .i64 ((J49 l0 x4_1).f0))) (fun _ hk => hk.2) (.int .i64 ((J49 l0 x4_1).f1))) (fun _ hk => hk.2) (.int .i64 ((J49 l0 x4_1).f2))) (fun _ hk => hk.2) (.int .i64 ((J49 l0 x4_1).f3))) (fun _ hk => hk.2) (.int .i64 ((J49 l0 x4_1).f4))) (fun _ hk => hk.2) (.int .i64 ((J49 l0 x4_1).f5))) (fun _ hk => trivial))⟩, ⟨by refine skk ?_; refine blk_put (cs := #[.int .i64 ((J49 l0 x4_1).f0), .int .i64 ((J49 l0 x4_1).f1), .int .i64 ((J49 l0 x4_1).f2), .int .i64 ((J49 l0 x4_1).f3), .int .i64 ((J49 l0 x4_1).f4), .int .i64 0]) ?_ 5 _ rfl; refine skk ?_; refine blk_put (cs := #[.int .i64 ((J49 l0 x4_1).f0), .int .i64 ((J49 l0 x4_1).f1), .int .i64 ((J49 l0 x4_1).f2), .int .i64 ((J49 l0 x4_1).f3), .int .i64 0, .int .i64 0]) ?_ 4 _ rfl; refine skk ?_; refine blk_put (cs := #[.int .i64 ((J49 l0 x4_1).f0), .int .i64 ((J49 l0 x4_1).f1), .int .i64 ((J49 l0 x4_1).f2), .int .i64 0, .int .i64 0, .int .i64 0]) ?_ 3 _ rfl; refine skk ?_; refine blk_put (cs := #[.int .i64 ((J49 l0 x4_1).f0), .int .i64 ((J49 l0 x4_1).f1), .int .i64 0, .int .i64 0, .int .i64 0, .int .i64 0]) ?_ 2 _ rfl; refine skk ?_; refine blk_put (cs := #[.int .i64 ((J49 l0 x4_1).f0), .int .i64 0, .int .i64 0, .int .i64 0, .int .i64 0, .int .i64 0]) ?_ 1 _ rfl; refine skk ?_; refine blk_put (cs := #[.int .i64 0, .int .i64 0, .int .i64 0, .int .i64 0, .int .i64 0, .int .i64 0]) ?_ 0 _ rfl; refine skk ?_; exact BK326.out⟩, ⟨skG HB.out GE326.out GE326.out⟩⟩
            ·
             rw [if_neg c22] at H
             have c22b0 : decide (((J49 l0 x4_1).f2) < 0) = false := decide_eq_false c22
             clear c22
             have H' := asd H
             clear H
             obtain ⟨hcz24_0, hcz24_1, hcz24_2, hcz24_3, hcz24_4, hcz24_5, hfz24_0, hfz24_1, hfz24_2, hfz24_3, hfz24_4, hfz24_5⟩ := bk6 BK326.out
             go_wp2
             go_meet
             case rel => exact ⟨_, (decide (((J49 l0 x4_1).f2) > 1000000)), rs, H', ⟨by have := HK1.out; first | omega | exact Nat.le_refl _⟩, ⟨skR (Kd.R_mono (Kd.R_far (p := ⟨gb326, 5, none⟩) (Kd.R_far (p := ⟨gb326, 4, none⟩) (Kd.R_far (p := ⟨gb326, 3, none⟩) (Kd.R_far (p := ⟨gb326, 2, none⟩) (Kd.R_far (p := ⟨gb326, 1, none⟩) (Kd.R_far (p := ⟨gb326, 0, none⟩) (Kd.R_types HO_3.out BK326.out (by decide)) (fun _ hk => hk.2) (.int .i64 ((J49 l0 x4_1).f0))) (fun _ hk => hk.2) (.int .i64 ((J49 l0 x4_1).f1))) (fun _ hk => hk.2) (.int .i64 ((J49 l0 x4_1).f2))) (fun _ hk => hk.2) (.int .i64 ((J49 l0 x4_1).f3))) (fun _ hk => hk.2) (.int .i64 ((J49 l0 x4_1).f4))) (fun _ hk => hk.2) (.int .i64 ((J49 l0 x4_1).f5))) (fun _ hk => trivial))⟩, ⟨by refine skk ?_; refine blk_put (cs := #[.int .i64 ((J49 l0 x4_1).f0), .int .i64 ((J49 l0 x4_1).f1), .int .i64 ((J49 l0 x4_1).f2), .int .i64 ((J49 l0 x4_1).f3), .int .i64 ((J49 l0 x4_1).f4), .int .i64 0]) ?_ 5 _ rfl; refine skk ?_; refine blk_put (cs := #[.int .i64 ((J49 l0 x4_1).f0), .int .i64 ((J49 l0 x4_1).f1), .int .i64 ((J49 l0 x4_1).f2), .int .i64 ((J49 l0 x4_1).f3), .int .i64 0, .int .i64 0]) ?_ 4 _ rfl; refine skk ?_; refine blk_put (cs := #[.int .i64 ((J49 l0 x4_1).f0), .int .i64 ((J49 l0 x4_1).f1), .int .i64 ((J49 l0 x4_1).f2), .int .i64 0, .int .i64 0, .int .i64 0]) ?_ 3 _ rfl; refine skk ?_; refine blk_put (cs := #[.int .i64 ((J49 l0 x4_1).f0), .int .i64 ((J49 l0 x4_1).f1), .int .i64 0, .int .i64 0, .int .i64 0, .int .i64 0]) ?_ 2 _ rfl; refine skk ?_; refine blk_put (cs := #[.int .i64 ((J49 l0 x4_1).f0), .int .i64 0, .int .i64 0, .int .i64 0, .int .i64 0, .int .i64 0]) ?_ 1 _ rfl; refine skk ?_; refine blk_put (cs := #[.int .i64 0, .int .i64 0, .int .i64 0, .int .i64 0, .int .i64 0, .int .i64 0]) ?_ 0 _ rfl; refine skk ?_; exact BK326.out⟩, ⟨skG HB.out GE326.out GE326.out⟩⟩
          ·
           rw [if_neg c13] at H
           have c13b0 : (((J49 l0 x4_1).f1) == 0) = false := beq_eq_false_iff_ne.mpr c13
           have c13b1 : (((J49 l0 x4_1).f1) != 0) = true := bne_iff_ne.mpr c13
           (first | rw [c13b0] | (simp only [i64_w, i32_w]; rw [c13b0]) | skip)
           by_cases c25 : ((J49 l0 x4_1).f1) = 1
           ·
            rw [if_pos c25] at H
            have c25b0 : (((J49 l0 x4_1).f1) == 1) = true := beq_iff_eq.mpr c25
            have c25b1 : (((J49 l0 x4_1).f1) != 1) = false := bne_eq_false_iff_eq.mpr c25
            clear c25
            by_cases c26 : ((J49 l0 x4_1).f0) = 0
            ·
             rw [if_pos c26] at H
             have c26b0 : (((J49 l0 x4_1).f0) == 0) = true := beq_iff_eq.mpr c26
             have c26b1 : (((J49 l0 x4_1).f0) != 0) = false := bne_eq_false_iff_eq.mpr c26
             clear c26
             by_cases c27 : ((J49 l0 x4_1).f3) = 0
             ·
              rw [if_pos c27] at H
              have c27b0 : (((J49 l0 x4_1).f3) == 0) = true := beq_iff_eq.mpr c27
              have c27b1 : (((J49 l0 x4_1).f3) != 0) = false := bne_eq_false_iff_eq.mpr c27
              clear c27
              by_cases c28 : ((J49 l0 x4_1).f2) < 0
              ·
               rw [if_pos c28] at H
               have c28b0 : decide (((J49 l0 x4_1).f2) < 0) = true := decide_eq_true c28
               clear c28
               have H' := asd H
               clear H
               obtain ⟨hcz29_0, hcz29_1, hcz29_2, hcz29_3, hcz29_4, hcz29_5, hfz29_0, hfz29_1, hfz29_2, hfz29_3, hfz29_4, hfz29_5⟩ := bk6 BK326.out
               go_wp2
               go_meet
               case rel => exact ⟨_, (true), rs, H', ⟨by have := HK1.out; first | omega | exact Nat.le_refl _⟩, ⟨skR (Kd.R_mono (Kd.R_far (p := ⟨gb326, 5, none⟩) (Kd.R_far (p := ⟨gb326, 4, none⟩) (Kd.R_far (p := ⟨gb326, 3, none⟩) (Kd.R_far (p := ⟨gb326, 2, none⟩) (Kd.R_far (p := ⟨gb326, 1, none⟩) (Kd.R_far (p := ⟨gb326, 0, none⟩) (Kd.R_types HO_3.out BK326.out (by decide)) (fun _ hk => hk.2) (.int .i64 ((J49 l0 x4_1).f0))) (fun _ hk => hk.2) (.int .i64 ((J49 l0 x4_1).f1))) (fun _ hk => hk.2) (.int .i64 ((J49 l0 x4_1).f2))) (fun _ hk => hk.2) (.int .i64 ((J49 l0 x4_1).f3))) (fun _ hk => hk.2) (.int .i64 ((J49 l0 x4_1).f4))) (fun _ hk => hk.2) (.int .i64 ((J49 l0 x4_1).f5))) (fun _ hk => trivial))⟩, ⟨by refine skk ?_; refine blk_put (cs := #[.int .i64 ((J49 l0 x4_1).f0), .int .i64 ((J49 l0 x4_1).f1), .int .i64 ((J49 l0 x4_1).f2), .int .i64 ((J49 l0 x4_1).f3), .int .i64 ((J49 l0 x4_1).f4), .int .i64 0]) ?_ 5 _ rfl; refine skk ?_; refine blk_put (cs := #[.int .i64 ((J49 l0 x4_1).f0), .int .i64 ((J49 l0 x4_1).f1), .int .i64 ((J49 l0 x4_1).f2), .int .i64 ((J49 l0 x4_1).f3), .int .i64 0, .int .i64 0]) ?_ 4 _ rfl; refine skk ?_; refine blk_put (cs := #[.int .i64 ((J49 l0 x4_1).f0), .int .i64 ((J49 l0 x4_1).f1), .int .i64 ((J49 l0 x4_1).f2), .int .i64 0, .int .i64 0, .int .i64 0]) ?_ 3 _ rfl; refine skk ?_; refine blk_put (cs := #[.int .i64 ((J49 l0 x4_1).f0), .int .i64 ((J49 l0 x4_1).f1), .int .i64 0, .int .i64 0, .int .i64 0, .int .i64 0]) ?_ 2 _ rfl; refine skk ?_; refine blk_put (cs := #[.int .i64 ((J49 l0 x4_1).f0), .int .i64 0, .int .i64 0, .int .i64 0, .int .i64 0, .int .i64 0]) ?_ 1 _ rfl; refine skk ?_; refine blk_put (cs := #[.int .i64 0, .int .i64 0, .int .i64 0, .int .i64 0, .int .i64 0, .int .i64 0]) ?_ 0 _ rfl; refine skk ?_; exact BK326.out⟩, ⟨skG HB.out GE326.out GE326.out⟩⟩
              ·
               rw [if_neg c28] at H
               have c28b0 : decide (((J49 l0 x4_1).f2) < 0) = false := decide_eq_false c28
               clear c28
               have H' := asd H
               clear H
               obtain ⟨hcz30_0, hcz30_1, hcz30_2, hcz30_3, hcz30_4, hcz30_5, hfz30_0, hfz30_1, hfz30_2, hfz30_3, hfz30_4, hfz30_5⟩ := bk6 BK326.out
               go_wp2
               go_meet
               case rel => exact ⟨_, (decide (((J49 l0 x4_1).f2) > 1000000)), rs, H', ⟨by have := HK1.out; first | omega | exact Nat.le_refl _⟩, ⟨skR (Kd.R_mono (Kd.R_far (p := ⟨gb326, 5, none⟩) (Kd.R_far (p := ⟨gb326, 4, none⟩) (Kd.R_far (p := ⟨gb326, 3, none⟩) (Kd.R_far (p := ⟨gb326, 2, none⟩) (Kd.R_far (p := ⟨gb326, 1, none⟩) (Kd.R_far (p := ⟨gb326, 0, none⟩) (Kd.R_types HO_3.out BK326.out (by decide)) (fun _ hk => hk.2) (.int .i64 ((J49 l0 x4_1).f0))) (fun _ hk => hk.2) (.int .i64 ((J49 l0 x4_1).f1))) (fun _ hk => hk.2) (.int .i64 ((J49 l0 x4_1).f2))) (fun _ hk => hk.2) (.int .i64 ((J49 l0 x4_1).f3))) (fun _ hk => hk.2) (.int .i64 ((J49 l0 x4_1).f4))) (fun _ hk => hk.2) (.int .i64 ((J49 l0 x4_1).f5))) (fun _ hk => trivial))⟩, ⟨by refine skk ?_; refine blk_put (cs := #[.int .i64 ((J49 l0 x4_1).f0), .int .i64 ((J49 l0 x4_1).f1), .int .i64 ((J49 l0 x4_1).f2), .int .i64 ((J49 l0 x4_1).f3), .int .i64 ((J49 l0 x4_1).f4), .int .i64 0]) ?_ 5 _ rfl; refine skk ?_; refine blk_put (cs := #[.int .i64 ((J49 l0 x4_1).f0), .int .i64 ((J49 l0 x4_1).f1), .int .i64 ((J49 l0 x4_1).f2), .int .i64 ((J49 l0 x4_1).f3), .int .i64 0, .int .i64 0]) ?_ 4 _ rfl; refine skk ?_; refine blk_put (cs := #[.int .i64 ((J49 l0 x4_1).f0), .int .i64 ((J49 l0 x4_1).f1), .int .i64 ((J49 l0 x4_1).f2), .int .i64 0, .int .i64 0, .int .i64 0]) ?_ 3 _ rfl; refine skk ?_; refine blk_put (cs := #[.int .i64 ((J49 l0 x4_1).f0), .int .i64 ((J49 l0 x4_1).f1), .int .i64 0, .int .i64 0, .int .i64 0, .int .i64 0]) ?_ 2 _ rfl; refine skk ?_; refine blk_put (cs := #[.int .i64 ((J49 l0 x4_1).f0), .int .i64 0, .int .i64 0, .int .i64 0, .int .i64 0, .int .i64 0]) ?_ 1 _ rfl; refine skk ?_; refine blk_put (cs := #[.int .i64 0, .int .i64 0, .int .i64 0, .int .i64 0, .int .i64 0, .int .i64 0]) ?_ 0 _ rfl; refine skk ?_; exact BK326.out⟩, ⟨skG HB.out GE326.out GE326.out⟩⟩
             ·
              rw [if_neg c27] at H
              have c27b0 : (((J49 l0 x4_1).f3) == 0) = false := beq_eq_false_iff_ne.mpr c27
              have c27b1 : (((J49 l0 x4_1).f3) != 0) = true := bne_iff_ne.mpr c27
              have H' := asd H
              clear H
              obtain ⟨hcz31_0, hcz31_1, hcz31_2, hcz31_3, hcz31_4, hcz31_5, hfz31_0, hfz31_1, hfz31_2, hfz31_3, hfz31_4, hfz31_5⟩ := bk6 BK326.out
              go_wp2
              go_meet
              case rel => exact ⟨_, (true), rs, H', ⟨by have := HK1.out; first | omega | exact Nat.le_refl _⟩, ⟨skR (Kd.R_mono (Kd.R_far (p := ⟨gb326, 5, none⟩) (Kd.R_far (p := ⟨gb326, 4, none⟩) (Kd.R_far (p := ⟨gb326, 3, none⟩) (Kd.R_far (p := ⟨gb326, 2, none⟩) (Kd.R_far (p := ⟨gb326, 1, none⟩) (Kd.R_far (p := ⟨gb326, 0, none⟩) (Kd.R_types HO_3.out BK326.out (by decide)) (fun _ hk => hk.2) (.int .i64 ((J49 l0 x4_1).f0))) (fun _ hk => hk.2) (.int .i64 ((J49 l0 x4_1).f1))) (fun _ hk => hk.2) (.int .i64 ((J49 l0 x4_1).f2))) (fun _ hk => hk.2) (.int .i64 ((J49 l0 x4_1).f3))) (fun _ hk => hk.2) (.int .i64 ((J49 l0 x4_1).f4))) (fun _ hk => hk.2) (.int .i64 ((J49 l0 x4_1).f5))) (fun _ hk => trivial))⟩, ⟨by refine skk ?_; refine blk_put (cs := #[.int .i64 ((J49 l0 x4_1).f0), .int .i64 ((J49 l0 x4_1).f1), .int .i64 ((J49 l0 x4_1).f2), .int .i64 ((J49 l0 x4_1).f3), .int .i64 ((J49 l0 x4_1).f4), .int .i64 0]) ?_ 5 _ rfl; refine skk ?_; refine blk_put (cs := #[.int .i64 ((J49 l0 x4_1).f0), .int .i64 ((J49 l0 x4_1).f1), .int .i64 ((J49 l0 x4_1).f2), .int .i64 ((J49 l0 x4_1).f3), .int .i64 0, .int .i64 0]) ?_ 4 _ rfl; refine skk ?_; refine blk_put (cs := #[.int .i64 ((J49 l0 x4_1).f0), .int .i64 ((J49 l0 x4_1).f1), .int .i64 ((J49 l0 x4_1).f2), .int .i64 0, .int .i64 0, .int .i64 0]) ?_ 3 _ rfl; refine skk ?_; refine blk_put (cs := #[.int .i64 ((J49 l0 x4_1).f0), .int .i64 ((J49 l0 x4_1).f1), .int .i64 0, .int .i64 0, .int .i64 0, .int .i64 0]) ?_ 2 _ rfl; refine skk ?_; refine blk_put (cs := #[.int .i64 ((J49 l0 x4_1).f0), .int .i64 0, .int .i64 0, .int .i64 0, .int .i64 0, .int .i64 0]) ?_ 1 _ rfl; refine skk ?_; refine blk_put (cs := #[.int .i64 0, .int .i64 0, .int .i64 0, .int .i64 0, .int .i64 0, .int .i64 0]) ?_ 0 _ rfl; refine skk ?_; exact BK326.out⟩, ⟨skG HB.out GE326.out GE326.out⟩⟩
            ·
             rw [if_neg c26] at H
             have c26b0 : (((J49 l0 x4_1).f0) == 0) = false := beq_eq_false_iff_ne.mpr c26
             have c26b1 : (((J49 l0 x4_1).f0) != 0) = true := bne_iff_ne.mpr c26
             have H' := asd H
             clear H
             obtain ⟨hcz32_0, hcz32_1, hcz32_2, hcz32_3, hcz32_4, hcz32_5, hfz32_0, hfz32_1, hfz32_2, hfz32_3, hfz32_4, hfz32_5⟩ := bk6 BK326.out
             go_wp2
             go_meet
             case rel => exact ⟨_, (true), rs, H', ⟨by have := HK1.out; first | omega | exact Nat.le_refl _⟩, ⟨skR (Kd.R_mono (Kd.R_far (p := ⟨gb326, 5, none⟩) (Kd.R_far (p := ⟨gb326, 4, none⟩) (Kd.R_far (p := ⟨gb326, 3, none⟩) (Kd.R_far (p := ⟨gb326, 2, none⟩) (Kd.R_far (p := ⟨gb326, 1, none⟩) (Kd.R_far (p := ⟨gb326, 0, none⟩) (Kd.R_types HO_3.out BK326.out (by decide)) (fun _ hk => hk.2) (.int .i64 ((J49 l0 x4_1).f0))) (fun _ hk => hk.2) (.int .i64 ((J49 l0 x4_1).f1))) (fun _ hk => hk.2) (.int .i64 ((J49 l0 x4_1).f2))) (fun _ hk => hk.2) (.int .i64 ((J49 l0 x4_1).f3))) (fun _ hk => hk.2) (.int .i64 ((J49 l0 x4_1).f4))) (fun _ hk => hk.2) (.int .i64 ((J49 l0 x4_1).f5))) (fun _ hk => trivial))⟩, ⟨by refine skk ?_; refine blk_put (cs := #[.int .i64 ((J49 l0 x4_1).f0), .int .i64 ((J49 l0 x4_1).f1), .int .i64 ((J49 l0 x4_1).f2), .int .i64 ((J49 l0 x4_1).f3), .int .i64 ((J49 l0 x4_1).f4), .int .i64 0]) ?_ 5 _ rfl; refine skk ?_; refine blk_put (cs := #[.int .i64 ((J49 l0 x4_1).f0), .int .i64 ((J49 l0 x4_1).f1), .int .i64 ((J49 l0 x4_1).f2), .int .i64 ((J49 l0 x4_1).f3), .int .i64 0, .int .i64 0]) ?_ 4 _ rfl; refine skk ?_; refine blk_put (cs := #[.int .i64 ((J49 l0 x4_1).f0), .int .i64 ((J49 l0 x4_1).f1), .int .i64 ((J49 l0 x4_1).f2), .int .i64 0, .int .i64 0, .int .i64 0]) ?_ 3 _ rfl; refine skk ?_; refine blk_put (cs := #[.int .i64 ((J49 l0 x4_1).f0), .int .i64 ((J49 l0 x4_1).f1), .int .i64 0, .int .i64 0, .int .i64 0, .int .i64 0]) ?_ 2 _ rfl; refine skk ?_; refine blk_put (cs := #[.int .i64 ((J49 l0 x4_1).f0), .int .i64 0, .int .i64 0, .int .i64 0, .int .i64 0, .int .i64 0]) ?_ 1 _ rfl; refine skk ?_; refine blk_put (cs := #[.int .i64 0, .int .i64 0, .int .i64 0, .int .i64 0, .int .i64 0, .int .i64 0]) ?_ 0 _ rfl; refine skk ?_; exact BK326.out⟩, ⟨skG HB.out GE326.out GE326.out⟩⟩
           ·
            rw [if_neg c25] at H
            have c25b0 : (((J49 l0 x4_1).f1) == 1) = false := beq_eq_false_iff_ne.mpr c25
            have c25b1 : (((J49 l0 x4_1).f1) != 1) = true := bne_iff_ne.mpr c25
            have H' := asd H
            clear H
            obtain ⟨hcz33_0, hcz33_1, hcz33_2, hcz33_3, hcz33_4, hcz33_5, hfz33_0, hfz33_1, hfz33_2, hfz33_3, hfz33_4, hfz33_5⟩ := bk6 BK326.out
            go_wp2
            go_meet
            case rel => exact ⟨_, (true), rs, H', ⟨by have := HK1.out; first | omega | exact Nat.le_refl _⟩, ⟨skR (Kd.R_mono (Kd.R_far (p := ⟨gb326, 5, none⟩) (Kd.R_far (p := ⟨gb326, 4, none⟩) (Kd.R_far (p := ⟨gb326, 3, none⟩) (Kd.R_far (p := ⟨gb326, 2, none⟩) (Kd.R_far (p := ⟨gb326, 1, none⟩) (Kd.R_far (p := ⟨gb326, 0, none⟩) (Kd.R_types HO_3.out BK326.out (by decide)) (fun _ hk => hk.2) (.int .i64 ((J49 l0 x4_1).f0))) (fun _ hk => hk.2) (.int .i64 ((J49 l0 x4_1).f1))) (fun _ hk => hk.2) (.int .i64 ((J49 l0 x4_1).f2))) (fun _ hk => hk.2) (.int .i64 ((J49 l0 x4_1).f3))) (fun _ hk => hk.2) (.int .i64 ((J49 l0 x4_1).f4))) (fun _ hk => hk.2) (.int .i64 ((J49 l0 x4_1).f5))) (fun _ hk => trivial))⟩, ⟨by refine skk ?_; refine blk_put (cs := #[.int .i64 ((J49 l0 x4_1).f0), .int .i64 ((J49 l0 x4_1).f1), .int .i64 ((J49 l0 x4_1).f2), .int .i64 ((J49 l0 x4_1).f3), .int .i64 ((J49 l0 x4_1).f4), .int .i64 0]) ?_ 5 _ rfl; refine skk ?_; refine blk_put (cs := #[.int .i64 ((J49 l0 x4_1).f0), .int .i64 ((J49 l0 x4_1).f1), .int .i64 ((J49 l0 x4_1).f2), .int .i64 ((J49 l0 x4_1).f3), .int .i64 0, .int .i64 0]) ?_ 4 _ rfl; refine skk ?_; refine blk_put (cs := #[.int .i64 ((J49 l0 x4_1).f0), .int .i64 ((J49 l0 x4_1).f1), .int .i64 ((J49 l0 x4_1).f2), .int .i64 0, .int .i64 0, .int .i64 0]) ?_ 3 _ rfl; refine skk ?_; refine blk_put (cs := #[.int .i64 ((J49 l0 x4_1).f0), .int .i64 ((J49 l0 x4_1).f1), .int .i64 0, .int .i64 0, .int .i64 0, .int .i64 0]) ?_ 2 _ rfl; refine skk ?_; refine blk_put (cs := #[.int .i64 ((J49 l0 x4_1).f0), .int .i64 0, .int .i64 0, .int .i64 0, .int .i64 0, .int .i64 0]) ?_ 1 _ rfl; refine skk ?_; refine blk_put (cs := #[.int .i64 0, .int .i64 0, .int .i64 0, .int .i64 0, .int .i64 0, .int .i64 0]) ?_ 0 _ rfl; refine skk ?_; exact BK326.out⟩, ⟨skG HB.out GE326.out GE326.out⟩⟩
         case rest =>
          clear HC10
          try clear c1
          try clear c2
          try clear c2b0
          try clear c2b1
          try clear p2
          try clear c3
          try clear c3b0
          try clear c3b1
          try clear c3b2
          try clear p3
          try clear q3
          try clear hx3
          try clear c4
          try clear c4b0
          try clear c4b1
          try clear c5
          try clear c5b0
          try clear c5b1
          try clear c8
          try clear c8b0
          try clear c9
          try clear c9b0
          try clear c13
          try clear c13b0
          try clear c13b1
          try clear c14
          try clear c14b0
          try clear c14b1
          try clear c15
          try clear c15b0
          try clear c15b1
          try clear c16
          try clear c16b0
          try clear c16b1
          try clear c17
          try clear c17b0
          try clear c22
          try clear c22b0
          try clear c25
          try clear c25b0
          try clear c25b1
          try clear c26
          try clear c26b0
          try clear c26b1
          try clear c27
          try clear c27b0
          try clear c27b1
          try clear c28
          try clear c28b0
          try clear p32
          try clear q32
          try clear hx32
          try clear hcz12_0
          try clear hcz12_1
          try clear hcz12_2
          try clear hcz12_3
          try clear hcz12_4
          try clear hcz12_5
          try clear hcz18_0
          try clear hcz18_1
          try clear hcz18_2
          try clear hcz18_3
          try clear hcz18_4
          try clear hcz18_5
          try clear hcz19_0
          try clear hcz19_1
          try clear hcz19_2
          try clear hcz19_3
          try clear hcz19_4
          try clear hcz19_5
          try clear hcz20_0
          try clear hcz20_1
          try clear hcz20_2
          try clear hcz20_3
          try clear hcz20_4
          try clear hcz20_5
          try clear hcz21_0
          try clear hcz21_1
          try clear hcz21_2
          try clear hcz21_3
          try clear hcz21_4
          try clear hcz21_5
          try clear hcz23_0
          try clear hcz23_1
          try clear hcz23_2
          try clear hcz23_3
          try clear hcz23_4
          try clear hcz23_5
          try clear hcz24_0
          try clear hcz24_1
          try clear hcz24_2
          try clear hcz24_3
          try clear hcz24_4
          try clear hcz24_5
          try clear hcz29_0
          try clear hcz29_1
          try clear hcz29_2
          try clear hcz29_3
          try clear hcz29_4
          try clear hcz29_5
          try clear hcz30_0
          try clear hcz30_1
          try clear hcz30_2
          try clear hcz30_3
          try clear hcz30_4
          try clear hcz30_5
          try clear hcz31_0
          try clear hcz31_1
          try clear hcz31_2
          try clear hcz31_3
          try clear hcz31_4
          try clear hcz31_5
          try clear hcz32_0
          try clear hcz32_1
          try clear hcz32_2
          try clear hcz32_3
          try clear hcz32_4
          try clear hcz32_5
          try clear hcz33_0
          try clear hcz33_1
          try clear hcz33_2
          try clear hcz33_3
          try clear hcz33_4
          try clear hcz33_5
          try clear hfz12_0
          try clear hfz12_1
          try clear hfz12_2
          try clear hfz12_3
          try clear hfz12_4
          try clear hfz12_5
          try clear hfz18_0
          try clear hfz18_1
          try clear hfz18_2
          try clear hfz18_3
          try clear hfz18_4
          try clear hfz18_5
          try clear hfz19_0
          try clear hfz19_1
          try clear hfz19_2
          try clear hfz19_3
          try clear hfz19_4
          try clear hfz19_5
          try clear hfz20_0
          try clear hfz20_1
          try clear hfz20_2
          try clear hfz20_3
          try clear hfz20_4
          try clear hfz20_5
          try clear hfz21_0
          try clear hfz21_1
          try clear hfz21_2
          try clear hfz21_3
          try clear hfz21_4
          try clear hfz21_5
          try clear hfz23_0
          try clear hfz23_1
          try clear hfz23_2
          try clear hfz23_3
          try clear hfz23_4
          try clear hfz23_5
          try clear hfz24_0
          try clear hfz24_1
          try clear hfz24_2
          try clear hfz24_3
          try clear hfz24_4
          try clear hfz24_5
          try clear hfz29_0
          try clear hfz29_1
          try clear hfz29_2
          try clear hfz29_3
          try clear hfz29_4
          try clear hfz29_5
          try clear hfz30_0
          try clear hfz30_1
          try clear hfz30_2
          try clear hfz30_3
          try clear hfz30_4
          try clear hfz30_5
          try clear hfz31_0
          try clear hfz31_1
          try clear hfz31_2
          try clear hfz31_3
          try clear hfz31_4
          try clear hfz31_5
          try clear hfz32_0
          try clear hfz32_1
          try clear hfz32_2
          try clear hfz32_3
          try clear hfz32_4
          try clear hfz32_5
          try clear hfz33_0
          try clear hfz33_1
          try clear hfz33_2
          try clear hfz33_3
          try clear hfz33_4
          try clear hfz33_5
          try clear hx325_0
          try clear hx325_1
          try clear hx325_2
          try clear hx325_3
          try clear hx325_4
          try clear hx325_5
          try clear p2
          try clear p325
          try clear q325
          obtain ⟨kq, x58_9, rfl, HA, HJ9, HO_3, BK326, HB⟩ := hcut
          cases kq with
          | zero => exact absurd HA.out (by simp [larchref17_Check.j1])
          | succ kj9 =>
           have H := HA.out
           clear HA
           simp only [larchref17_Check.j1] at H
           by_cases c34 : x58_9 = true
           ·
            subst c34
            have H1 : (some 3) = some r := by rw [if_pos rfl] at H; exact H
            clear H
            have H := H1
            clear H1
            obtain rfl := Option.some.inj H
            go_wp2
            go_ret
            exact ⟨re, skG HB.out GE326.out GE326.out⟩
           ·
            replace c34 := Bool.eq_false_iff.mpr c34
            subst c34
            have H1 : ((larchref17_leaf.f ((J49 l0 x4_1).f0) ((J49 l0 x4_1).f1) ((J49 l0 x4_1).f2) ((J49 l0 x4_1).f3) ((J49 l0 x4_1).f4) ((J49 l0 x4_1).f5)).bind fun t327 => (if t327 = true then (larchref17_Check.l0 kj9 l0 x3_1 (wrap64 (x4_1 + 1))) else (if ((J49 l0 x4_1).f3) = 0 then (if ((J49 l0 x4_1).f4) < 1 then (some 3) else (if ((J49 l0 x4_1).f4) ≥ (l0.length : Int) then (some 3) else (if ((J49 l0 x4_1).f5) < 1 then (some 3) else (if ((J49 l0 x4_1).f5) ≥ (l0.length : Int) then (some 3) else (if ((J49 l0 x4_1).f4) = ((J49 l0 x4_1).f5) then (some 3) else (if 0 ≤ ((J49 l0 x4_1).f4) then (if ((J49 l0 x4_1).f4) < (x3_1.length : Int) then ((some (x3_1.set (((J49 l0 x4_1).f4) : Int).toNat (wrap64 ((rd x3_1 ((J49 l0 x4_1).f4)) + 1)) : List Int)).bind fun y329 => (if 0 ≤ ((J49 l0 x4_1).f5) then (if ((J49 l0 x4_1).f5) < (x3_1.length : Int) then (larchref17_Check.l0 kj9 l0 (y329.set (((J49 l0 x4_1).f5) : Int).toNat (wrap64 ((rd y329 ((J49 l0 x4_1).f5)) + 1))) (wrap64 (x4_1 + 1))) else (none)) else (none))) else (none)) else (none))))))) else (some 3)))) = some r := by rw [if_neg (show ¬ (false = true) by decide)] at H; exact H
            clear H
            have H := H1
            clear H1
            replace H := Option.bind_eq_some_iff.mp H
            obtain ⟨t327, A350, H⟩ := H
            replace H : (if t327 = true then (larchref17_Check.l0 kj9 l0 x3_1 (wrap64 (x4_1 + 1))) else (if ((J49 l0 x4_1).f3) = 0 then (if ((J49 l0 x4_1).f4) < 1 then (some 3) else (if ((J49 l0 x4_1).f4) ≥ (l0.length : Int) then (some 3) else (if ((J49 l0 x4_1).f5) < 1 then (some 3) else (if ((J49 l0 x4_1).f5) ≥ (l0.length : Int) then (some 3) else (if ((J49 l0 x4_1).f4) = ((J49 l0 x4_1).f5) then (some 3) else (if 0 ≤ ((J49 l0 x4_1).f4) then (if ((J49 l0 x4_1).f4) < (x3_1.length : Int) then ((some (x3_1.set (((J49 l0 x4_1).f4) : Int).toNat (wrap64 ((rd x3_1 ((J49 l0 x4_1).f4)) + 1)) : List Int)).bind fun y329 => (if 0 ≤ ((J49 l0 x4_1).f5) then (if ((J49 l0 x4_1).f5) < (x3_1.length : Int) then (larchref17_Check.l0 kj9 l0 (y329.set (((J49 l0 x4_1).f5) : Int).toNat (wrap64 ((rd y329 ((J49 l0 x4_1).f5)) + 1))) (wrap64 (x4_1 + 1))) else (none)) else (none))) else (none)) else (none))))))) else (some 3))) = some r := H
            have A35 := asd A350
            clear A350
            by_cases c36 : t327 = true
            ·
             subst c36
             have H1 : (larchref17_Check.l0 kj9 l0 x3_1 (wrap64 (x4_1 + 1))) = some r := by rw [if_pos rfl] at H; exact H
             clear H
             have H := H1
             clear H1
             have H' := asd H
             clear H
             obtain ⟨hcz37_0, hcz37_1, hcz37_2, hcz37_3, hcz37_4, hcz37_5, hfz37_0, hfz37_1, hfz37_2, hfz37_3, hfz37_4, hfz37_5⟩ := bk6 BK326.out
             go_wp2_with (first | ((with_reducible refine gate_callee (f := 53) rfl ?_); refine goesL_ (some 60) rfl rfl Try.func53 (by kernel_rfl) rfl #[.agg #[.int .i64 ((J49 l0 x4_1).f0), .int .i64 ((J49 l0 x4_1).f1), .int .i64 ((J49 l0 x4_1).f2), .int .i64 ((J49 l0 x4_1).f3), .int .i64 ((J49 l0 x4_1).f4), .int .i64 ((J49 l0 x4_1).f5)]] rfl ags ?_; (with_reducible refine (larchref17_leaf.calls ((J49 l0 x4_1).f0) ((J49 l0 x4_1).f1) ((J49 l0 x4_1).f2) ((J49 l0 x4_1).f3) ((J49 l0 x4_1).f4) ((J49 l0 x4_1).f5) true _ A35.out).mono ?_); rintro e w38 ⟨rfl, hb⟩; refine ⟨_, rfl, ?_⟩; have n0_ := asd (Kd.R_below (skR HO_3.out) hb); have n1_ := asd (blk_below (g := gb326) (o := .cells #[.int .i64 ((J49 l0 x4_1).f0), .int .i64 ((J49 l0 x4_1).f1), .int .i64 ((J49 l0 x4_1).f2), .int .i64 ((J49 l0 x4_1).f3), .int .i64 ((J49 l0 x4_1).f4), .int .i64 ((J49 l0 x4_1).f5)] 49 (0, 0)) (skK BK326.out) hb); have n2_ := asd (below_step (skG HB.out GE326.out GE326.out) hb); clear HO_3; clear BK326; clear HB; have HO_3 := n0_; have BK326 := n1_; have HB := n2_; clear n0_ n1_ n2_; (try clear hb); (try clear hb2); (try clear hk); (try clear hi)))
             go_roundg kj9
             case measure => have := HK1.out; have := HJ9.out; omega
             case rel => exact ⟨(x3_1), (wrap64 (x4_1 + 1)), rs, H', ⟨by have := HK1.out; have := HJ9.out; omega⟩, ⟨skR HO_3.out⟩, ⟨skG HB.out GE326.out GE326.out⟩⟩
            ·
             replace c36 := Bool.eq_false_iff.mpr c36
             subst c36
             have H1 : (if ((J49 l0 x4_1).f3) = 0 then (if ((J49 l0 x4_1).f4) < 1 then (some 3) else (if ((J49 l0 x4_1).f4) ≥ (l0.length : Int) then (some 3) else (if ((J49 l0 x4_1).f5) < 1 then (some 3) else (if ((J49 l0 x4_1).f5) ≥ (l0.length : Int) then (some 3) else (if ((J49 l0 x4_1).f4) = ((J49 l0 x4_1).f5) then (some 3) else (if 0 ≤ ((J49 l0 x4_1).f4) then (if ((J49 l0 x4_1).f4) < (x3_1.length : Int) then ((some (x3_1.set (((J49 l0 x4_1).f4) : Int).toNat (wrap64 ((rd x3_1 ((J49 l0 x4_1).f4)) + 1)) : List Int)).bind fun y329 => (if 0 ≤ ((J49 l0 x4_1).f5) then (if ((J49 l0 x4_1).f5) < (x3_1.length : Int) then (larchref17_Check.l0 kj9 l0 (y329.set (((J49 l0 x4_1).f5) : Int).toNat (wrap64 ((rd y329 ((J49 l0 x4_1).f5)) + 1))) (wrap64 (x4_1 + 1))) else (none)) else (none))) else (none)) else (none))))))) else (some 3)) = some r := by rw [if_neg (show ¬ (false = true) by decide)] at H; exact H
             clear H
             have H := H1
             clear H1
             by_cases c39 : ((J49 l0 x4_1).f3) = 0
             ·
              rw [if_pos c39] at H
              have c39b0 : (((J49 l0 x4_1).f3) == 0) = true := beq_iff_eq.mpr c39
              have c39b1 : (((J49 l0 x4_1).f3) != 0) = false := bne_eq_false_iff_eq.mpr c39
              clear c39
              by_cases c40 : ((J49 l0 x4_1).f4) < 1
              ·
               rw [if_pos c40] at H
               have c40b0 : decide (((J49 l0 x4_1).f4) < 1) = true := decide_eq_true c40
               clear c40
               obtain rfl := Option.some.inj H
               obtain ⟨hcz41_0, hcz41_1, hcz41_2, hcz41_3, hcz41_4, hcz41_5, hfz41_0, hfz41_1, hfz41_2, hfz41_3, hfz41_4, hfz41_5⟩ := bk6 BK326.out
               go_wp2_with (first | ((with_reducible refine gate_callee (f := 53) rfl ?_); refine goesL_ (some 60) rfl rfl Try.func53 (by kernel_rfl) rfl #[.agg #[.int .i64 ((J49 l0 x4_1).f0), .int .i64 ((J49 l0 x4_1).f1), .int .i64 ((J49 l0 x4_1).f2), .int .i64 ((J49 l0 x4_1).f3), .int .i64 ((J49 l0 x4_1).f4), .int .i64 ((J49 l0 x4_1).f5)]] rfl ags ?_; (with_reducible refine (larchref17_leaf.calls ((J49 l0 x4_1).f0) ((J49 l0 x4_1).f1) ((J49 l0 x4_1).f2) ((J49 l0 x4_1).f3) ((J49 l0 x4_1).f4) ((J49 l0 x4_1).f5) false _ A35.out).mono ?_); rintro e w42 ⟨rfl, hb⟩; refine ⟨_, rfl, ?_⟩; have n0_ := asd (Kd.R_below (skR HO_3.out) hb); have n1_ := asd (blk_below (g := gb326) (o := .cells #[.int .i64 ((J49 l0 x4_1).f0), .int .i64 ((J49 l0 x4_1).f1), .int .i64 ((J49 l0 x4_1).f2), .int .i64 ((J49 l0 x4_1).f3), .int .i64 ((J49 l0 x4_1).f4), .int .i64 ((J49 l0 x4_1).f5)] 49 (0, 0)) (skK BK326.out) hb); have n2_ := asd (below_step (skG HB.out GE326.out GE326.out) hb); clear HO_3; clear BK326; clear HB; have HO_3 := n0_; have BK326 := n1_; have HB := n2_; clear n0_ n1_ n2_; (try clear hb); (try clear hb2); (try clear hk); (try clear hi); obtain ⟨hcz43_0, hcz43_1, hcz43_2, hcz43_3, hcz43_4, hcz43_5, hfz43_0, hfz43_1, hfz43_2, hfz43_3, hfz43_4, hfz43_5⟩ := bk6 BK326.out))
               go_ret
               exact ⟨re, skG HB.out GE326.out GE326.out⟩
              ·
               rw [if_neg c40] at H
               have c40b0 : decide (((J49 l0 x4_1).f4) < 1) = false := decide_eq_false c40
               clear c40
               by_cases c44 : ((J49 l0 x4_1).f4) ≥ (l0.length : Int)
               ·
                rw [if_pos c44] at H
                have c44b0 : decide ((l0.length : Int) ≤ ((J49 l0 x4_1).f4)) = true := decide_eq_true c44
                clear c44
                obtain rfl := Option.some.inj H
                obtain ⟨hcz45_0, hcz45_1, hcz45_2, hcz45_3, hcz45_4, hcz45_5, hfz45_0, hfz45_1, hfz45_2, hfz45_3, hfz45_4, hfz45_5⟩ := bk6 BK326.out
                go_wp2_with (first | ((with_reducible refine gate_callee (f := 53) rfl ?_); refine goesL_ (some 60) rfl rfl Try.func53 (by kernel_rfl) rfl #[.agg #[.int .i64 ((J49 l0 x4_1).f0), .int .i64 ((J49 l0 x4_1).f1), .int .i64 ((J49 l0 x4_1).f2), .int .i64 ((J49 l0 x4_1).f3), .int .i64 ((J49 l0 x4_1).f4), .int .i64 ((J49 l0 x4_1).f5)]] rfl ags ?_; (with_reducible refine (larchref17_leaf.calls ((J49 l0 x4_1).f0) ((J49 l0 x4_1).f1) ((J49 l0 x4_1).f2) ((J49 l0 x4_1).f3) ((J49 l0 x4_1).f4) ((J49 l0 x4_1).f5) false _ A35.out).mono ?_); rintro e w46 ⟨rfl, hb⟩; refine ⟨_, rfl, ?_⟩; have n0_ := asd (Kd.R_below (skR HO_3.out) hb); have n1_ := asd (blk_below (g := gb326) (o := .cells #[.int .i64 ((J49 l0 x4_1).f0), .int .i64 ((J49 l0 x4_1).f1), .int .i64 ((J49 l0 x4_1).f2), .int .i64 ((J49 l0 x4_1).f3), .int .i64 ((J49 l0 x4_1).f4), .int .i64 ((J49 l0 x4_1).f5)] 49 (0, 0)) (skK BK326.out) hb); have n2_ := asd (below_step (skG HB.out GE326.out GE326.out) hb); clear HO_3; clear BK326; clear HB; have HO_3 := n0_; have BK326 := n1_; have HB := n2_; clear n0_ n1_ n2_; (try clear hb); (try clear hb2); (try clear hk); (try clear hi); obtain ⟨hcz47_0, hcz47_1, hcz47_2, hcz47_3, hcz47_4, hcz47_5, hfz47_0, hfz47_1, hfz47_2, hfz47_3, hfz47_4, hfz47_5⟩ := bk6 BK326.out))
                go_ret
                exact ⟨re, skG HB.out GE326.out GE326.out⟩
               ·
                rw [if_neg c44] at H
                have c44b0 : decide ((l0.length : Int) ≤ ((J49 l0 x4_1).f4)) = false := decide_eq_false c44
                clear c44
                by_cases c48 : ((J49 l0 x4_1).f5) < 1
                ·
                 rw [if_pos c48] at H
                 have c48b0 : decide (((J49 l0 x4_1).f5) < 1) = true := decide_eq_true c48
                 clear c48
                 obtain rfl := Option.some.inj H
                 obtain ⟨hcz49_0, hcz49_1, hcz49_2, hcz49_3, hcz49_4, hcz49_5, hfz49_0, hfz49_1, hfz49_2, hfz49_3, hfz49_4, hfz49_5⟩ := bk6 BK326.out
                 go_wp2_with (first | ((with_reducible refine gate_callee (f := 53) rfl ?_); refine goesL_ (some 60) rfl rfl Try.func53 (by kernel_rfl) rfl #[.agg #[.int .i64 ((J49 l0 x4_1).f0), .int .i64 ((J49 l0 x4_1).f1), .int .i64 ((J49 l0 x4_1).f2), .int .i64 ((J49 l0 x4_1).f3), .int .i64 ((J49 l0 x4_1).f4), .int .i64 ((J49 l0 x4_1).f5)]] rfl ags ?_; (with_reducible refine (larchref17_leaf.calls ((J49 l0 x4_1).f0) ((J49 l0 x4_1).f1) ((J49 l0 x4_1).f2) ((J49 l0 x4_1).f3) ((J49 l0 x4_1).f4) ((J49 l0 x4_1).f5) false _ A35.out).mono ?_); rintro e w50 ⟨rfl, hb⟩; refine ⟨_, rfl, ?_⟩; have n0_ := asd (Kd.R_below (skR HO_3.out) hb); have n1_ := asd (blk_below (g := gb326) (o := .cells #[.int .i64 ((J49 l0 x4_1).f0), .int .i64 ((J49 l0 x4_1).f1), .int .i64 ((J49 l0 x4_1).f2), .int .i64 ((J49 l0 x4_1).f3), .int .i64 ((J49 l0 x4_1).f4), .int .i64 ((J49 l0 x4_1).f5)] 49 (0, 0)) (skK BK326.out) hb); have n2_ := asd (below_step (skG HB.out GE326.out GE326.out) hb); clear HO_3; clear BK326; clear HB; have HO_3 := n0_; have BK326 := n1_; have HB := n2_; clear n0_ n1_ n2_; (try clear hb); (try clear hb2); (try clear hk); (try clear hi); obtain ⟨hcz51_0, hcz51_1, hcz51_2, hcz51_3, hcz51_4, hcz51_5, hfz51_0, hfz51_1, hfz51_2, hfz51_3, hfz51_4, hfz51_5⟩ := bk6 BK326.out))
                 go_ret
                 exact ⟨re, skG HB.out GE326.out GE326.out⟩
                ·
                 rw [if_neg c48] at H
                 have c48b0 : decide (((J49 l0 x4_1).f5) < 1) = false := decide_eq_false c48
                 clear c48
                 by_cases c52 : ((J49 l0 x4_1).f5) ≥ (l0.length : Int)
                 ·
                  rw [if_pos c52] at H
                  have c52b0 : decide ((l0.length : Int) ≤ ((J49 l0 x4_1).f5)) = true := decide_eq_true c52
                  clear c52
                  obtain rfl := Option.some.inj H
                  obtain ⟨hcz53_0, hcz53_1, hcz53_2, hcz53_3, hcz53_4, hcz53_5, hfz53_0, hfz53_1, hfz53_2, hfz53_3, hfz53_4, hfz53_5⟩ := bk6 BK326.out
                  go_wp2_with (first | ((with_reducible refine gate_callee (f := 53) rfl ?_); refine goesL_ (some 60) rfl rfl Try.func53 (by kernel_rfl) rfl #[.agg #[.int .i64 ((J49 l0 x4_1).f0), .int .i64 ((J49 l0 x4_1).f1), .int .i64 ((J49 l0 x4_1).f2), .int .i64 ((J49 l0 x4_1).f3), .int .i64 ((J49 l0 x4_1).f4), .int .i64 ((J49 l0 x4_1).f5)]] rfl ags ?_; (with_reducible refine (larchref17_leaf.calls ((J49 l0 x4_1).f0) ((J49 l0 x4_1).f1) ((J49 l0 x4_1).f2) ((J49 l0 x4_1).f3) ((J49 l0 x4_1).f4) ((J49 l0 x4_1).f5) false _ A35.out).mono ?_); rintro e w54 ⟨rfl, hb⟩; refine ⟨_, rfl, ?_⟩; have n0_ := asd (Kd.R_below (skR HO_3.out) hb); have n1_ := asd (blk_below (g := gb326) (o := .cells #[.int .i64 ((J49 l0 x4_1).f0), .int .i64 ((J49 l0 x4_1).f1), .int .i64 ((J49 l0 x4_1).f2), .int .i64 ((J49 l0 x4_1).f3), .int .i64 ((J49 l0 x4_1).f4), .int .i64 ((J49 l0 x4_1).f5)] 49 (0, 0)) (skK BK326.out) hb); have n2_ := asd (below_step (skG HB.out GE326.out GE326.out) hb); clear HO_3; clear BK326; clear HB; have HO_3 := n0_; have BK326 := n1_; have HB := n2_; clear n0_ n1_ n2_; (try clear hb); (try clear hb2); (try clear hk); (try clear hi); obtain ⟨hcz55_0, hcz55_1, hcz55_2, hcz55_3, hcz55_4, hcz55_5, hfz55_0, hfz55_1, hfz55_2, hfz55_3, hfz55_4, hfz55_5⟩ := bk6 BK326.out))
                  go_ret
                  exact ⟨re, skG HB.out GE326.out GE326.out⟩
                 ·
                  rw [if_neg c52] at H
                  have c52b0 : decide ((l0.length : Int) ≤ ((J49 l0 x4_1).f5)) = false := decide_eq_false c52
                  clear c52
                  by_cases c56 : ((J49 l0 x4_1).f4) = ((J49 l0 x4_1).f5)
                  ·
                   rw [if_pos c56] at H
                   have c56b0 : (((J49 l0 x4_1).f4) == ((J49 l0 x4_1).f5)) = true := beq_iff_eq.mpr c56
                   have c56b1 : (((J49 l0 x4_1).f4) != ((J49 l0 x4_1).f5)) = false := bne_eq_false_iff_eq.mpr c56
                   clear c56
                   obtain rfl := Option.some.inj H
                   obtain ⟨hcz57_0, hcz57_1, hcz57_2, hcz57_3, hcz57_4, hcz57_5, hfz57_0, hfz57_1, hfz57_2, hfz57_3, hfz57_4, hfz57_5⟩ := bk6 BK326.out
                   go_wp2_with (first | ((with_reducible refine gate_callee (f := 53) rfl ?_); refine goesL_ (some 60) rfl rfl Try.func53 (by kernel_rfl) rfl #[.agg #[.int .i64 ((J49 l0 x4_1).f0), .int .i64 ((J49 l0 x4_1).f1), .int .i64 ((J49 l0 x4_1).f2), .int .i64 ((J49 l0 x4_1).f3), .int .i64 ((J49 l0 x4_1).f4), .int .i64 ((J49 l0 x4_1).f5)]] rfl ags ?_; (with_reducible refine (larchref17_leaf.calls ((J49 l0 x4_1).f0) ((J49 l0 x4_1).f1) ((J49 l0 x4_1).f2) ((J49 l0 x4_1).f3) ((J49 l0 x4_1).f4) ((J49 l0 x4_1).f5) false _ A35.out).mono ?_); rintro e w58 ⟨rfl, hb⟩; refine ⟨_, rfl, ?_⟩; have n0_ := asd (Kd.R_below (skR HO_3.out) hb); have n1_ := asd (blk_below (g := gb326) (o := .cells #[.int .i64 ((J49 l0 x4_1).f0), .int .i64 ((J49 l0 x4_1).f1), .int .i64 ((J49 l0 x4_1).f2), .int .i64 ((J49 l0 x4_1).f3), .int .i64 ((J49 l0 x4_1).f4), .int .i64 ((J49 l0 x4_1).f5)] 49 (0, 0)) (skK BK326.out) hb); have n2_ := asd (below_step (skG HB.out GE326.out GE326.out) hb); clear HO_3; clear BK326; clear HB; have HO_3 := n0_; have BK326 := n1_; have HB := n2_; clear n0_ n1_ n2_; (try clear hb); (try clear hb2); (try clear hk); (try clear hi); obtain ⟨hcz59_0, hcz59_1, hcz59_2, hcz59_3, hcz59_4, hcz59_5, hfz59_0, hfz59_1, hfz59_2, hfz59_3, hfz59_4, hfz59_5⟩ := bk6 BK326.out))
                   go_ret
                   exact ⟨re, skG HB.out GE326.out GE326.out⟩
                  ·
                   rw [if_neg c56] at H
                   have c56b0 : (((J49 l0 x4_1).f4) == ((J49 l0 x4_1).f5)) = false := beq_eq_false_iff_ne.mpr c56
                   have c56b1 : (((J49 l0 x4_1).f4) != ((J49 l0 x4_1).f5)) = true := bne_iff_ne.mpr c56
                   by_cases c60 : 0 ≤ ((J49 l0 x4_1).f4)
                   ·
                    rw [if_pos c60] at H
                    have c60b0 : decide (0 ≤ ((J49 l0 x4_1).f4)) = true := decide_eq_true c60
                    clear c60
                    by_cases c61 : ((J49 l0 x4_1).f4) < (x3_1.length : Int)
                    ·
                     rw [if_pos c61] at H
                     have c61b0 : decide (((J49 l0 x4_1).f4) < (x3_1.length : Int)) = true := decide_eq_true c61
                     clear c61
                     obtain ⟨y329, hy329⟩ : ∃ y_ : List Int, y_ = (x3_1.set (((J49 l0 x4_1).f4) : Int).toNat (wrap64 ((rd x3_1 ((J49 l0 x4_1).f4)) + 1))) := ⟨_, rfl⟩
                     replace H : (if 0 ≤ ((J49 l0 x4_1).f5) then (if ((J49 l0 x4_1).f5) < (x3_1.length : Int) then (larchref17_Check.l0 kj9 l0 (y329.set (((J49 l0 x4_1).f5) : Int).toNat (wrap64 ((rd y329 ((J49 l0 x4_1).f5)) + 1))) (wrap64 (x4_1 + 1))) else (none)) else (none)) = some r := by first | (rw [hy329]; with_reducible exact H) | (have H2_ := (Option.bind_some _ _).symm.trans H; rw [hy329]; with_reducible exact H2_) | (have H2_ := (Option.bind_some _ _).symm.trans H; with_reducible exact H2_) | with_reducible exact H | (rw [hy329]; exact H) | exact H
                     have Ny329 := asd hy329
                     clear hy329
                     by_cases c63 : 0 ≤ ((J49 l0 x4_1).f5)
                     ·
                      rw [if_pos c63] at H
                      have c63b0 : decide (0 ≤ ((J49 l0 x4_1).f5)) = true := decide_eq_true c63
                      clear c63
                      by_cases c64 : ((J49 l0 x4_1).f5) < (x3_1.length : Int)
                      ·
                       rw [if_pos c64] at H
                       have c64b0 : decide (((J49 l0 x4_1).f5) < (x3_1.length : Int)) = true := decide_eq_true c64
                       clear c64
                       obtain ⟨y331, hy331⟩ : ∃ y_ : List Int, y_ = (y329.set (((J49 l0 x4_1).f5) : Int).toNat (wrap64 ((rd y329 ((J49 l0 x4_1).f5)) + 1))) := ⟨_, rfl⟩
                       replace H : (larchref17_Check.l0 kj9 l0 y331 (wrap64 (x4_1 + 1))) = some r := by first | (rw [hy331]; with_reducible exact H) | (have H2_ := (Option.bind_some _ _).symm.trans H; rw [hy331]; with_reducible exact H2_) | (have H2_ := (Option.bind_some _ _).symm.trans H; with_reducible exact H2_) | with_reducible exact H | (rw [hy331]; exact H) | exact H
                       have Ny331 := asd hy331
                       clear hy331
                       have H' := asd H
                       clear H
                       obtain ⟨hcz66_0, hcz66_1, hcz66_2, hcz66_3, hcz66_4, hcz66_5, hfz66_0, hfz66_1, hfz66_2, hfz66_3, hfz66_4, hfz66_5⟩ := bk6 BK326.out
                       go_wp2_with (first | ((with_reducible refine gate_callee (f := 53) rfl ?_); refine goesL_ (some 60) rfl rfl Try.func53 (by kernel_rfl) rfl #[.agg #[.int .i64 ((J49 l0 x4_1).f0), .int .i64 ((J49 l0 x4_1).f1), .int .i64 ((J49 l0 x4_1).f2), .int .i64 ((J49 l0 x4_1).f3), .int .i64 ((J49 l0 x4_1).f4), .int .i64 ((J49 l0 x4_1).f5)]] rfl ags ?_; (with_reducible refine (larchref17_leaf.calls ((J49 l0 x4_1).f0) ((J49 l0 x4_1).f1) ((J49 l0 x4_1).f2) ((J49 l0 x4_1).f3) ((J49 l0 x4_1).f4) ((J49 l0 x4_1).f5) false _ A35.out).mono ?_); rintro e w67 ⟨rfl, hb⟩; refine ⟨_, rfl, ?_⟩; have n0_ := asd (Kd.R_below (skR HO_3.out) hb); have n1_ := asd (blk_below (g := gb326) (o := .cells #[.int .i64 ((J49 l0 x4_1).f0), .int .i64 ((J49 l0 x4_1).f1), .int .i64 ((J49 l0 x4_1).f2), .int .i64 ((J49 l0 x4_1).f3), .int .i64 ((J49 l0 x4_1).f4), .int .i64 ((J49 l0 x4_1).f5)] 49 (0, 0)) (skK BK326.out) hb); have n2_ := asd (below_step (skG HB.out GE326.out GE326.out) hb); clear HO_3; clear BK326; clear HB; have HO_3 := n0_; have BK326 := n1_; have HB := n2_; clear n0_ n1_ n2_; (try clear hb); (try clear hb2); (try clear hk); (try clear hi); obtain ⟨hcz68_0, hcz68_1, hcz68_2, hcz68_3, hcz68_4, hcz68_5, hfz68_0, hfz68_1, hfz68_2, hfz68_3, hfz68_4, hfz68_5⟩ := bk6 BK326.out; obtain ⟨Ao69, co69, eo69⟩ := Kd.R_slice HO_3.out; subst eo69; have p328 : 0 ≤ (((J49 l0 x4_1).f4) : Int) := dt; have q328 : ((J49 l0 x4_1).f4) < (x3_1.length : Int) := dt; obtain ⟨ad328, e328, hx328_0⟩ := Kd.at_int (Kd.R_reads' HO_3.out).2.2 ((J49 l0 x4_1).f4) p328 q328; cases e328; replace p328 := eq_true p328; replace q328 := eq_true q328; have p62 : 0 ≤ (((J49 l0 x4_1).f4) : Int) := dt; have q62 : (((J49 l0 x4_1).f4) : Int) < ((x3_1.length : Int) : Int) := dt; obtain ⟨go62, co62, eo62, gb62, gl62, cl62, HG62⟩ := Kd.R_form HO_3.out (by omega); (first | cases eo62 | (injection eo62 with ea_ en_ ec_; (first | subst ea_ | (injection ea_ with ea_; subst ea_)); subst ec_; clear en_)); have GB62 := asd gb62; have GG62 := asd HG62; clear gb62 gl62 HG62; (first | simp only [add_plain] at hx328_0 | skip); obtain ⟨hx62_0, hf62_0⟩ := Kd.R_celln 0 HO_3.out (((J49 l0 x4_1).f4) : Int) p62 q62; replace p62 := eq_true p62; replace q62 := eq_true q62; obtain ⟨hy70_, hz70_⟩ := Kd.R_celln 0 HO_3.out (((J49 l0 x4_1).f4) : Int) dt dt; have HP70 := Kd.R_putg HO_3.out (((J49 l0 x4_1).f4) : Int) (wrap64 ((rd x3_1 ((J49 l0 x4_1).f4)) + 1))) | ((with_reducible refine gate_store (t := 3) (p := 101) rfl ?_); refine store_event (t := 3) (p := 101) (v := ?vo_w71) (w1 := (w67.setCell ⟨go62, (((J49 l0 x4_1).f4) : Int).toNat, none⟩ (.int .i64 (wrap64 ((rd x3_1 ((J49 l0 x4_1).f4)) + 1))))) ?hg ?ho ?hn ?hr ?_; (case ho => rfl); (case hg => rfl); (case hn => rfl); (case hr => first | (go_simp; done) | (go_simp; rfl)); intro w71 hw; have hg : w67.grownBy w71 (some go62) := (by rw [hw]; exact HP70.2); have hp_ : Kd.R (Kd.int .i64) 3 w71 w.heap.size (fun _ => True) (.slice (some ⟨go62, 0, none⟩) x3_1.length co69) y329 := (by rw [hw, Ny329.out]; exact HP70.1); clear HP70; have n0_ := asd (hp_); have n1_ := asd (blk_grown (g := gb326) (o := .cells #[.int .i64 ((J49 l0 x4_1).f0), .int .i64 ((J49 l0 x4_1).f1), .int .i64 ((J49 l0 x4_1).f2), .int .i64 ((J49 l0 x4_1).f3), .int .i64 ((J49 l0 x4_1).f4), .int .i64 ((J49 l0 x4_1).f5)] 49 (0, 0)) (skK BK326.out) hg (Kd.R_ne HO_3.out BK326.out (by decide))); have n2_ := asd ((by rw [hw]; exact below_set (HB.out) GB62.out : Below w.heap.size w w71)); clear HO_3; clear BK326; clear HB; have HO_3 := n0_; have BK326 := n1_; have HB := n2_; clear n0_ n1_ n2_; clear hg hw hp_; obtain ⟨hcz72_0, hcz72_1, hcz72_2, hcz72_3, hcz72_4, hcz72_5, hfz72_0, hfz72_1, hfz72_2, hfz72_3, hfz72_4, hfz72_5⟩ := bk6 BK326.out; have p330 : 0 ≤ (((J49 l0 x4_1).f5) : Int) := dt; have q330 : ((J49 l0 x4_1).f5) < (y329.length : Int) := (by have h_ : (((J49 l0 x4_1).f5) : Int) < ((x3_1.length : Int) : Int) := dt; first | (have e_ := (Kd.R_reads' HO_3.out).1; omega) | simpa only [Ny329.out, List.length_set] using h_); have ql330 : ((((J49 l0 x4_1).f5) : Int) < ((x3_1.length : Int) : Int)) = True := eq_true dt; obtain ⟨ad330, e330, hx330_0⟩ := Kd.at_int (Kd.R_reads' HO_3.out).2.2 ((J49 l0 x4_1).f5) p330 q330; obtain rfl : (⟨go62, 0, none⟩ : Addr) = ad330 := (by injection e330); (first | simp only [add_plain] at hx330_0 | simp only [add_at] at hx330_0 | simp only [Addr.add, Nat.zero_add] at hx330_0 | skip); replace p330 := eq_true p330; replace q330 := eq_true q330; have p65 : 0 ≤ (((J49 l0 x4_1).f5) : Int) := dt; have q65 : (((J49 l0 x4_1).f5) : Int) < ((x3_1.length : Int) : Int) := dt; obtain ⟨hx65_0, hf65_0⟩ := Kd.R_celln 0 HO_3.out (((J49 l0 x4_1).f5) : Int) p65 q65; replace p65 := eq_true p65; replace q65 := eq_true q65; obtain ⟨hy73_, hz73_⟩ := Kd.R_celln 0 HO_3.out (((J49 l0 x4_1).f5) : Int) dt dt; have HP73 := Kd.R_putg HO_3.out (((J49 l0 x4_1).f5) : Int) (wrap64 ((rd y329 ((J49 l0 x4_1).f5)) + 1))) | ((with_reducible refine gate_store (t := 3) (p := 108) rfl ?_); refine store_event (t := 3) (p := 108) (v := ?vo_w74) (w1 := (w71.setCell ⟨go62, (((J49 l0 x4_1).f5) : Int).toNat, none⟩ (.int .i64 (wrap64 ((rd y329 ((J49 l0 x4_1).f5)) + 1))))) ?hg ?ho ?hn ?hr ?_; (case ho => rfl); (case hg => rfl); (case hn => rfl); (case hr => first | (go_simp; done) | (go_simp; rfl)); intro w74 hw; have hg : w71.grownBy w74 (some go62) := (by rw [hw]; exact HP73.2); have hp_ : Kd.R (Kd.int .i64) 3 w74 w.heap.size (fun _ => True) (.slice (some ⟨go62, 0, none⟩) x3_1.length co69) y331 := (by rw [hw, Ny331.out]; exact HP73.1); clear HP73; have n0_ := asd (hp_); have n1_ := asd (blk_grown (g := gb326) (o := .cells #[.int .i64 ((J49 l0 x4_1).f0), .int .i64 ((J49 l0 x4_1).f1), .int .i64 ((J49 l0 x4_1).f2), .int .i64 ((J49 l0 x4_1).f3), .int .i64 ((J49 l0 x4_1).f4), .int .i64 ((J49 l0 x4_1).f5)] 49 (0, 0)) (skK BK326.out) hg (Kd.R_ne HO_3.out BK326.out (by decide))); have n2_ := asd ((by rw [hw]; exact below_set (HB.out) GB62.out : Below w.heap.size w w74)); clear HO_3; clear BK326; clear HB; have HO_3 := n0_; have BK326 := n1_; have HB := n2_; clear n0_ n1_ n2_; clear hg hw hp_))
                       go_roundg kj9
                       case measure => have := HK1.out; have := HJ9.out; omega
                       case rel => exact ⟨(y331), (wrap64 (x4_1 + 1)), rs, H', ⟨by have := HK1.out; have := HJ9.out; omega⟩, ⟨skR HO_3.out⟩, ⟨skG HB.out GE326.out GE326.out⟩⟩
                      ·
                       rw [if_neg c64] at H
                       exact absurd H (by simp)
                     ·
                      rw [if_neg c63] at H
                      exact absurd H (by simp)
                    ·
                     rw [if_neg c61] at H
                     exact absurd H (by simp)
                   ·
                    rw [if_neg c60] at H
                    exact absurd H (by simp)
             ·
              rw [if_neg c39] at H
              have c39b0 : (((J49 l0 x4_1).f3) == 0) = false := beq_eq_false_iff_ne.mpr c39
              have c39b1 : (((J49 l0 x4_1).f3) != 0) = true := bne_iff_ne.mpr c39
              obtain rfl := Option.some.inj H
              obtain ⟨hcz75_0, hcz75_1, hcz75_2, hcz75_3, hcz75_4, hcz75_5, hfz75_0, hfz75_1, hfz75_2, hfz75_3, hfz75_4, hfz75_5⟩ := bk6 BK326.out
              go_wp2_with (first | ((with_reducible refine gate_callee (f := 53) rfl ?_); refine goesL_ (some 60) rfl rfl Try.func53 (by kernel_rfl) rfl #[.agg #[.int .i64 ((J49 l0 x4_1).f0), .int .i64 ((J49 l0 x4_1).f1), .int .i64 ((J49 l0 x4_1).f2), .int .i64 ((J49 l0 x4_1).f3), .int .i64 ((J49 l0 x4_1).f4), .int .i64 ((J49 l0 x4_1).f5)]] rfl ags ?_; (with_reducible refine (larchref17_leaf.calls ((J49 l0 x4_1).f0) ((J49 l0 x4_1).f1) ((J49 l0 x4_1).f2) ((J49 l0 x4_1).f3) ((J49 l0 x4_1).f4) ((J49 l0 x4_1).f5) false _ A35.out).mono ?_); rintro e w76 ⟨rfl, hb⟩; refine ⟨_, rfl, ?_⟩; have n0_ := asd (Kd.R_below (skR HO_3.out) hb); have n1_ := asd (blk_below (g := gb326) (o := .cells #[.int .i64 ((J49 l0 x4_1).f0), .int .i64 ((J49 l0 x4_1).f1), .int .i64 ((J49 l0 x4_1).f2), .int .i64 ((J49 l0 x4_1).f3), .int .i64 ((J49 l0 x4_1).f4), .int .i64 ((J49 l0 x4_1).f5)] 49 (0, 0)) (skK BK326.out) hb); have n2_ := asd (below_step (skG HB.out GE326.out GE326.out) hb); clear HO_3; clear BK326; clear HB; have HO_3 := n0_; have BK326 := n1_; have HB := n2_; clear n0_ n1_ n2_; (try clear hb); (try clear hb2); (try clear hk); (try clear hi); obtain ⟨hcz77_0, hcz77_1, hcz77_2, hcz77_3, hcz77_4, hcz77_5, hfz77_0, hfz77_1, hfz77_2, hfz77_3, hfz77_4, hfz77_5⟩ := bk6 BK326.out))
              go_ret
              exact ⟨re, skG HB.out GE326.out GE326.out⟩
        ·
         rw [if_neg c9] at H
         exact absurd H (by simp)
       ·
        rw [if_neg c8] at H
        have c8b0 : decide (x4_1 < (l0.length : Int)) = false := decide_eq_false c8
        clear c8
        have H' := asd H
        clear H
        go_wp2
        go_loopg [6] k1 (fun kq v6 w' => ∃ (x6_2 : Int), v6 = .int .i64 x6_2 ∧ Aside0 (larchref17_Check.l1 kq l0 x3_1 x6_2 = some r) ∧ Aside0 (kq ≤ k1) ∧ Aside0 (Kd.R (Kd.int .i64) 3 w' w.heap.size (fun _ => True) v323 x3_1) ∧ Aside0 (Below w.heap.size w w'))
        case atStart => exact ⟨(1), rs, H', ⟨Nat.le_refl _⟩, ⟨skR HO_3.out⟩, ⟨skB HB.out⟩⟩
        case round =>
         clear H'
         try clear c1
         try clear c2
         try clear c2b0
         try clear c2b1
         try clear p2
         try clear c3
         try clear c3b0
         try clear c3b1
         try clear c3b2
         try clear p3
         try clear q3
         try clear hx3
         try clear c4
         try clear c4b0
         try clear c4b1
         try clear c5
         try clear c5b0
         try clear c5b1
         try clear c6
         try clear p6
         try clear q6
         try clear hx6
         try clear hf6
         try clear c8
         try clear c8b0
         try clear c9
         try clear c9b0
         try clear c13
         try clear c13b0
         try clear c13b1
         try clear c14
         try clear c14b0
         try clear c14b1
         try clear c15
         try clear c15b0
         try clear c15b1
         try clear c16
         try clear c16b0
         try clear c16b1
         try clear c17
         try clear c17b0
         try clear c22
         try clear c22b0
         try clear c25
         try clear c25b0
         try clear c25b1
         try clear c26
         try clear c26b0
         try clear c26b1
         try clear c27
         try clear c27b0
         try clear c27b1
         try clear c28
         try clear c28b0
         try clear p32
         try clear q32
         try clear hx32
         try clear p33
         try clear q33
         try clear hx33
         try clear c34
         try clear c36
         try clear c39
         try clear c39b0
         try clear c39b1
         try clear c40
         try clear c40b0
         try clear c44
         try clear c44b0
         try clear c48
         try clear c48b0
         try clear c52
         try clear c52b0
         try clear c53
         try clear c56
         try clear c56b0
         try clear c56b1
         try clear c60
         try clear c60b0
         try clear c61
         try clear c61b0
         try clear p62
         try clear q62
         try clear hx62
         try clear hf62
         try clear c63
         try clear c63b0
         try clear c64
         try clear c64b0
         try clear p64
         try clear p65
         try clear q65
         try clear hx65
         try clear hf65
         try clear hcz12_0
         try clear hcz12_1
         try clear hcz12_2
         try clear hcz12_3
         try clear hcz12_4
         try clear hcz12_5
         try clear hcz18_0
         try clear hcz18_1
         try clear hcz18_2
         try clear hcz18_3
         try clear hcz18_4
         try clear hcz18_5
         try clear hcz19_0
         try clear hcz19_1
         try clear hcz19_2
         try clear hcz19_3
         try clear hcz19_4
         try clear hcz19_5
         try clear hcz20_0
         try clear hcz20_1
         try clear hcz20_2
         try clear hcz20_3
         try clear hcz20_4
         try clear hcz20_5
         try clear hcz21_0
         try clear hcz21_1
         try clear hcz21_2
         try clear hcz21_3
         try clear hcz21_4
         try clear hcz21_5
         try clear hcz23_0
         try clear hcz23_1
         try clear hcz23_2
         try clear hcz23_3
         try clear hcz23_4
         try clear hcz23_5
         try clear hcz24_0
         try clear hcz24_1
         try clear hcz24_2
         try clear hcz24_3
         try clear hcz24_4
         try clear hcz24_5
         try clear hcz29_0
         try clear hcz29_1
         try clear hcz29_2
         try clear hcz29_3
         try clear hcz29_4
         try clear hcz29_5
         try clear hcz30_0
         try clear hcz30_1
         try clear hcz30_2
         try clear hcz30_3
         try clear hcz30_4
         try clear hcz30_5
         try clear hcz31_0
         try clear hcz31_1
         try clear hcz31_2
         try clear hcz31_3
         try clear hcz31_4
         try clear hcz31_5
         try clear hcz32_0
         try clear hcz32_1
         try clear hcz32_2
         try clear hcz32_3
         try clear hcz32_4
         try clear hcz32_5
         try clear hcz33_0
         try clear hcz33_1
         try clear hcz33_2
         try clear hcz33_3
         try clear hcz33_4
         try clear hcz33_5
         try clear hcz37_0
         try clear hcz37_1
         try clear hcz37_2
         try clear hcz37_3
         try clear hcz37_4
         try clear hcz37_5
         try clear hcz41_0
         try clear hcz41_1
         try clear hcz41_2
         try clear hcz41_3
         try clear hcz41_4
         try clear hcz41_5
         try clear hcz43_0
         try clear hcz43_1
         try clear hcz43_2
         try clear hcz43_3
         try clear hcz43_4
         try clear hcz43_5
         try clear hcz45_0
         try clear hcz45_1
         try clear hcz45_2
         try clear hcz45_3
         try clear hcz45_4
         try clear hcz45_5
         try clear hcz47_0
         try clear hcz47_1
         try clear hcz47_2
         try clear hcz47_3
         try clear hcz47_4
         try clear hcz47_5
         try clear hcz49_0
         try clear hcz49_1
         try clear hcz49_2
         try clear hcz49_3
         try clear hcz49_4
         try clear hcz49_5
         try clear hcz51_0
         try clear hcz51_1
         try clear hcz51_2
         try clear hcz51_3
         try clear hcz51_4
         try clear hcz51_5
         try clear hcz53_0
         try clear hcz53_1
         try clear hcz53_2
         try clear hcz53_3
         try clear hcz53_4
         try clear hcz53_5
         try clear hcz55_0
         try clear hcz55_1
         try clear hcz55_2
         try clear hcz55_3
         try clear hcz55_4
         try clear hcz55_5
         try clear hcz57_0
         try clear hcz57_1
         try clear hcz57_2
         try clear hcz57_3
         try clear hcz57_4
         try clear hcz57_5
         try clear hcz59_0
         try clear hcz59_1
         try clear hcz59_2
         try clear hcz59_3
         try clear hcz59_4
         try clear hcz59_5
         try clear hcz66_0
         try clear hcz66_1
         try clear hcz66_2
         try clear hcz66_3
         try clear hcz66_4
         try clear hcz66_5
         try clear hcz68_0
         try clear hcz68_1
         try clear hcz68_2
         try clear hcz68_3
         try clear hcz68_4
         try clear hcz68_5
         try clear hcz72_0
         try clear hcz72_1
         try clear hcz72_2
         try clear hcz72_3
         try clear hcz72_4
         try clear hcz72_5
         try clear hcz75_0
         try clear hcz75_1
         try clear hcz75_2
         try clear hcz75_3
         try clear hcz75_4
         try clear hcz75_5
         try clear hcz77_0
         try clear hcz77_1
         try clear hcz77_2
         try clear hcz77_3
         try clear hcz77_4
         try clear hcz77_5
         try clear hfz12_0
         try clear hfz12_1
         try clear hfz12_2
         try clear hfz12_3
         try clear hfz12_4
         try clear hfz12_5
         try clear hfz18_0
         try clear hfz18_1
         try clear hfz18_2
         try clear hfz18_3
         try clear hfz18_4
         try clear hfz18_5
         try clear hfz19_0
         try clear hfz19_1
         try clear hfz19_2
         try clear hfz19_3
         try clear hfz19_4
         try clear hfz19_5
         try clear hfz20_0
         try clear hfz20_1
         try clear hfz20_2
         try clear hfz20_3
         try clear hfz20_4
         try clear hfz20_5
         try clear hfz21_0
         try clear hfz21_1
         try clear hfz21_2
         try clear hfz21_3
         try clear hfz21_4
         try clear hfz21_5
         try clear hfz23_0
         try clear hfz23_1
         try clear hfz23_2
         try clear hfz23_3
         try clear hfz23_4
         try clear hfz23_5
         try clear hfz24_0
         try clear hfz24_1
         try clear hfz24_2
         try clear hfz24_3
         try clear hfz24_4
         try clear hfz24_5
         try clear hfz29_0
         try clear hfz29_1
         try clear hfz29_2
         try clear hfz29_3
         try clear hfz29_4
         try clear hfz29_5
         try clear hfz30_0
         try clear hfz30_1
         try clear hfz30_2
         try clear hfz30_3
         try clear hfz30_4
         try clear hfz30_5
         try clear hfz31_0
         try clear hfz31_1
         try clear hfz31_2
         try clear hfz31_3
         try clear hfz31_4
         try clear hfz31_5
         try clear hfz32_0
         try clear hfz32_1
         try clear hfz32_2
         try clear hfz32_3
         try clear hfz32_4
         try clear hfz32_5
         try clear hfz33_0
         try clear hfz33_1
         try clear hfz33_2
         try clear hfz33_3
         try clear hfz33_4
         try clear hfz33_5
         try clear hfz37_0
         try clear hfz37_1
         try clear hfz37_2
         try clear hfz37_3
         try clear hfz37_4
         try clear hfz37_5
         try clear hfz41_0
         try clear hfz41_1
         try clear hfz41_2
         try clear hfz41_3
         try clear hfz41_4
         try clear hfz41_5
         try clear hfz43_0
         try clear hfz43_1
         try clear hfz43_2
         try clear hfz43_3
         try clear hfz43_4
         try clear hfz43_5
         try clear hfz45_0
         try clear hfz45_1
         try clear hfz45_2
         try clear hfz45_3
         try clear hfz45_4
         try clear hfz45_5
         try clear hfz47_0
         try clear hfz47_1
         try clear hfz47_2
         try clear hfz47_3
         try clear hfz47_4
         try clear hfz47_5
         try clear hfz49_0
         try clear hfz49_1
         try clear hfz49_2
         try clear hfz49_3
         try clear hfz49_4
         try clear hfz49_5
         try clear hfz51_0
         try clear hfz51_1
         try clear hfz51_2
         try clear hfz51_3
         try clear hfz51_4
         try clear hfz51_5
         try clear hfz53_0
         try clear hfz53_1
         try clear hfz53_2
         try clear hfz53_3
         try clear hfz53_4
         try clear hfz53_5
         try clear hfz55_0
         try clear hfz55_1
         try clear hfz55_2
         try clear hfz55_3
         try clear hfz55_4
         try clear hfz55_5
         try clear hfz57_0
         try clear hfz57_1
         try clear hfz57_2
         try clear hfz57_3
         try clear hfz57_4
         try clear hfz57_5
         try clear hfz59_0
         try clear hfz59_1
         try clear hfz59_2
         try clear hfz59_3
         try clear hfz59_4
         try clear hfz59_5
         try clear hfz66_0
         try clear hfz66_1
         try clear hfz66_2
         try clear hfz66_3
         try clear hfz66_4
         try clear hfz66_5
         try clear hfz68_0
         try clear hfz68_1
         try clear hfz68_2
         try clear hfz68_3
         try clear hfz68_4
         try clear hfz68_5
         try clear hfz72_0
         try clear hfz72_1
         try clear hfz72_2
         try clear hfz72_3
         try clear hfz72_4
         try clear hfz72_5
         try clear hfz75_0
         try clear hfz75_1
         try clear hfz75_2
         try clear hfz75_3
         try clear hfz75_4
         try clear hfz75_5
         try clear hfz77_0
         try clear hfz77_1
         try clear hfz77_2
         try clear hfz77_3
         try clear hfz77_4
         try clear hfz77_5
         try clear hx325_0
         try clear hx325_1
         try clear hx325_2
         try clear hx325_3
         try clear hx325_4
         try clear hx325_5
         try clear hx328_0
         try clear hx330_0
         try clear hx62_0
         try clear hx65_0
         try clear p2
         try clear p3
         try clear p32
         try clear p325
         try clear p328
         try clear p330
         try clear p62
         try clear p65
         try clear q3
         try clear q32
         try clear q325
         try clear q328
         try clear q330
         try clear q62
         try clear q65
         obtain ⟨x6_2, rfl, HA, HK2, HO_3, HB⟩ := hrel
         cases gk with
         | zero => exact absurd HA.out (by simp [larchref17_Check.l1])
         | succ k2 =>
          have H := HA.out
          clear HA
          simp only [larchref17_Check.l1] at H
          by_cases c78 : x6_2 < (l0.length : Int)
          ·
           rw [if_pos c78] at H
           have c78b0 : decide (x6_2 < (l0.length : Int)) = true := decide_eq_true c78
           clear c78
           by_cases c79 : 0 ≤ x6_2
           ·
            rw [if_pos c79] at H
            have c79b0 : decide (0 ≤ x6_2) = true := decide_eq_true c79
            clear c79
            by_cases c80 : x6_2 < (x3_1.length : Int)
            ·
             rw [if_pos c80] at H
             have c80b0 : decide (x6_2 < (x3_1.length : Int)) = true := decide_eq_true c80
             clear c80
             by_cases c81 : (rd x3_1 x6_2) = 1
             ·
              rw [if_pos c81] at H
              have c81b0 : ((rd x3_1 x6_2) == 1) = true := beq_iff_eq.mpr c81
              have c81b1 : ((rd x3_1 x6_2) != 1) = false := bne_eq_false_iff_eq.mpr c81
              clear c81
              have H' := asd H
              clear H
              obtain ⟨Ao82, co82, eo82⟩ := Kd.R_slice HO_3.out
              subst eo82
              have p332 : 0 ≤ (x6_2 : Int) := dt
              have q332 : x6_2 < (x3_1.length : Int) := dt
              obtain ⟨ad332, e332, hx332_0⟩ := Kd.at_int (Kd.R_reads' HO_3.out).2.2 x6_2 p332 q332
              cases e332
              replace p332 := eq_true p332
              replace q332 := eq_true q332
              go_wp2
              go_roundg k2
              case measure => have := HK1.out; have := HK2.out; omega
              case rel => exact ⟨(wrap64 (x6_2 + 1)), rs, H', ⟨by have := HK1.out; have := HK2.out; omega⟩, ⟨skR HO_3.out⟩, ⟨skB HB.out⟩⟩
             ·
              rw [if_neg c81] at H
              have c81b0 : ((rd x3_1 x6_2) == 1) = false := beq_eq_false_iff_ne.mpr c81
              have c81b1 : ((rd x3_1 x6_2) != 1) = true := bne_iff_ne.mpr c81
              obtain rfl := Option.some.inj H
              obtain ⟨Ao83, co83, eo83⟩ := Kd.R_slice HO_3.out
              subst eo83
              have p332 : 0 ≤ (x6_2 : Int) := dt
              have q332 : x6_2 < (x3_1.length : Int) := dt
              obtain ⟨ad332, e332, hx332_0⟩ := Kd.at_int (Kd.R_reads' HO_3.out).2.2 x6_2 p332 q332
              cases e332
              replace p332 := eq_true p332
              replace q332 := eq_true q332
              go_wp2
              go_ret
              exact ⟨re, skB HB.out⟩
            ·
             rw [if_neg c80] at H
             exact absurd H (by simp)
           ·
            rw [if_neg c79] at H
            exact absurd H (by simp)
          ·
           rw [if_neg c78] at H
           have c78b0 : decide (x6_2 < (l0.length : Int)) = false := decide_eq_false c78
           clear c78
           by_cases c84 : 0 < (x3_1.length : Int)
           ·
            rw [if_pos c84] at H
            have c84b0 : decide (0 < (x3_1.length : Int)) = true := decide_eq_true c84
            have c84b1 : decide (0 < x3_1.length) = true := decide_eq_true (by omega)
            clear c84
            by_cases c85 : (rd x3_1 0) = 0
            ·
             rw [if_pos c85] at H
             have c85b0 : ((rd x3_1 0) == 0) = true := beq_iff_eq.mpr c85
             have c85b1 : ((rd x3_1 0) != 0) = false := bne_eq_false_iff_eq.mpr c85
             clear c85
             replace H := Option.bind_eq_some_iff.mp H
             obtain ⟨t334, A860, H⟩ := H
             replace H : (if (t334.length : Int) = (l0.length : Int) then (some 0) else (some 3)) = some r := H
             have A86 := asd A860
             clear A860
             by_cases c87 : (t334.length : Int) = (l0.length : Int)
             ·
              rw [if_pos c87] at H
              have c87b0 : ((t334.length : Int) == (l0.length : Int)) = true := beq_iff_eq.mpr c87
              have c87b1 : ((t334.length : Int) != (l0.length : Int)) = false := bne_eq_false_iff_eq.mpr c87
              have c87b2 : (t334.length == l0.length) = true := by first | simpa using c87 | (simp at c87 ⊢; omega)
              clear c87
              obtain rfl := Option.some.inj H
              obtain ⟨Ao88, co88, eo88⟩ := Kd.R_slice HO_3.out
              subst eo88
              have p333 : 0 ≤ (0 : Int) := (by omega)
              have q333 : 0 < (x3_1.length : Int) := dt
              obtain ⟨ad333, e333, hx333_0⟩ := Kd.at_int (Kd.R_reads' HO_3.out).2.2 0 p333 q333
              cases e333
              have qi333 : (0 < x3_1.length) = True := eq_true (by omega)
              (try rw [show ((0 : Int)).toNat = 0 from rfl] at hx333_0)
              (try rw [Addr.add_zero'] at hx333_0)
              replace p333 := eq_true p333
              replace q333 := eq_true q333
              go_wp2_with (first | (go_at_call 27; (with_reducible refine (larchref17_Order.calls k2 _ _ l0 0 t334 _ ?side1 ?side2 A86.out).mono ?_); (case side1 => exact skC (Kd.C_below HR0.out HB.out)); (case side2 => exact HC0.out); rintro e w89 ⟨v335, rfl, ho0, hb⟩; have n0_ := asd (Kd.R_elder' (skR HO_3.out) (Kd.R_base ho0) hb); have n1_ := asd (Kd.R_lower (Kd.R_new' ho0 (Kd.R_lt (skR HO_3.out))) (below_size (skB HB.out))); have n2_ := asd (below_step (skB HB.out) hb); clear HO_3; clear HB; have HO_3 := n0_; have HO336 := n1_; have HB := n2_; clear n0_ n1_ n2_; (try clear hb); (try clear hb2); (try clear hk); (try clear hi); (try clear ho0); obtain ⟨Ao90, co90, eo90⟩ := Kd.R_slice HO336.out; subst eo90))
              go_ret
              exact ⟨re, skB HB.out⟩
             ·
              rw [if_neg c87] at H
              have c87b0 : ((t334.length : Int) == (l0.length : Int)) = false := beq_eq_false_iff_ne.mpr c87
              have c87b1 : ((t334.length : Int) != (l0.length : Int)) = true := bne_iff_ne.mpr c87
              have c87b2 : (t334.length == l0.length) = false := by first | simpa using c87 | (simp at c87 ⊢; omega)
              obtain rfl := Option.some.inj H
              obtain ⟨Ao91, co91, eo91⟩ := Kd.R_slice HO_3.out
              subst eo91
              have p333 : 0 ≤ (0 : Int) := (by omega)
              have q333 : 0 < (x3_1.length : Int) := dt
              obtain ⟨ad333, e333, hx333_0⟩ := Kd.at_int (Kd.R_reads' HO_3.out).2.2 0 p333 q333
              cases e333
              have qi333 : (0 < x3_1.length) = True := eq_true (by omega)
              (try rw [show ((0 : Int)).toNat = 0 from rfl] at hx333_0)
              (try rw [Addr.add_zero'] at hx333_0)
              replace p333 := eq_true p333
              replace q333 := eq_true q333
              go_wp2_with (first | (go_at_call 27; (with_reducible refine (larchref17_Order.calls k2 _ _ l0 0 t334 _ ?side1 ?side2 A86.out).mono ?_); (case side1 => exact skC (Kd.C_below HR0.out HB.out)); (case side2 => exact HC0.out); rintro e w92 ⟨v335, rfl, ho0, hb⟩; have n0_ := asd (Kd.R_elder' (skR HO_3.out) (Kd.R_base ho0) hb); have n1_ := asd (Kd.R_lower (Kd.R_new' ho0 (Kd.R_lt (skR HO_3.out))) (below_size (skB HB.out))); have n2_ := asd (below_step (skB HB.out) hb); clear HO_3; clear HB; have HO_3 := n0_; have HO336 := n1_; have HB := n2_; clear n0_ n1_ n2_; (try clear hb); (try clear hb2); (try clear hk); (try clear hi); (try clear ho0); obtain ⟨Ao93, co93, eo93⟩ := Kd.R_slice HO336.out; subst eo93))
              go_ret
              exact ⟨re, skB HB.out⟩
            ·
             rw [if_neg c85] at H
             have c85b0 : ((rd x3_1 0) == 0) = false := beq_eq_false_iff_ne.mpr c85
             have c85b1 : ((rd x3_1 0) != 0) = true := bne_iff_ne.mpr c85
             obtain rfl := Option.some.inj H
             obtain ⟨Ao94, co94, eo94⟩ := Kd.R_slice HO_3.out
             subst eo94
             have p333 : 0 ≤ (0 : Int) := (by omega)
             have q333 : 0 < (x3_1.length : Int) := dt
             obtain ⟨ad333, e333, hx333_0⟩ := Kd.at_int (Kd.R_reads' HO_3.out).2.2 0 p333 q333
             cases e333
             have qi333 : (0 < x3_1.length) = True := eq_true (by omega)
             (try rw [show ((0 : Int)).toNat = 0 from rfl] at hx333_0)
             (try rw [Addr.add_zero'] at hx333_0)
             replace p333 := eq_true p333
             replace q333 := eq_true q333
             go_wp2
             go_ret
             exact ⟨re, skB HB.out⟩
           ·
            rw [if_neg c84] at H
            exact absurd H (by simp)
    ·
     rw [if_neg c5] at H
     exact absurd H (by simp)
   ·
    rw [if_neg c4] at H
    exact absurd H (by simp)
end Go.Proofs.Ytmmjkebboonnkaa.P
/- F30 -/
namespace Go.Proofs.Ytmmjkebboonnkaa.P
open Go.RowKit Go.Proofs.YtmmjkebboonnkaaW.PrintWords Go.Proofs.YtmmjkebboonnkaaW.PrintLast Go.Proofs.YtmmjkebboonnkaaW.PrintMore
attribute [local go_sem] max2_int min2_int max_two min_two max_three min_three max_four min_four   -- for this text's walks alone
set_option linter.unusedVariables false
set_option linter.unusedSimpArgs false
def larchref17_sentinel.f (a0_0 : Int) (a0_1 : Int) (a0_2 : Int) (a0_3 : Int) (a0_4 : Int) (a0_5 : Int) : Option (Bool) := (larchref17_leaf.f a0_0 a0_1 a0_2 a0_3 a0_4 a0_5).bind fun t304 => (if t304 = true then (if a0_1 = 1 then (some (a0_2 == 1)) else (some false)) else (some false))
set_option maxHeartbeats 8000000 in
set_option maxRecDepth 100000 in
theorem larchref17_sentinel.calls (a0_0 : Int) (a0_1 : Int) (a0_2 : Int) (a0_3 : Int) (a0_4 : Int) (a0_5 : Int) (r : Bool) (w : World) (h : larchref17_sentinel.f a0_0 a0_1 a0_2 a0_3 a0_4 a0_5 = some r) :
  Calls Try.prog 54 #[.agg #[.int .i64 a0_0, .int .i64 a0_1, .int .i64 a0_2, .int .i64 a0_3, .int .i64 a0_4, .int .i64 a0_5]] w fun e w' => e = .returned (.bool r) ∧ Below w.heap.size w w' := by
 have hu49 := Try.underlying49
 have HB := asd (Below.refl w.heap.size w)
 have H : ((larchref17_leaf.f a0_0 a0_1 a0_2 a0_3 a0_4 a0_5).bind fun t304 => (if t304 = true then (if a0_1 = 1 then (some (a0_2 == 1)) else (some false)) else (some false))) = some r := h
 clear h
 replace H := Option.bind_eq_some_iff.mp H
 obtain ⟨t304, A20, H⟩ := H
 replace H : (if t304 = true then (if a0_1 = 1 then (some (a0_2 == 1)) else (some false)) else (some false)) = some r := H
 have A2 := asd A20
 clear A20
 by_cases c3 : t304 = true
 ·
  subst c3
  have H1 : (if a0_1 = 1 then (some (a0_2 == 1)) else (some false)) = some r := by rw [if_pos rfl] at H; exact H
  clear H
  have H := H1
  clear H1
  by_cases c4 : a0_1 = 1
  ·
   rw [if_pos c4] at H
   have c4b0 : (a0_1 == 1) = true := beq_iff_eq.mpr c4
   have c4b1 : (a0_1 != 1) = false := bne_eq_false_iff_eq.mpr c4
   clear c4
   obtain rfl := Option.some.inj H
   go_enter Try.func54, Try.ntmps54
   go_wp2_with (first | ((with_reducible refine gate_dst (N := 1) rfl ?_); refine box_event ?hg (N := 1) ?hd (cs := #[.int .i64 a0_0, .int .i64 a0_1, .int .i64 a0_2, .int .i64 a0_3, .int .i64 a0_4, .int .i64 a0_5]) (t := 49) ?hr ?_; (case hd => rfl); (case hg => rfl); (case hr => first | (go_simp; done) | (go_simp; rfl)); intro gb303 hg w5 hbox hb; have n0_ := asd (below_step (skB HB.out) hb); have n1_ := asd (hbox); have n2_ := asd ((by rw [hg]; exact (below_size (skB HB.out)) : w.heap.size ≤ gb303)); have n3_ := asd ((by rw [hg]; exact (below_size (skB HB.out)) : w.heap.size ≤ gb303)); clear HB; have HB := n0_; have BK303 := n1_; have GW303 := n2_; have GE303 := n3_; clear n0_ n1_ n2_ n3_; clear hb hbox hg; obtain ⟨hcz6_0, hcz6_1, hcz6_2, hcz6_3, hcz6_4, hcz6_5, hfz6_0, hfz6_1, hfz6_2, hfz6_3, hfz6_4, hfz6_5⟩ := bk6 BK303.out) | ((with_reducible refine gate_callee (f := 53) rfl ?_); refine goesL_ (some 4) rfl rfl Try.func53 (by kernel_rfl) rfl #[.agg #[.int .i64 a0_0, .int .i64 a0_1, .int .i64 a0_2, .int .i64 a0_3, .int .i64 a0_4, .int .i64 a0_5]] rfl ags ?_; (with_reducible refine (larchref17_leaf.calls a0_0 a0_1 a0_2 a0_3 a0_4 a0_5 true _ A2.out).mono ?_); rintro e w7 ⟨rfl, hb⟩; refine ⟨_, rfl, ?_⟩; have n0_ := asd (blk_below (g := gb303) (o := .cells #[.int .i64 a0_0, .int .i64 a0_1, .int .i64 a0_2, .int .i64 a0_3, .int .i64 a0_4, .int .i64 a0_5] 49 (0, 0)) (skK BK303.out) hb); have n1_ := asd (below_step (skG HB.out GE303.out GE303.out) hb); clear BK303; clear HB; have BK303 := n0_; have HB := n1_; clear n0_ n1_; (try clear hb); (try clear hb2); (try clear hk); (try clear hi); obtain ⟨hcz8_0, hcz8_1, hcz8_2, hcz8_3, hcz8_4, hcz8_5, hfz8_0, hfz8_1, hfz8_2, hfz8_3, hfz8_4, hfz8_5⟩ := bk6 BK303.out))
   go_ret
   exact ⟨re, skG HB.out GE303.out GE303.out⟩
  ·
   rw [if_neg c4] at H
   have c4b0 : (a0_1 == 1) = false := beq_eq_false_iff_ne.mpr c4
   have c4b1 : (a0_1 != 1) = true := bne_iff_ne.mpr c4
   obtain rfl := Option.some.inj H
   go_enter Try.func54, Try.ntmps54
   go_wp2_with (first | ((with_reducible refine gate_dst (N := 1) rfl ?_); refine box_event ?hg (N := 1) ?hd (cs := #[.int .i64 a0_0, .int .i64 a0_1, .int .i64 a0_2, .int .i64 a0_3, .int .i64 a0_4, .int .i64 a0_5]) (t := 49) ?hr ?_; (case hd => rfl); (case hg => rfl); (case hr => first | (go_simp; done) | (go_simp; rfl)); intro gb303 hg w9 hbox hb; have n0_ := asd (below_step (skB HB.out) hb); have n1_ := asd (hbox); have n2_ := asd ((by rw [hg]; exact (below_size (skB HB.out)) : w.heap.size ≤ gb303)); have n3_ := asd ((by rw [hg]; exact (below_size (skB HB.out)) : w.heap.size ≤ gb303)); clear HB; have HB := n0_; have BK303 := n1_; have GW303 := n2_; have GE303 := n3_; clear n0_ n1_ n2_ n3_; clear hb hbox hg; obtain ⟨hcz10_0, hcz10_1, hcz10_2, hcz10_3, hcz10_4, hcz10_5, hfz10_0, hfz10_1, hfz10_2, hfz10_3, hfz10_4, hfz10_5⟩ := bk6 BK303.out) | ((with_reducible refine gate_callee (f := 53) rfl ?_); refine goesL_ (some 4) rfl rfl Try.func53 (by kernel_rfl) rfl #[.agg #[.int .i64 a0_0, .int .i64 a0_1, .int .i64 a0_2, .int .i64 a0_3, .int .i64 a0_4, .int .i64 a0_5]] rfl ags ?_; (with_reducible refine (larchref17_leaf.calls a0_0 a0_1 a0_2 a0_3 a0_4 a0_5 true _ A2.out).mono ?_); rintro e w11 ⟨rfl, hb⟩; refine ⟨_, rfl, ?_⟩; have n0_ := asd (blk_below (g := gb303) (o := .cells #[.int .i64 a0_0, .int .i64 a0_1, .int .i64 a0_2, .int .i64 a0_3, .int .i64 a0_4, .int .i64 a0_5] 49 (0, 0)) (skK BK303.out) hb); have n1_ := asd (below_step (skG HB.out GE303.out GE303.out) hb); clear BK303; clear HB; have BK303 := n0_; have HB := n1_; clear n0_ n1_; (try clear hb); (try clear hb2); (try clear hk); (try clear hi); obtain ⟨hcz12_0, hcz12_1, hcz12_2, hcz12_3, hcz12_4, hcz12_5, hfz12_0, hfz12_1, hfz12_2, hfz12_3, hfz12_4, hfz12_5⟩ := bk6 BK303.out))
   go_ret
   exact ⟨re, skG HB.out GE303.out GE303.out⟩
 ·
  replace c3 := Bool.eq_false_iff.mpr c3
  subst c3
  have H1 : (some false) = some r := by rw [if_neg (show ¬ (false = true) by decide)] at H; exact H
  clear H
  have H := H1
  clear H1
  obtain rfl := Option.some.inj H
  go_enter Try.func54, Try.ntmps54
  go_wp2_with (first | ((with_reducible refine gate_dst (N := 1) rfl ?_); refine box_event ?hg (N := 1) ?hd (cs := #[.int .i64 a0_0, .int .i64 a0_1, .int .i64 a0_2, .int .i64 a0_3, .int .i64 a0_4, .int .i64 a0_5]) (t := 49) ?hr ?_; (case hd => rfl); (case hg => rfl); (case hr => first | (go_simp; done) | (go_simp; rfl)); intro gb303 hg w13 hbox hb; have n0_ := asd (below_step (skB HB.out) hb); have n1_ := asd (hbox); have n2_ := asd ((by rw [hg]; exact (below_size (skB HB.out)) : w.heap.size ≤ gb303)); have n3_ := asd ((by rw [hg]; exact (below_size (skB HB.out)) : w.heap.size ≤ gb303)); clear HB; have HB := n0_; have BK303 := n1_; have GW303 := n2_; have GE303 := n3_; clear n0_ n1_ n2_ n3_; clear hb hbox hg; obtain ⟨hcz14_0, hcz14_1, hcz14_2, hcz14_3, hcz14_4, hcz14_5, hfz14_0, hfz14_1, hfz14_2, hfz14_3, hfz14_4, hfz14_5⟩ := bk6 BK303.out) | ((with_reducible refine gate_callee (f := 53) rfl ?_); refine goesL_ (some 4) rfl rfl Try.func53 (by kernel_rfl) rfl #[.agg #[.int .i64 a0_0, .int .i64 a0_1, .int .i64 a0_2, .int .i64 a0_3, .int .i64 a0_4, .int .i64 a0_5]] rfl ags ?_; (with_reducible refine (larchref17_leaf.calls a0_0 a0_1 a0_2 a0_3 a0_4 a0_5 false _ A2.out).mono ?_); rintro e w15 ⟨rfl, hb⟩; refine ⟨_, rfl, ?_⟩; have n0_ := asd (blk_below (g := gb303) (o := .cells #[.int .i64 a0_0, .int .i64 a0_1, .int .i64 a0_2, .int .i64 a0_3, .int .i64 a0_4, .int .i64 a0_5] 49 (0, 0)) (skK BK303.out) hb); have n1_ := asd (below_step (skG HB.out GE303.out GE303.out) hb); clear BK303; clear HB; have BK303 := n0_; have HB := n1_; clear n0_ n1_; (try clear hb); (try clear hb2); (try clear hk); (try clear hi)))
  go_ret
  exact ⟨re, skG HB.out GE303.out GE303.out⟩
end Go.Proofs.Ytmmjkebboonnkaa.P
