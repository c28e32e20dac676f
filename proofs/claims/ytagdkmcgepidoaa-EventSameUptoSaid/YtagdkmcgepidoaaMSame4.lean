/- P.eventSame_holds, part 5 of 23: the contracts of the Go functions that the law calls, its own walk, and its plain law, for every input that the statement speaks of. -/
import Derived.Test.YtagdkmcgepidoaaMSame2
import Derived.Test.YtagdkmcgepidoaaMSame1
import Derived.Test.YtagdkmcgepidoaaMSame3
set_option linter.unusedVariables false
set_option linter.unusedSimpArgs false
/- F9 -/
namespace Go.Proofs.Ytagdkmcgepidoaa.P
open Go.RowKit Go.Proofs.YtagdkmcgepidoaaW.PrintWords Go.Proofs.YtagdkmcgepidoaaW.PrintLast Go.Proofs.YtagdkmcgepidoaaW.PrintMore
attribute [local go_sem] max2_int min2_int max_two min_two max_three min_three max_four min_four   -- for this text's walks alone
set_option linter.unusedVariables false
set_option linter.unusedSimpArgs false
def event_ahead.f (a0_0 : Int) (a0_1 : Int) (a0_2 : Int) (a0_3 : Int) (a0_4 : Int) (a0_5 : Bool) (a0_6 : Int) (a0_7 : Int) (l0_8 : List (S70)) (a0_9 : Int) (a0_10 : Int) (a1_0 : Int) (a1_1 : Int) (a1_2 : Int) (a1_3 : Int) (a1_4 : Int) (a1_5 : Bool) (a1_6 : Int) (a1_7 : Int) (l1_8 : List (S70)) (a1_9 : Int) (a1_10 : Int) : Option (Bool) := if a0_10 ≥ 0 then (some (decide (a0_10 < a1_9))) else (some false)
set_option maxHeartbeats 8000000 in
set_option maxRecDepth 100000 in
theorem event_ahead.calls (a0_0 : Int) (a0_1 : Int) (a0_2 : Int) (a0_3 : Int) (a0_4 : Int) (a0_5 : Bool) (a0_6 : Int) (a0_7 : Int) (A0_8 : Option Addr) (c0_8 : Nat) (l0_8 : List (S70)) (a0_9 : Int) (a0_10 : Int) (a1_0 : Int) (a1_1 : Int) (a1_2 : Int) (a1_3 : Int) (a1_4 : Int) (a1_5 : Bool) (a1_6 : Int) (a1_7 : Int) (A1_8 : Option Addr) (c1_8 : Nat) (l1_8 : List (S70)) (a1_9 : Int) (a1_10 : Int) (r : Bool) (w : World) (hr0_8 : Kd.C k70 w A0_8 l0_8.length l0_8) (hc0_8 : l0_8.length ≤ c0_8) (hr1_8 : Kd.C k70 w A1_8 l1_8.length l1_8) (hc1_8 : l1_8.length ≤ c1_8) (h : event_ahead.f a0_0 a0_1 a0_2 a0_3 a0_4 a0_5 a0_6 a0_7 l0_8 a0_9 a0_10 a1_0 a1_1 a1_2 a1_3 a1_4 a1_5 a1_6 a1_7 l1_8 a1_9 a1_10 = some r) :
  Calls Try.prog 47 #[.agg #[.int .i64 a0_0, .int .i64 a0_1, .int .i64 a0_2, .int .i64 a0_3, .int .i64 a0_4, .bool a0_5, .int .i64 a0_6, .int .i64 a0_7, .slice A0_8 l0_8.length c0_8, .int .i64 a0_9, .int .i64 a0_10], .agg #[.int .i64 a1_0, .int .i64 a1_1, .int .i64 a1_2, .int .i64 a1_3, .int .i64 a1_4, .bool a1_5, .int .i64 a1_6, .int .i64 a1_7, .slice A1_8 l1_8.length c1_8, .int .i64 a1_9, .int .i64 a1_10]] w fun e w' => e = .returned (.bool r) ∧ Below w.heap.size w w' := by
 have hu38 := Try.underlying38
 have HR0_8 := asd hr0_8
 have HC0_8 := asd hc0_8
 clear hr0_8 hc0_8
 have HR1_8 := asd hr1_8
 have HC1_8 := asd hc1_8
 clear hr1_8 hc1_8
 have HB := asd (Below.refl w.heap.size w)
 have H : (if a0_10 ≥ 0 then (some (decide (a0_10 < a1_9))) else (some false)) = some r := h
 clear h
 by_cases c3 : a0_10 ≥ 0
 ·
  rw [if_pos c3] at H
  have c3b0 : decide (0 ≤ a0_10) = true := decide_eq_true c3
  clear c3
  obtain rfl := Option.some.inj H
  go_enter Try.func47, Try.ntmps47
  go_wp2_with (first | ((with_reducible refine gate_dst (N := 2) rfl ?_); refine box_event ?hg (N := 2) ?hd (cs := #[.int .i64 a0_0, .int .i64 a0_1, .int .i64 a0_2, .int .i64 a0_3, .int .i64 a0_4, .bool a0_5, .int .i64 a0_6, .int .i64 a0_7, .slice A0_8 l0_8.length c0_8, .int .i64 a0_9, .int .i64 a0_10]) (t := 38) ?hr ?_; (case hd => rfl); (case hg => rfl); (case hr => first | (go_simp; done) | (go_simp; rfl)); intro gb111 hg w4 hbox hb; have n0_ := asd (below_step (skB HB.out) hb); have n1_ := asd (hbox); have n2_ := asd ((by rw [hg]; exact (below_size (skB HB.out)) : w.heap.size ≤ gb111)); have n3_ := asd ((by rw [hg]; exact (below_size (skB HB.out)) : w.heap.size ≤ gb111)); clear HB; have HB := n0_; have BK111 := n1_; have GW111 := n2_; have GE111 := n3_; clear n0_ n1_ n2_ n3_; clear hb hbox hg) | ((with_reducible refine gate_dst (N := 3) rfl ?_); refine box_event ?hg (N := 3) ?hd (cs := #[.int .i64 a1_0, .int .i64 a1_1, .int .i64 a1_2, .int .i64 a1_3, .int .i64 a1_4, .bool a1_5, .int .i64 a1_6, .int .i64 a1_7, .slice A1_8 l1_8.length c1_8, .int .i64 a1_9, .int .i64 a1_10]) (t := 38) ?hr ?_; (case hd => rfl); (case hg => rfl); (case hr => first | (go_simp; done) | (go_simp; rfl)); intro gb112 hg w5 hbox hb; have n0_ := asd (blk_below (g := gb111) (o := .cells #[.int .i64 a0_0, .int .i64 a0_1, .int .i64 a0_2, .int .i64 a0_3, .int .i64 a0_4, .bool a0_5, .int .i64 a0_6, .int .i64 a0_7, .slice A0_8 l0_8.length c0_8, .int .i64 a0_9, .int .i64 a0_10] 38 (0, 0)) (skK BK111.out) hb); have n1_ := asd (below_step (skG HB.out GE111.out GE111.out) hb); have n2_ := asd (hbox); have n3_ := asd ((by rw [hg]; exact (below_size (skG HB.out GE111.out GE111.out)) : w.heap.size ≤ gb112)); have n4_ := asd ((by rw [hg]; exact (below_size (skG HB.out GE111.out GE111.out)) : w.heap.size ≤ gb112)); have n5_ := asd ((by rw [hg]; exact Nat.ne_of_lt (blk_lt (g := gb111) (o := .cells #[.int .i64 a0_0, .int .i64 a0_1, .int .i64 a0_2, .int .i64 a0_3, .int .i64 a0_4, .bool a0_5, .int .i64 a0_6, .int .i64 a0_7, .slice A0_8 l0_8.length c0_8, .int .i64 a0_9, .int .i64 a0_10] 38 (0, 0)) (skK BK111.out)) : gb111 ≠ gb112)); have n6_ := asd ((by rw [hg]; exact Nat.ne_of_gt (blk_lt (g := gb111) (o := .cells #[.int .i64 a0_0, .int .i64 a0_1, .int .i64 a0_2, .int .i64 a0_3, .int .i64 a0_4, .bool a0_5, .int .i64 a0_6, .int .i64 a0_7, .slice A0_8 l0_8.length c0_8, .int .i64 a0_9, .int .i64 a0_10] 38 (0, 0)) (skK BK111.out)) : gb112 ≠ gb111)); clear BK111; clear HB; have BK111 := n0_; have HB := n1_; have BK112 := n2_; have GW112 := n3_; have GE112 := n4_; have NB111_112 := n5_; have NB112_111 := n6_; clear n0_ n1_ n2_ n3_ n4_ n5_ n6_; clear hb hbox hg; have hnb6 := NB111_112.out; have hnc6 := NB112_111.out; have hcz7_0 : w5.cell? ⟨gb111, 0, none⟩ = some (.int .i64 a0_0) := (blk_cell BK111.out 0).trans rfl; have hcz7_1 : w5.cell? ⟨gb111, 1, none⟩ = some (.int .i64 a0_1) := (blk_cell BK111.out 1).trans rfl; have hcz7_2 : w5.cell? ⟨gb111, 2, none⟩ = some (.int .i64 a0_2) := (blk_cell BK111.out 2).trans rfl; have hcz7_3 : w5.cell? ⟨gb111, 3, none⟩ = some (.int .i64 a0_3) := (blk_cell BK111.out 3).trans rfl; have hcz7_4 : w5.cell? ⟨gb111, 4, none⟩ = some (.int .i64 a0_4) := (blk_cell BK111.out 4).trans rfl; have hcz7_5 : w5.cell? ⟨gb111, 5, none⟩ = some (.bool a0_5) := (blk_cell BK111.out 5).trans rfl; have hcz7_6 : w5.cell? ⟨gb111, 6, none⟩ = some (.int .i64 a0_6) := (blk_cell BK111.out 6).trans rfl; have hcz7_7 : w5.cell? ⟨gb111, 7, none⟩ = some (.int .i64 a0_7) := (blk_cell BK111.out 7).trans rfl; have hcz7_8 : w5.cell? ⟨gb111, 8, none⟩ = some (.slice A0_8 l0_8.length c0_8) := (blk_cell BK111.out 8).trans rfl; have hcz7_9 : w5.cell? ⟨gb111, 9, none⟩ = some (.int .i64 a0_9) := (blk_cell BK111.out 9).trans rfl; have hcz7_10 : w5.cell? ⟨gb111, 10, none⟩ = some (.int .i64 a0_10) := (blk_cell BK111.out 10).trans rfl; have hfz7_0 := blk_frozen BK111.out 0; have hfz7_1 := blk_frozen BK111.out 1; have hfz7_2 := blk_frozen BK111.out 2; have hfz7_3 := blk_frozen BK111.out 3; have hfz7_4 := blk_frozen BK111.out 4; have hfz7_5 := blk_frozen BK111.out 5; have hfz7_6 := blk_frozen BK111.out 6; have hfz7_7 := blk_frozen BK111.out 7; have hfz7_8 := blk_frozen BK111.out 8; have hfz7_9 := blk_frozen BK111.out 9; have hfz7_10 := blk_frozen BK111.out 10; have hcz8_0 : w5.cell? ⟨gb112, 0, none⟩ = some (.int .i64 a1_0) := (blk_cell BK112.out 0).trans rfl; have hcz8_1 : w5.cell? ⟨gb112, 1, none⟩ = some (.int .i64 a1_1) := (blk_cell BK112.out 1).trans rfl; have hcz8_2 : w5.cell? ⟨gb112, 2, none⟩ = some (.int .i64 a1_2) := (blk_cell BK112.out 2).trans rfl; have hcz8_3 : w5.cell? ⟨gb112, 3, none⟩ = some (.int .i64 a1_3) := (blk_cell BK112.out 3).trans rfl; have hcz8_4 : w5.cell? ⟨gb112, 4, none⟩ = some (.int .i64 a1_4) := (blk_cell BK112.out 4).trans rfl; have hcz8_5 : w5.cell? ⟨gb112, 5, none⟩ = some (.bool a1_5) := (blk_cell BK112.out 5).trans rfl; have hcz8_6 : w5.cell? ⟨gb112, 6, none⟩ = some (.int .i64 a1_6) := (blk_cell BK112.out 6).trans rfl; have hcz8_7 : w5.cell? ⟨gb112, 7, none⟩ = some (.int .i64 a1_7) := (blk_cell BK112.out 7).trans rfl; have hcz8_8 : w5.cell? ⟨gb112, 8, none⟩ = some (.slice A1_8 l1_8.length c1_8) := (blk_cell BK112.out 8).trans rfl; have hcz8_9 : w5.cell? ⟨gb112, 9, none⟩ = some (.int .i64 a1_9) := (blk_cell BK112.out 9).trans rfl; have hcz8_10 : w5.cell? ⟨gb112, 10, none⟩ = some (.int .i64 a1_10) := (blk_cell BK112.out 10).trans rfl; have hfz8_0 := blk_frozen BK112.out 0; have hfz8_1 := blk_frozen BK112.out 1; have hfz8_2 := blk_frozen BK112.out 2; have hfz8_3 := blk_frozen BK112.out 3; have hfz8_4 := blk_frozen BK112.out 4; have hfz8_5 := blk_frozen BK112.out 5; have hfz8_6 := blk_frozen BK112.out 6; have hfz8_7 := blk_frozen BK112.out 7; have hfz8_8 := blk_frozen BK112.out 8; have hfz8_9 := blk_frozen BK112.out 9; have hfz8_10 := blk_frozen BK112.out 10))
  go_ret
  exact ⟨re, skG HB.out GE111.out GE112.out⟩
 ·
  rw [if_neg c3] at H
  have c3b0 : decide (0 ≤ a0_10) = false := decide_eq_false c3
  clear c3
  obtain rfl := Option.some.inj H
  go_enter Try.func47, Try.ntmps47
  go_wp2_with (first | ((with_reducible refine gate_dst (N := 2) rfl ?_); refine box_event ?hg (N := 2) ?hd (cs := #[.int .i64 a0_0, .int .i64 a0_1, .int .i64 a0_2, .int .i64 a0_3, .int .i64 a0_4, .bool a0_5, .int .i64 a0_6, .int .i64 a0_7, .slice A0_8 l0_8.length c0_8, .int .i64 a0_9, .int .i64 a0_10]) (t := 38) ?hr ?_; (case hd => rfl); (case hg => rfl); (case hr => first | (go_simp; done) | (go_simp; rfl)); intro gb111 hg w9 hbox hb; have n0_ := asd (below_step (skB HB.out) hb); have n1_ := asd (hbox); have n2_ := asd ((by rw [hg]; exact (below_size (skB HB.out)) : w.heap.size ≤ gb111)); have n3_ := asd ((by rw [hg]; exact (below_size (skB HB.out)) : w.heap.size ≤ gb111)); clear HB; have HB := n0_; have BK111 := n1_; have GW111 := n2_; have GE111 := n3_; clear n0_ n1_ n2_ n3_; clear hb hbox hg) | ((with_reducible refine gate_dst (N := 3) rfl ?_); refine box_event ?hg (N := 3) ?hd (cs := #[.int .i64 a1_0, .int .i64 a1_1, .int .i64 a1_2, .int .i64 a1_3, .int .i64 a1_4, .bool a1_5, .int .i64 a1_6, .int .i64 a1_7, .slice A1_8 l1_8.length c1_8, .int .i64 a1_9, .int .i64 a1_10]) (t := 38) ?hr ?_; (case hd => rfl); (case hg => rfl); (case hr => first | (go_simp; done) | (go_simp; rfl)); intro gb112 hg w10 hbox hb; have n0_ := asd (blk_below (g := gb111) (o := .cells #[.int .i64 a0_0, .int .i64 a0_1, .int .i64 a0_2, .int .i64 a0_3, .int .i64 a0_4, .bool a0_5, .int .i64 a0_6, .int .i64 a0_7, .slice A0_8 l0_8.length c0_8, .int .i64 a0_9, .int .i64 a0_10] 38 (0, 0)) (skK BK111.out) hb); have n1_ := asd (below_step (skG HB.out GE111.out GE111.out) hb); have n2_ := asd (hbox); have n3_ := asd ((by rw [hg]; exact (below_size (skG HB.out GE111.out GE111.out)) : w.heap.size ≤ gb112)); have n4_ := asd ((by rw [hg]; exact (below_size (skG HB.out GE111.out GE111.out)) : w.heap.size ≤ gb112)); have n5_ := asd ((by rw [hg]; exact Nat.ne_of_lt (blk_lt (g := gb111) (o := .cells #[.int .i64 a0_0, .int .i64 a0_1, .int .i64 a0_2, .int .i64 a0_3, .int .i64 a0_4, .bool a0_5, .int .i64 a0_6, .int .i64 a0_7, .slice A0_8 l0_8.length c0_8, .int .i64 a0_9, .int .i64 a0_10] 38 (0, 0)) (skK BK111.out)) : gb111 ≠ gb112)); have n6_ := asd ((by rw [hg]; exact Nat.ne_of_gt (blk_lt (g := gb111) (o := .cells #[.int .i64 a0_0, .int .i64 a0_1, .int .i64 a0_2, .int .i64 a0_3, .int .i64 a0_4, .bool a0_5, .int .i64 a0_6, .int .i64 a0_7, .slice A0_8 l0_8.length c0_8, .int .i64 a0_9, .int .i64 a0_10] 38 (0, 0)) (skK BK111.out)) : gb112 ≠ gb111)); clear BK111; clear HB; have BK111 := n0_; have HB := n1_; have BK112 := n2_; have GW112 := n3_; have GE112 := n4_; have NB111_112 := n5_; have NB112_111 := n6_; clear n0_ n1_ n2_ n3_ n4_ n5_ n6_; clear hb hbox hg; have hnb11 := NB111_112.out; have hnc11 := NB112_111.out; have hcz12_0 : w10.cell? ⟨gb111, 0, none⟩ = some (.int .i64 a0_0) := (blk_cell BK111.out 0).trans rfl; have hcz12_1 : w10.cell? ⟨gb111, 1, none⟩ = some (.int .i64 a0_1) := (blk_cell BK111.out 1).trans rfl; have hcz12_2 : w10.cell? ⟨gb111, 2, none⟩ = some (.int .i64 a0_2) := (blk_cell BK111.out 2).trans rfl; have hcz12_3 : w10.cell? ⟨gb111, 3, none⟩ = some (.int .i64 a0_3) := (blk_cell BK111.out 3).trans rfl; have hcz12_4 : w10.cell? ⟨gb111, 4, none⟩ = some (.int .i64 a0_4) := (blk_cell BK111.out 4).trans rfl; have hcz12_5 : w10.cell? ⟨gb111, 5, none⟩ = some (.bool a0_5) := (blk_cell BK111.out 5).trans rfl; have hcz12_6 : w10.cell? ⟨gb111, 6, none⟩ = some (.int .i64 a0_6) := (blk_cell BK111.out 6).trans rfl; have hcz12_7 : w10.cell? ⟨gb111, 7, none⟩ = some (.int .i64 a0_7) := (blk_cell BK111.out 7).trans rfl; have hcz12_8 : w10.cell? ⟨gb111, 8, none⟩ = some (.slice A0_8 l0_8.length c0_8) := (blk_cell BK111.out 8).trans rfl; have hcz12_9 : w10.cell? ⟨gb111, 9, none⟩ = some (.int .i64 a0_9) := (blk_cell BK111.out 9).trans rfl; have hcz12_10 : w10.cell? ⟨gb111, 10, none⟩ = some (.int .i64 a0_10) := (blk_cell BK111.out 10).trans rfl; have hfz12_0 := blk_frozen BK111.out 0; have hfz12_1 := blk_frozen BK111.out 1; have hfz12_2 := blk_frozen BK111.out 2; have hfz12_3 := blk_frozen BK111.out 3; have hfz12_4 := blk_frozen BK111.out 4; have hfz12_5 := blk_frozen BK111.out 5; have hfz12_6 := blk_frozen BK111.out 6; have hfz12_7 := blk_frozen BK111.out 7; have hfz12_8 := blk_frozen BK111.out 8; have hfz12_9 := blk_frozen BK111.out 9; have hfz12_10 := blk_frozen BK111.out 10))
  go_ret
  exact ⟨re, skG HB.out GE111.out GE112.out⟩
end Go.Proofs.Ytagdkmcgepidoaa.P
/- F14 -/
namespace Go.Proofs.Ytagdkmcgepidoaa.P
open Go.RowKit Go.Proofs.YtagdkmcgepidoaaW.PrintWords Go.Proofs.YtagdkmcgepidoaaW.PrintLast Go.Proofs.YtagdkmcgepidoaaW.PrintMore
attribute [local go_sem] max2_int min2_int max_two min_two max_three min_three max_four min_four   -- for this text's walks alone
set_option linter.unusedVariables false
set_option linter.unusedSimpArgs false
def larchlaw05_sample.f  : Option ((List (S67))) := some (([(⟨0, false, (⟨1, 5, 0, 0⟩ : S33), (⟨false, 0, 0, ([] : List (S70))⟩ : S36)⟩ : S67), (⟨1, false, (⟨2, 5, 7, 0⟩ : S33), (⟨false, 0, 0, ([] : List (S70))⟩ : S36)⟩ : S67), (⟨1, true, (⟨2, 5, 7, 0⟩ : S33), (⟨false, 0, 0, ([] : List (S70))⟩ : S36)⟩ : S67), (⟨0, true, (⟨1, 5, 0, 0⟩ : S33), (⟨true, 0, 7, ([] : List (S70))⟩ : S36)⟩ : S67)] : List (S67)))
set_option maxHeartbeats 8000000 in
set_option maxRecDepth 100000 in
theorem larchlaw05_sample.calls  (r : List (S67)) (w : World) (h : larchlaw05_sample.f  = some r) :
  Calls Try.prog 45 #[] w fun e w' => ∃ v0_ : Value, e = .returned (v0_) ∧ Kd.S k67 67 w' w.heap.size (fun _ => True) v0_ r ∧ Below w.heap.size w w' := by
 have hu33 := Try.underlying33
 have hu67 := Try.underlying67
 have hu36 := Try.underlying36
 have HB := asd (Below.refl w.heap.size w)
 have H : (some (([(⟨0, false, (⟨1, 5, 0, 0⟩ : S33), (⟨false, 0, 0, ([] : List (S70))⟩ : S36)⟩ : S67), (⟨1, false, (⟨2, 5, 7, 0⟩ : S33), (⟨false, 0, 0, ([] : List (S70))⟩ : S36)⟩ : S67), (⟨1, true, (⟨2, 5, 7, 0⟩ : S33), (⟨false, 0, 0, ([] : List (S70))⟩ : S36)⟩ : S67), (⟨0, true, (⟨1, 5, 0, 0⟩ : S33), (⟨true, 0, 7, ([] : List (S70))⟩ : S36)⟩ : S67)] : List (S67)))) = some r := h
 clear h
 obtain ⟨y122, hy122⟩ : ∃ y_ : List (S67), y_ = (([(⟨0, false, (⟨1, 5, 0, 0⟩ : S33), (⟨false, 0, 0, ([] : List (S70))⟩ : S36)⟩ : S67), (⟨1, false, (⟨2, 5, 7, 0⟩ : S33), (⟨false, 0, 0, ([] : List (S70))⟩ : S36)⟩ : S67), (⟨1, true, (⟨2, 5, 7, 0⟩ : S33), (⟨false, 0, 0, ([] : List (S70))⟩ : S36)⟩ : S67), (⟨0, true, (⟨1, 5, 0, 0⟩ : S33), (⟨true, 0, 7, ([] : List (S70))⟩ : S36)⟩ : S67)] : List (S67))) := ⟨_, rfl⟩
 replace H : (some y122) = some r := by first | (rw [hy122]; with_reducible exact H) | (have H2_ := (Option.bind_some _ _).symm.trans H; rw [hy122]; with_reducible exact H2_) | (have H2_ := (Option.bind_some _ _).symm.trans H; with_reducible exact H2_) | with_reducible exact H | (rw [hy122]; exact H) | exact H
 have Ny122 := asd hy122
 clear hy122
 obtain rfl := Option.some.inj H
 go_enter Try.func45, Try.ntmps45
 go_wp2_with (first | ((with_reducible refine gate_dst (N := 1) rfl ?_); refine box_event ?hg (N := 1) ?hd (cs := #[.int .i64 0, .int .i64 0, .int .i64 0, .int .i64 0]) (t := 33) ?hr ?_; (case hd => rfl); (case hg => rfl); (case hr => first | (go_simp; done) | (go_simp; rfl)); intro gb120 hg w1 hbox hb; have n0_ := asd (below_step (skB HB.out) hb); have n1_ := asd (hbox); have n2_ := asd ((by rw [hg]; exact (below_size (skB HB.out)) : w.heap.size ≤ gb120)); have n3_ := asd ((by rw [hg]; exact (below_size (skB HB.out)) : w.heap.size ≤ gb120)); clear HB; have HB := n0_; have BK120 := n1_; have GW120 := n2_; have GE120 := n3_; clear n0_ n1_ n2_ n3_; clear hb hbox hg) | ((with_reducible refine gate_dst (N := 2) rfl ?_); refine box_event ?hg (N := 2) ?hd (cs := #[.int .i64 0, .int .i64 0, .int .i64 0, .int .i64 0]) (t := 33) ?hr ?_; (case hd => rfl); (case hg => rfl); (case hr => first | (go_simp; done) | (go_simp; rfl)); intro gb121 hg w2 hbox hb; have n0_ := asd (blk_below (g := gb120) (o := .cells #[.int .i64 0, .int .i64 0, .int .i64 0, .int .i64 0] 33 (0, 0)) (skK BK120.out) hb); have n1_ := asd (below_step (skG HB.out GE120.out GE120.out) hb); have n2_ := asd (hbox); have n3_ := asd ((by rw [hg]; exact (below_size (skG HB.out GE120.out GE120.out)) : w.heap.size ≤ gb121)); have n4_ := asd ((by rw [hg]; exact (below_size (skG HB.out GE120.out GE120.out)) : w.heap.size ≤ gb121)); have n5_ := asd ((by rw [hg]; exact Nat.ne_of_lt (blk_lt (g := gb120) (o := .cells #[.int .i64 0, .int .i64 0, .int .i64 0, .int .i64 0] 33 (0, 0)) (skK BK120.out)) : gb120 ≠ gb121)); have n6_ := asd ((by rw [hg]; exact Nat.ne_of_gt (blk_lt (g := gb120) (o := .cells #[.int .i64 0, .int .i64 0, .int .i64 0, .int .i64 0] 33 (0, 0)) (skK BK120.out)) : gb121 ≠ gb120)); clear BK120; clear HB; have BK120 := n0_; have HB := n1_; have BK121 := n2_; have GW121 := n3_; have GE121 := n4_; have NB120_121 := n5_; have NB121_120 := n6_; clear n0_ n1_ n2_ n3_ n4_ n5_ n6_; clear hb hbox hg; have hnb3 := NB120_121.out; have hnc3 := NB121_120.out; obtain ⟨hcz4_0, hcz4_1, hcz4_2, hcz4_3, hfz4_0, hfz4_1, hfz4_2, hfz4_3⟩ := bk4 BK120.out; obtain ⟨hcz5_0, hcz5_1, hcz5_2, hcz5_3, hfz5_0, hfz5_1, hfz5_2, hfz5_3⟩ := bk4 BK121.out) | ((with_reducible refine gate_dst (N := 14) rfl ?_); refine Kd.S_lit k67 _ 67 ?hg (N := 14) ?hd (xs := ([(⟨0, false, (⟨1, 5, 0, 0⟩ : S33), (⟨false, 0, 0, ([] : List (S70))⟩ : S36)⟩ : S67), (⟨1, false, (⟨2, 5, 7, 0⟩ : S33), (⟨false, 0, 0, ([] : List (S70))⟩ : S36)⟩ : S67), (⟨1, true, (⟨2, 5, 7, 0⟩ : S33), (⟨false, 0, 0, ([] : List (S70))⟩ : S36)⟩ : S67), (⟨0, true, (⟨1, 5, 0, 0⟩ : S33), (⟨true, 0, 7, ([] : List (S70))⟩ : S36)⟩ : S67)] : List (S67))) (inner := [.int .i64 0, .bool false, .int .i64 1, .int .i64 5, .int .i64 0, .int .i64 0, .bool false, .int .i64 0, .int .i64 0, .slice none 0 0, .int .i64 1, .bool false, .int .i64 2, .int .i64 5, .int .i64 7, .int .i64 0, .bool false, .int .i64 0, .int .i64 0, .slice none 0 0, .int .i64 1, .bool true, .int .i64 2, .int .i64 5, .int .i64 7, .int .i64 0, .bool false, .int .i64 0, .int .i64 0, .slice none 0 0, .int .i64 0, .bool true, .int .i64 1, .int .i64 5, .int .i64 0, .int .i64 0, .bool true, .int .i64 0, .int .i64 7, .slice none 0 0]) (ok := fun _ => True) (okp := fun _ => True) ?hr ?hp (fun _ hk => hk) trivial (Below.refl _ _) (Nat.le_refl _) (by simp) ?_; (case hd => rfl); (case hg => rfl); (case hr => first | (go_simp; done) | (go_simp; rfl)); (case hp => exact (Reps.c10 (show Kd.M k67 _ _ _ (⟨0, false, (⟨1, 5, 0, 0⟩ : S33), (⟨false, 0, 0, ([] : List (S70))⟩ : S36)⟩ : S67) [.int .i64 0, .bool false, .int .i64 1, .int .i64 5, .int .i64 0, .int .i64 0, .bool false, .int .i64 0, .int .i64 0, .slice none 0 0] from (k67_mkM _ _ _ (⟨0, false, (⟨1, 5, 0, 0⟩ : S33), (⟨false, 0, 0, ([] : List (S70))⟩ : S36)⟩ : S67) (Kd.R_nil _ _ _ _ _))) (Reps.c10 (show Kd.M k67 _ _ _ (⟨1, false, (⟨2, 5, 7, 0⟩ : S33), (⟨false, 0, 0, ([] : List (S70))⟩ : S36)⟩ : S67) [.int .i64 1, .bool false, .int .i64 2, .int .i64 5, .int .i64 7, .int .i64 0, .bool false, .int .i64 0, .int .i64 0, .slice none 0 0] from (k67_mkM _ _ _ (⟨1, false, (⟨2, 5, 7, 0⟩ : S33), (⟨false, 0, 0, ([] : List (S70))⟩ : S36)⟩ : S67) (Kd.R_nil _ _ _ _ _))) (Reps.c10 (show Kd.M k67 _ _ _ (⟨1, true, (⟨2, 5, 7, 0⟩ : S33), (⟨false, 0, 0, ([] : List (S70))⟩ : S36)⟩ : S67) [.int .i64 1, .bool true, .int .i64 2, .int .i64 5, .int .i64 7, .int .i64 0, .bool false, .int .i64 0, .int .i64 0, .slice none 0 0] from (k67_mkM _ _ _ (⟨1, true, (⟨2, 5, 7, 0⟩ : S33), (⟨false, 0, 0, ([] : List (S70))⟩ : S36)⟩ : S67) (Kd.R_nil _ _ _ _ _))) (Reps.c10 (show Kd.M k67 _ _ _ (⟨0, true, (⟨1, 5, 0, 0⟩ : S33), (⟨true, 0, 7, ([] : List (S70))⟩ : S36)⟩ : S67) [.int .i64 0, .bool true, .int .i64 1, .int .i64 5, .int .i64 0, .int .i64 0, .bool true, .int .i64 0, .int .i64 7, .slice none 0 0] from (k67_mkM _ _ _ (⟨0, true, (⟨1, 5, 0, 0⟩ : S33), (⟨true, 0, 7, ([] : List (S70))⟩ : S36)⟩ : S67) (Kd.R_nil _ _ _ _ _))) (Reps.none _ _)))))); intro v123 w6 ho7 hb hg_ hnew_; clear hg_ hnew_; (first | rw [← Ny122.out] at ho7 | (simp only [Int.reduceToNat] at ho7; rw [← Ny122.out] at ho7)); have n0_ := asd (Kd.S_lower ho7 (below_size (skG HB.out GE120.out GE121.out))); have n1_ := asd (blk_below (g := gb120) (o := .cells #[.int .i64 1, .int .i64 5, .int .i64 0, .int .i64 0] 33 (0, 0)) (by refine skk ?_; refine blk_far ?_ NB120_121.out _; refine skk ?_; refine blk_far ?_ NB120_121.out _; refine skk ?_; refine blk_far ?_ NB120_121.out _; refine skk ?_; refine blk_far ?_ NB120_121.out _; refine skk ?_; refine blk_put (cs := #[.int .i64 1, .int .i64 5, .int .i64 0, .int .i64 0]) ?_ 3 _ rfl; refine skk ?_; refine blk_put (cs := #[.int .i64 1, .int .i64 5, .int .i64 0, .int .i64 0]) ?_ 2 _ rfl; refine skk ?_; refine blk_put (cs := #[.int .i64 1, .int .i64 0, .int .i64 0, .int .i64 0]) ?_ 1 _ rfl; refine skk ?_; refine blk_put (cs := #[.int .i64 0, .int .i64 0, .int .i64 0, .int .i64 0]) ?_ 0 _ rfl; refine skk ?_; exact BK120.out) hb); have n2_ := asd (blk_below (g := gb121) (o := .cells #[.int .i64 2, .int .i64 5, .int .i64 7, .int .i64 0] 33 (0, 0)) (by refine skk ?_; refine blk_put (cs := #[.int .i64 2, .int .i64 5, .int .i64 7, .int .i64 0]) ?_ 3 _ rfl; refine skk ?_; refine blk_put (cs := #[.int .i64 2, .int .i64 5, .int .i64 0, .int .i64 0]) ?_ 2 _ rfl; refine skk ?_; refine blk_put (cs := #[.int .i64 2, .int .i64 0, .int .i64 0, .int .i64 0]) ?_ 1 _ rfl; refine skk ?_; refine blk_put (cs := #[.int .i64 0, .int .i64 0, .int .i64 0, .int .i64 0]) ?_ 0 _ rfl; refine skk ?_; refine blk_far ?_ NB121_120.out _; refine skk ?_; refine blk_far ?_ NB121_120.out _; refine skk ?_; refine blk_far ?_ NB121_120.out _; refine skk ?_; refine blk_far ?_ NB121_120.out _; refine skk ?_; exact BK121.out) hb); have n3_ := asd (below_step (skG HB.out GE120.out GE121.out) hb); clear BK120; clear BK121; clear HB; have HO124 := n0_; have BK120 := n1_; have BK121 := n2_; have HB := n3_; clear n0_ n1_ n2_ n3_; clear hb ho7))
 go_ret
 exact ⟨_, re, by (with_reducible repeat (first | apply Kd.S_alloc | apply Kd.S_drewN | apply Kd.S_drew)); exact HO124.out, skG HB.out GE120.out GE121.out⟩
end Go.Proofs.Ytagdkmcgepidoaa.P
/- F32 -/
namespace Go.Proofs.Ytagdkmcgepidoaa.P
open Go.RowKit Go.Proofs.YtagdkmcgepidoaaW.PrintWords Go.Proofs.YtagdkmcgepidoaaW.PrintLast Go.Proofs.YtagdkmcgepidoaaW.PrintMore
attribute [local go_sem] max2_int min2_int max_two min_two max_three min_three max_four min_four   -- for this text's walks alone
set_option linter.unusedVariables false
set_option linter.unusedSimpArgs false
def larchref05_CopyEvents.l0 : Nat → List (S67) → List (S67) → Int → Option ((List (S67)))
 | 0, _, _, _ => none
 | k + 1, x0, x3, x4 => if x4 < (x0.length : Int) then (if 0 ≤ x4 then ((larchref05_CopyRet.f ((J67 x0 x4).f3.f0) ((J67 x0 x4).f3.f1) ((J67 x0 x4).f3.f2) ((J67 x0 x4).f3.f3)).bind fun bt249 => (if x3.length < 1466015503701 then (larchref05_CopyEvents.l0 k x0 (x3 ++ [(⟨(J67 x0 x4).f0, (J67 x0 x4).f1, (⟨(J67 x0 x4).f2.f0, (J67 x0 x4).f2.f1, (J67 x0 x4).f2.f2, (J67 x0 x4).f2.f3⟩ : S33), (⟨bt249.1, bt249.2.1, bt249.2.2.1, bt249.2.2.2⟩ : S36)⟩ : S67)]) (wrap64 (x4 + 1))) else (none))) else (none)) else (some x3)
def larchref05_CopyEvents.f (k : Nat) (l0 : List (S67)) : Option ((List (S67))) := larchref05_CopyEvents.l0 k l0 ([] : List (S67)) 0
set_option maxHeartbeats 8000000 in
set_option maxRecDepth 100000 in
theorem larchref05_CopyEvents.calls (k : Nat) (A0 : Option Addr) (c0 : Nat) (l0 : List (S67)) (r : List (S67)) (w : World) (hr0 : Kd.C k67 w A0 l0.length l0) (hc0 : l0.length ≤ c0) (h : larchref05_CopyEvents.f k l0 = some r) :
  Calls Try.prog 43 #[.slice A0 l0.length c0] w fun e w' => ∃ v0_ : Value, e = .returned (v0_) ∧ Kd.S k67 67 w' w.heap.size (fun _ => True) v0_ r ∧ Below w.heap.size w w' := by
 have hu67 := Try.underlying67
 have hu36 := Try.underlying36
 have HR0 := asd hr0
 have HC0 := asd hc0
 clear hr0 hc0
 have HB := asd (Below.refl w.heap.size w)
 have H : (larchref05_CopyEvents.l0 k l0 ([] : List (S67)) 0) = some r := h
 clear h
 have H' := asd H
 clear H
 go_enter Try.func43, Try.ntmps43
 go_wp2
 go_loopg [3, 4] k (fun kq v3 v4 w' => ∃ (x3_1 : List (S67)) (x4_1 : Int), v4 = .int .i64 x4_1 ∧ Aside0 (larchref05_CopyEvents.l0 kq l0 x3_1 x4_1 = some r) ∧ Aside0 (kq ≤ k) ∧ Aside0 (Kd.S k67 67 w' w.heap.size (fun _ => True) v3 x3_1) ∧ Aside0 (Below w.heap.size w w'))
 case atStart => exact ⟨(([] : List (S67))), (0), rs, H', ⟨Nat.le_refl _⟩, ⟨by first | exact Kd.S_nil _ _ _ _ _ | exact Kd.N_nil _ _ _ _ _ | exact Kd.V_nil _ _ _ _ _ | exact Kd.Q_nil _ _ _ _ _ | exact Kd.R_nil _ _ _ _ _⟩, ⟨skB HB.out⟩⟩
 case round =>
  clear H'
  obtain ⟨x3_1, x4_1, rfl, HA, HK1, HO_3, HB⟩ := hrel
  cases gk with
  | zero => exact absurd HA.out (by simp [larchref05_CopyEvents.l0])
  | succ k1 =>
   have H := HA.out
   clear HA
   simp only [larchref05_CopyEvents.l0] at H
   by_cases c2 : x4_1 < (l0.length : Int)
   ·
    rw [if_pos c2] at H
    have c2b0 : decide (x4_1 < (l0.length : Int)) = true := decide_eq_true c2
    clear c2
    by_cases c3 : 0 ≤ x4_1
    ·
     rw [if_pos c3] at H
     have c3b0 : decide (0 ≤ x4_1) = true := decide_eq_true c3
     clear c3
     replace H := Option.bind_eq_some_iff.mp H
     obtain ⟨⟨t249, t250, t251, t252⟩, A40, H⟩ := H
     replace H : (if x3_1.length < 1466015503701 then (larchref05_CopyEvents.l0 k1 l0 (x3_1 ++ [(⟨(J67 l0 x4_1).f0, (J67 l0 x4_1).f1, (⟨(J67 l0 x4_1).f2.f0, (J67 l0 x4_1).f2.f1, (J67 l0 x4_1).f2.f2, (J67 l0 x4_1).f2.f3⟩ : S33), (⟨t249, t250, t251, t252⟩ : S36)⟩ : S67)]) (wrap64 (x4_1 + 1))) else (none)) = some r := H
     have A4 := asd A40
     clear A40
     by_cases c5 : x3_1.length < 1466015503701
     ·
      rw [if_pos c5] at H
      have LMc5 := asd c5
      clear c5
      obtain ⟨y255, hy255⟩ : ∃ y_ : List (S67), y_ = (x3_1 ++ [(⟨(J67 l0 x4_1).f0, (J67 l0 x4_1).f1, (⟨(J67 l0 x4_1).f2.f0, (J67 l0 x4_1).f2.f1, (J67 l0 x4_1).f2.f2, (J67 l0 x4_1).f2.f3⟩ : S33), (⟨t249, t250, t251, t252⟩ : S36)⟩ : S67)]) := ⟨_, rfl⟩
      replace H : (larchref05_CopyEvents.l0 k1 l0 y255 (wrap64 (x4_1 + 1))) = some r := by first | (rw [hy255]; with_reducible exact H) | (have H2_ := (Option.bind_some _ _).symm.trans H; rw [hy255]; with_reducible exact H2_) | (have H2_ := (Option.bind_some _ _).symm.trans H; with_reducible exact H2_) | with_reducible exact H | (rw [hy255]; exact H) | exact H
      have Ny255 := asd hy255
      clear hy255
      have H' := asd H
      clear H
      have p247 : 0 ≤ (x4_1 : Int) := dt
      have q247 : x4_1 < (l0.length : Int) := dt
      obtain ⟨ad247, A247_9, c247_9, e247, hx247_0, hx247_1, hx247_2, hx247_3, hx247_4, hx247_5, hx247_6, hx247_7, hx247_8, hx247_9, hl247_9, hi247_9⟩ := at_T67 HR0.out x4_1 p247 q247
      cases e247
      replace hx247_0 := skc HB.out hx247_0
      replace hx247_1 := skc HB.out hx247_1
      replace hx247_2 := skc HB.out hx247_2
      replace hx247_3 := skc HB.out hx247_3
      replace hx247_4 := skc HB.out hx247_4
      replace hx247_5 := skc HB.out hx247_5
      replace hx247_6 := skc HB.out hx247_6
      replace hx247_7 := skc HB.out hx247_7
      replace hx247_8 := skc HB.out hx247_8
      replace hx247_9 := skc HB.out hx247_9
      have HR247_9 := asd hi247_9
      have HC247_9 := asd hl247_9
      clear hi247_9 hl247_9
      replace p247 := eq_true p247
      replace q247 := eq_true q247
      go_wp2_with (first | ((with_reducible refine gate_dst (N := 5) rfl ?_); refine box_event ?hg (N := 5) ?hd (cs := #[.int .i64 0, .bool false, .int .i64 0, .int .i64 0, .int .i64 0, .int .i64 0, .bool false, .int .i64 0, .int .i64 0, .slice none 0 0]) (t := 67) ?hr ?_; (case hd => rfl); (case hg => rfl); (case hr => first | (go_simp; done) | (go_simp; rfl)); intro gb248 hg w6 hbox hb; have n0_ := asd (Kd.S_below (Kd.S_elderB (by (with_reducible repeat (first | apply Kd.S_alloc | apply Kd.S_drewN | apply Kd.S_drew)); exact HO_3.out) gb248 (Nat.le_of_eq hg.symm)) hb); have n1_ := asd (below_step (skB HB.out) hb); have n2_ := asd (hbox); have n3_ := asd ((by rw [hg]; exact (below_size (skB HB.out)) : w.heap.size ≤ gb248)); have n4_ := asd ((by rw [hg]; exact (below_size (skB HB.out)) : w.heap.size ≤ gb248)); clear HO_3; clear HB; have HO_3 := n0_; have HB := n1_; have BK248 := n2_; have GW248 := n3_; have GE248 := n4_; clear n0_ n1_ n2_ n3_ n4_; clear hb hbox hg; have hcz7_0 : w6.cell? ⟨gb248, 0, none⟩ = some (.int .i64 0) := (blk_cell BK248.out 0).trans rfl; have hcz7_1 : w6.cell? ⟨gb248, 1, none⟩ = some (.bool false) := (blk_cell BK248.out 1).trans rfl; have hcz7_2 : w6.cell? ⟨gb248, 2, none⟩ = some (.int .i64 0) := (blk_cell BK248.out 2).trans rfl; have hcz7_3 : w6.cell? ⟨gb248, 3, none⟩ = some (.int .i64 0) := (blk_cell BK248.out 3).trans rfl; have hcz7_4 : w6.cell? ⟨gb248, 4, none⟩ = some (.int .i64 0) := (blk_cell BK248.out 4).trans rfl; have hcz7_5 : w6.cell? ⟨gb248, 5, none⟩ = some (.int .i64 0) := (blk_cell BK248.out 5).trans rfl; have hcz7_6 : w6.cell? ⟨gb248, 6, none⟩ = some (.bool false) := (blk_cell BK248.out 6).trans rfl; have hcz7_7 : w6.cell? ⟨gb248, 7, none⟩ = some (.int .i64 0) := (blk_cell BK248.out 7).trans rfl; have hcz7_8 : w6.cell? ⟨gb248, 8, none⟩ = some (.int .i64 0) := (blk_cell BK248.out 8).trans rfl; have hcz7_9 : w6.cell? ⟨gb248, 9, none⟩ = some (.slice none 0 0) := (blk_cell BK248.out 9).trans rfl; have hfz7_0 := blk_frozen BK248.out 0; have hfz7_1 := blk_frozen BK248.out 1; have hfz7_2 := blk_frozen BK248.out 2; have hfz7_3 := blk_frozen BK248.out 3; have hfz7_4 := blk_frozen BK248.out 4; have hfz7_5 := blk_frozen BK248.out 5; have hfz7_6 := blk_frozen BK248.out 6; have hfz7_7 := blk_frozen BK248.out 7; have hfz7_8 := blk_frozen BK248.out 8; have hfz7_9 := blk_frozen BK248.out 9) | ((with_reducible refine gate_callee (f := 65) rfl ?_); refine goesL_ (some 18) rfl rfl Try.func65 (by kernel_rfl) rfl #[.agg #[.bool ((J67 l0 x4_1).f3.f0), .int .i64 ((J67 l0 x4_1).f3.f1), .int .i64 ((J67 l0 x4_1).f3.f2), .slice A247_9 ((J67 l0 x4_1).f3.f3).length c247_9]] rfl ags ?_; (with_reducible refine (larchref05_CopyRet.calls ((J67 l0 x4_1).f3.f0) ((J67 l0 x4_1).f3.f1) ((J67 l0 x4_1).f3.f2) _ _ ((J67 l0 x4_1).f3.f3) t249 t250 t251 t252 _ ?side1 ?side2 A4.out).mono ?_); (case side1 => exact Kd.C_below HR247_9.out (skG HB.out GE248.out GE248.out)); (case side2 => exact HC247_9.out); rintro e w8 ⟨v253, rfl, ho0, hb⟩; refine ⟨_, rfl, ?_⟩; have n0_ := asd (Kd.S_elder' (by (with_reducible repeat (first | apply Kd.S_alloc | apply Kd.S_drewN | apply Kd.S_drew)); exact (Kd.S_mono (Kd.S_far (p := ⟨gb248, 9, none⟩) (Kd.S_far (p := ⟨gb248, 8, none⟩) (Kd.S_far (p := ⟨gb248, 7, none⟩) (Kd.S_far (p := ⟨gb248, 6, none⟩) (Kd.S_far (p := ⟨gb248, 5, none⟩) (Kd.S_far (p := ⟨gb248, 4, none⟩) (Kd.S_far (p := ⟨gb248, 3, none⟩) (Kd.S_far (p := ⟨gb248, 2, none⟩) (Kd.S_far (p := ⟨gb248, 1, none⟩) (Kd.S_far (p := ⟨gb248, 0, none⟩) (Kd.S_mono HO_3.out (fun k_ hk => (⟨hk, hk.2⟩ : _ ∧ k_ ≠ gb248))) (fun _ hk => hk.2) (.int .i64 ((J67 l0 x4_1).f0))) (fun _ hk => hk.2) (.bool ((J67 l0 x4_1).f1))) (fun _ hk => hk.2) (.int .i64 ((J67 l0 x4_1).f2.f0))) (fun _ hk => hk.2) (.int .i64 ((J67 l0 x4_1).f2.f1))) (fun _ hk => hk.2) (.int .i64 ((J67 l0 x4_1).f2.f2))) (fun _ hk => hk.2) (.int .i64 ((J67 l0 x4_1).f2.f3))) (fun _ hk => hk.2) (.bool ((J67 l0 x4_1).f3.f0))) (fun _ hk => hk.2) (.int .i64 ((J67 l0 x4_1).f3.f1))) (fun _ hk => hk.2) (.int .i64 ((J67 l0 x4_1).f3.f2))) (fun _ hk => hk.2) (.slice A247_9 ((J67 l0 x4_1).f3.f3).length c247_9)) (fun _ h_ => h_.1))) (Kd.R_base ho0) hb); have n1_ := asd (Kd.R_lower ho0 (below_size (skG HB.out GE248.out GE248.out))); have n2_ := asd (blk_below (g := gb248) (o := .cells #[.int .i64 ((J67 l0 x4_1).f0), .bool ((J67 l0 x4_1).f1), .int .i64 ((J67 l0 x4_1).f2.f0), .int .i64 ((J67 l0 x4_1).f2.f1), .int .i64 ((J67 l0 x4_1).f2.f2), .int .i64 ((J67 l0 x4_1).f2.f3), .bool ((J67 l0 x4_1).f3.f0), .int .i64 ((J67 l0 x4_1).f3.f1), .int .i64 ((J67 l0 x4_1).f3.f2), .slice A247_9 ((J67 l0 x4_1).f3.f3).length c247_9] 67 (0, 0)) (by refine skk ?_; refine blk_put (cs := #[.int .i64 ((J67 l0 x4_1).f0), .bool ((J67 l0 x4_1).f1), .int .i64 ((J67 l0 x4_1).f2.f0), .int .i64 ((J67 l0 x4_1).f2.f1), .int .i64 ((J67 l0 x4_1).f2.f2), .int .i64 ((J67 l0 x4_1).f2.f3), .bool ((J67 l0 x4_1).f3.f0), .int .i64 ((J67 l0 x4_1).f3.f1), .int .i64 ((J67 l0 x4_1).f3.f2), .slice none 0 0]) ?_ 9 _ rfl; refine skk ?_; refine blk_put (cs := #[.int .i64 ((J67 l0 x4_1).f0), .bool ((J67 l0 x4_1).f1), .int .i64 ((J67 l0 x4_1).f2.f0), .int .i64 ((J67 l0 x4_1).f2.f1), .int .i64 ((J67 l0 x4_1).f2.f2), .int .i64 ((J67 l0 x4_1).f2.f3), .bool ((J67 l0 x4_1).f3.f0), .int .i64 ((J67 l0 x4_1).f3.f1), .int .i64 0, .slice none 0 0]) ?_ 8 _ rfl; refine skk ?_; refine blk_put (cs := #[.int .i64 ((J67 l0 x4_1).f0), .bool ((J67 l0 x4_1).f1), .int .i64 ((J67 l0 x4_1).f2.f0), .int .i64 ((J67 l0 x4_1).f2.f1), .int .i64 ((J67 l0 x4_1).f2.f2), .int .i64 ((J67 l0 x4_1).f2.f3), .bool ((J67 l0 x4_1).f3.f0), .int .i64 0, .int .i64 0, .slice none 0 0]) ?_ 7 _ rfl; refine skk ?_; refine blk_put (cs := #[.int .i64 ((J67 l0 x4_1).f0), .bool ((J67 l0 x4_1).f1), .int .i64 ((J67 l0 x4_1).f2.f0), .int .i64 ((J67 l0 x4_1).f2.f1), .int .i64 ((J67 l0 x4_1).f2.f2), .int .i64 ((J67 l0 x4_1).f2.f3), .bool false, .int .i64 0, .int .i64 0, .slice none 0 0]) ?_ 6 _ rfl; refine skk ?_; refine blk_put (cs := #[.int .i64 ((J67 l0 x4_1).f0), .bool ((J67 l0 x4_1).f1), .int .i64 ((J67 l0 x4_1).f2.f0), .int .i64 ((J67 l0 x4_1).f2.f1), .int .i64 ((J67 l0 x4_1).f2.f2), .int .i64 0, .bool false, .int .i64 0, .int .i64 0, .slice none 0 0]) ?_ 5 _ rfl; refine skk ?_; refine blk_put (cs := #[.int .i64 ((J67 l0 x4_1).f0), .bool ((J67 l0 x4_1).f1), .int .i64 ((J67 l0 x4_1).f2.f0), .int .i64 ((J67 l0 x4_1).f2.f1), .int .i64 0, .int .i64 0, .bool false, .int .i64 0, .int .i64 0, .slice none 0 0]) ?_ 4 _ rfl; refine skk ?_; refine blk_put (cs := #[.int .i64 ((J67 l0 x4_1).f0), .bool ((J67 l0 x4_1).f1), .int .i64 ((J67 l0 x4_1).f2.f0), .int .i64 0, .int .i64 0, .int .i64 0, .bool false, .int .i64 0, .int .i64 0, .slice none 0 0]) ?_ 3 _ rfl; refine skk ?_; refine blk_put (cs := #[.int .i64 ((J67 l0 x4_1).f0), .bool ((J67 l0 x4_1).f1), .int .i64 0, .int .i64 0, .int .i64 0, .int .i64 0, .bool false, .int .i64 0, .int .i64 0, .slice none 0 0]) ?_ 2 _ rfl; refine skk ?_; refine blk_put (cs := #[.int .i64 ((J67 l0 x4_1).f0), .bool false, .int .i64 0, .int .i64 0, .int .i64 0, .int .i64 0, .bool false, .int .i64 0, .int .i64 0, .slice none 0 0]) ?_ 1 _ rfl; refine skk ?_; refine blk_put (cs := #[.int .i64 0, .bool false, .int .i64 0, .int .i64 0, .int .i64 0, .int .i64 0, .bool false, .int .i64 0, .int .i64 0, .slice none 0 0]) ?_ 0 _ rfl; refine skk ?_; exact BK248.out) hb); have n3_ := asd (below_step (skG HB.out GE248.out GE248.out) hb); clear HO_3; clear BK248; clear HB; have HO_3 := n0_; have HO254 := n1_; have BK248 := n2_; have HB := n3_; clear n0_ n1_ n2_ n3_; (try clear hb); (try clear hb2); (try clear hk); (try clear hi); (try clear ho0); have hcz9_0 : w8.cell? ⟨gb248, 0, none⟩ = some (.int .i64 ((J67 l0 x4_1).f0)) := (blk_cell BK248.out 0).trans rfl; have hcz9_1 : w8.cell? ⟨gb248, 1, none⟩ = some (.bool ((J67 l0 x4_1).f1)) := (blk_cell BK248.out 1).trans rfl; have hcz9_2 : w8.cell? ⟨gb248, 2, none⟩ = some (.int .i64 ((J67 l0 x4_1).f2.f0)) := (blk_cell BK248.out 2).trans rfl; have hcz9_3 : w8.cell? ⟨gb248, 3, none⟩ = some (.int .i64 ((J67 l0 x4_1).f2.f1)) := (blk_cell BK248.out 3).trans rfl; have hcz9_4 : w8.cell? ⟨gb248, 4, none⟩ = some (.int .i64 ((J67 l0 x4_1).f2.f2)) := (blk_cell BK248.out 4).trans rfl; have hcz9_5 : w8.cell? ⟨gb248, 5, none⟩ = some (.int .i64 ((J67 l0 x4_1).f2.f3)) := (blk_cell BK248.out 5).trans rfl; have hcz9_6 : w8.cell? ⟨gb248, 6, none⟩ = some (.bool ((J67 l0 x4_1).f3.f0)) := (blk_cell BK248.out 6).trans rfl; have hcz9_7 : w8.cell? ⟨gb248, 7, none⟩ = some (.int .i64 ((J67 l0 x4_1).f3.f1)) := (blk_cell BK248.out 7).trans rfl; have hcz9_8 : w8.cell? ⟨gb248, 8, none⟩ = some (.int .i64 ((J67 l0 x4_1).f3.f2)) := (blk_cell BK248.out 8).trans rfl; have hcz9_9 : w8.cell? ⟨gb248, 9, none⟩ = some (.slice A247_9 ((J67 l0 x4_1).f3.f3).length c247_9) := (blk_cell BK248.out 9).trans rfl; have hfz9_0 := blk_frozen BK248.out 0; have hfz9_1 := blk_frozen BK248.out 1; have hfz9_2 := blk_frozen BK248.out 2; have hfz9_3 := blk_frozen BK248.out 3; have hfz9_4 := blk_frozen BK248.out 4; have hfz9_5 := blk_frozen BK248.out 5; have hfz9_6 := blk_frozen BK248.out 6; have hfz9_7 := blk_frozen BK248.out 7; have hfz9_8 := blk_frozen BK248.out 8; have hfz9_9 := blk_frozen BK248.out 9; obtain ⟨Ao10, co10, eo10⟩ := Kd.R_slice HO254.out; subst eo10) | ((with_reducible refine gate_store (t := 36) (p := 19) rfl ?_); refine store_event (t := 36) (p := 19) (v := ?vo_w11) (w1 := ((((w8.setCell ⟨gb248, 6, none⟩ (.bool t249)).setCell ⟨gb248, 7, none⟩ (.int .i64 t250)).setCell ⟨gb248, 8, none⟩ (.int .i64 t251)).setCell ⟨gb248, 9, none⟩ (.slice Ao10 t252.length co10))) ?hg ?ho ?hn ?hr ?_; (case ho => rfl); (case hg => rfl); (case hn => rfl); (case hr => first | (go_simp; done) | (go_simp; rfl)); intro w11 hw; have n0_ : Aside0 (Kd.S k67 67 w11 w.heap.size (fun k_ => some k_ ≠ (.slice Ao10 t252.length co10 : Value).ownBlock ∧ k_ ≠ gb248) u3 x3_1) := ⟨(by rw [hw]; exact (by (with_reducible repeat (first | apply Kd.S_alloc | apply Kd.S_drewN | apply Kd.S_drew)); exact Kd.S_mono (Kd.S_far (p := ⟨gb248, 9, none⟩) (Kd.S_far (p := ⟨gb248, 8, none⟩) (Kd.S_far (p := ⟨gb248, 7, none⟩) (Kd.S_far (p := ⟨gb248, 6, none⟩) (Kd.S_mono HO_3.out (fun k_ hk => (⟨hk, hk.1.2⟩ : _ ∧ k_ ≠ gb248))) (fun _ hk => hk.2) (.bool t249)) (fun _ hk => hk.2) (.int .i64 t250)) (fun _ hk => hk.2) (.int .i64 t251)) (fun _ hk => hk.2) (.slice Ao10 t252.length co10)) (fun _ hk => ⟨hk.1.2, hk.1.1.2⟩)))⟩; have n1_ : Aside0 (Kd.R k70 70 w11 w.heap.size (fun _ => True) (.slice Ao10 t252.length co10) t252) := ⟨(by rw [hw]; exact (skR (Kd.R_mono (Kd.R_far (p := ⟨gb248, 9, none⟩) (Kd.R_far (p := ⟨gb248, 8, none⟩) (Kd.R_far (p := ⟨gb248, 7, none⟩) (Kd.R_far (p := ⟨gb248, 6, none⟩) (Kd.R_types HO254.out BK248.out (by decide)) (fun _ hk => hk.2) (.bool t249)) (fun _ hk => hk.2) (.int .i64 t250)) (fun _ hk => hk.2) (.int .i64 t251)) (fun _ hk => hk.2) (.slice Ao10 t252.length co10)) (fun _ hk => trivial))))⟩; have n2_ : Aside0 (w11.heap[gb248]? = some (.cells #[.int .i64 ((J67 l0 x4_1).f0), .bool ((J67 l0 x4_1).f1), .int .i64 ((J67 l0 x4_1).f2.f0), .int .i64 ((J67 l0 x4_1).f2.f1), .int .i64 ((J67 l0 x4_1).f2.f2), .int .i64 ((J67 l0 x4_1).f2.f3), .bool t249, .int .i64 t250, .int .i64 t251, .slice Ao10 t252.length co10] 67 (0, 0))) := ⟨(by rw [hw]; exact (by refine skk ?_; refine blk_put (cs := #[.int .i64 ((J67 l0 x4_1).f0), .bool ((J67 l0 x4_1).f1), .int .i64 ((J67 l0 x4_1).f2.f0), .int .i64 ((J67 l0 x4_1).f2.f1), .int .i64 ((J67 l0 x4_1).f2.f2), .int .i64 ((J67 l0 x4_1).f2.f3), .bool t249, .int .i64 t250, .int .i64 t251, .slice A247_9 ((J67 l0 x4_1).f3.f3).length c247_9]) ?_ 9 _ rfl; refine skk ?_; refine blk_put (cs := #[.int .i64 ((J67 l0 x4_1).f0), .bool ((J67 l0 x4_1).f1), .int .i64 ((J67 l0 x4_1).f2.f0), .int .i64 ((J67 l0 x4_1).f2.f1), .int .i64 ((J67 l0 x4_1).f2.f2), .int .i64 ((J67 l0 x4_1).f2.f3), .bool t249, .int .i64 t250, .int .i64 ((J67 l0 x4_1).f3.f2), .slice A247_9 ((J67 l0 x4_1).f3.f3).length c247_9]) ?_ 8 _ rfl; refine skk ?_; refine blk_put (cs := #[.int .i64 ((J67 l0 x4_1).f0), .bool ((J67 l0 x4_1).f1), .int .i64 ((J67 l0 x4_1).f2.f0), .int .i64 ((J67 l0 x4_1).f2.f1), .int .i64 ((J67 l0 x4_1).f2.f2), .int .i64 ((J67 l0 x4_1).f2.f3), .bool t249, .int .i64 ((J67 l0 x4_1).f3.f1), .int .i64 ((J67 l0 x4_1).f3.f2), .slice A247_9 ((J67 l0 x4_1).f3.f3).length c247_9]) ?_ 7 _ rfl; refine skk ?_; refine blk_put (cs := #[.int .i64 ((J67 l0 x4_1).f0), .bool ((J67 l0 x4_1).f1), .int .i64 ((J67 l0 x4_1).f2.f0), .int .i64 ((J67 l0 x4_1).f2.f1), .int .i64 ((J67 l0 x4_1).f2.f2), .int .i64 ((J67 l0 x4_1).f2.f3), .bool ((J67 l0 x4_1).f3.f0), .int .i64 ((J67 l0 x4_1).f3.f1), .int .i64 ((J67 l0 x4_1).f3.f2), .slice A247_9 ((J67 l0 x4_1).f3.f3).length c247_9]) ?_ 6 _ rfl; refine skk ?_; exact BK248.out))⟩; have n3_ : Aside0 (Below w.heap.size w w11) := ⟨(by rw [hw]; exact (skG HB.out GE248.out GE248.out))⟩; clear hw; clear HO_3; clear HO254; clear BK248; clear HB; have HO_3 := n0_; have HO254 := n1_; have BK248 := n2_; have HB := n3_; clear n0_ n1_ n2_ n3_; have hcz12_0 : w11.cell? ⟨gb248, 0, none⟩ = some (.int .i64 ((J67 l0 x4_1).f0)) := (blk_cell BK248.out 0).trans rfl; have hcz12_1 : w11.cell? ⟨gb248, 1, none⟩ = some (.bool ((J67 l0 x4_1).f1)) := (blk_cell BK248.out 1).trans rfl; have hcz12_2 : w11.cell? ⟨gb248, 2, none⟩ = some (.int .i64 ((J67 l0 x4_1).f2.f0)) := (blk_cell BK248.out 2).trans rfl; have hcz12_3 : w11.cell? ⟨gb248, 3, none⟩ = some (.int .i64 ((J67 l0 x4_1).f2.f1)) := (blk_cell BK248.out 3).trans rfl; have hcz12_4 : w11.cell? ⟨gb248, 4, none⟩ = some (.int .i64 ((J67 l0 x4_1).f2.f2)) := (blk_cell BK248.out 4).trans rfl; have hcz12_5 : w11.cell? ⟨gb248, 5, none⟩ = some (.int .i64 ((J67 l0 x4_1).f2.f3)) := (blk_cell BK248.out 5).trans rfl; have hcz12_6 : w11.cell? ⟨gb248, 6, none⟩ = some (.bool t249) := (blk_cell BK248.out 6).trans rfl; have hcz12_7 : w11.cell? ⟨gb248, 7, none⟩ = some (.int .i64 t250) := (blk_cell BK248.out 7).trans rfl; have hcz12_8 : w11.cell? ⟨gb248, 8, none⟩ = some (.int .i64 t251) := (blk_cell BK248.out 8).trans rfl; have hcz12_9 : w11.cell? ⟨gb248, 9, none⟩ = some (.slice Ao10 t252.length co10) := (blk_cell BK248.out 9).trans rfl; have hfz12_0 := blk_frozen BK248.out 0; have hfz12_1 := blk_frozen BK248.out 1; have hfz12_2 := blk_frozen BK248.out 2; have hfz12_3 := blk_frozen BK248.out 3; have hfz12_4 := blk_frozen BK248.out 4; have hfz12_5 := blk_frozen BK248.out 5; have hfz12_6 := blk_frozen BK248.out 6; have hfz12_7 := blk_frozen BK248.out 7; have hfz12_8 := blk_frozen BK248.out 8; have hfz12_9 := blk_frozen BK248.out 9) | ((with_reducible refine gate_builtin (b := .append) (xs := #[.tmp 20, .tmp 22]) rfl ?_); at_builtin; refine Kd.S_append k67 (w0 := w) w.heap.size rfl (.tmp 20) (.tmp 22) 22 67 (.agg #[(.int .i64 0), (.bool false), (.int .i64 0), (.int .i64 0), (.int .i64 0), (.int .i64 0), (.bool false), (.int .i64 0), (.int .i64 0), (.slice none 0 0)]) 96 rfl Try.underlying22 info67 rfl (by decide) (by omega) u3 x3_1 (⟨(J67 l0 x4_1).f0, (J67 l0 x4_1).f1, (⟨(J67 l0 x4_1).f2.f0, (J67 l0 x4_1).f2.f1, (J67 l0 x4_1).f2.f2, (J67 l0 x4_1).f2.f3⟩ : S33), (⟨t249, t250, t251, t252⟩ : S36)⟩ : S67) [.int .i64 ((J67 l0 x4_1).f0), .bool ((J67 l0 x4_1).f1), .int .i64 ((J67 l0 x4_1).f2.f0), .int .i64 ((J67 l0 x4_1).f2.f1), .int .i64 ((J67 l0 x4_1).f2.f2), .int .i64 ((J67 l0 x4_1).f2.f3), .bool t249, .int .i64 t250, .int .i64 t251, .slice Ao10 t252.length co10] (fun k_ => k_ ≠ gb248) (fun k_ => some k_ = (.slice Ao10 t252.length co10 : Value).ownBlock) rfl rfl ?aP (fun k_ hk_ => ((Kd.R_mono (ok' := fun k_ => ((fun k_ => k_ ≠ gb248)) k_ ∧ some k_ ≠ (u3 : Value).ownBlock) (Kd.R_types (Kd.R_apart' (HO254.out) (Kd.S_typed HO_3.out) (by decide)) BK248.out (by decide)) (fun k_ hk => ⟨hk.2, hk.1.2⟩))).1 k_ hk_.symm) ?aF ?aO ?aB ?aS ?aL ?_; (case aP => exact k67_mkM _ _ _ (⟨(J67 l0 x4_1).f0, (J67 l0 x4_1).f1, (⟨(J67 l0 x4_1).f2.f0, (J67 l0 x4_1).f2.f1, (J67 l0 x4_1).f2.f2, (J67 l0 x4_1).f2.f3⟩ : S33), (⟨t249, t250, t251, t252⟩ : S36)⟩ : S67) (Kd.R_mono (Kd.R_tight rfl (Kd.R_mono (ok' := fun k_ => ((fun k_ => k_ ≠ gb248)) k_ ∧ some k_ ≠ (u3 : Value).ownBlock) (Kd.R_types (Kd.R_apart' (HO254.out) (Kd.S_typed HO_3.out) (by decide)) BK248.out (by decide)) (fun k_ hk => ⟨hk.2, hk.1.2⟩))) (fun _ h_ => h_))); (case aB => exact (skG HB.out GE248.out GE248.out)); (case aF => exact (fun k_ hk => Kd.freshB (g := gb248) (o := .cells #[.int .i64 ((J67 l0 x4_1).f0), .bool ((J67 l0 x4_1).f1), .int .i64 ((J67 l0 x4_1).f2.f0), .int .i64 ((J67 l0 x4_1).f2.f1), .int .i64 ((J67 l0 x4_1).f2.f2), .int .i64 ((J67 l0 x4_1).f2.f3), .bool t249, .int .i64 t250, .int .i64 t251, .slice Ao10 t252.length co10] 67 (0, 0)) (skK BK248.out) k_ hk)); (case aO => exact (by (with_reducible repeat (first | apply Kd.S_alloc | apply Kd.S_drewN | apply Kd.S_drew)); exact Kd.S_mono HO_3.out (fun k_ hk => ⟨hk.2, fun e_ => hk.1 e_⟩))); (case aS => exact (below_size (skG HB.out GE248.out GE248.out))); (case aL => have := LMc5.out; omega); intro v256 w13 ho hb hg hat; rw [← Ny255.out] at ho; have n0_ := asd (blk_grown (g := gb248) (o := .cells #[.int .i64 ((J67 l0 x4_1).f0), .bool ((J67 l0 x4_1).f1), .int .i64 ((J67 l0 x4_1).f2.f0), .int .i64 ((J67 l0 x4_1).f2.f1), .int .i64 ((J67 l0 x4_1).f2.f2), .int .i64 ((J67 l0 x4_1).f2.f3), .bool t249, .int .i64 t250, .int .i64 t251, .slice Ao10 t252.length co10] 67 (0, 0)) (skK BK248.out) hg (Kd.S_away HO_3.out (fun _ hk => hk.2))); have n1_ := asd (hb); have n2_ := asd (ho); clear BK248; clear HB; clear HO_3; clear HO254; have BK248 := n0_; have HB := n1_; have HO257 := n2_; clear n0_ n1_ n2_; clear ho hb hg hat))
      go_roundg k1
      case measure => have := HK1.out; omega
      case rel => exact ⟨(y255), (wrap64 (x4_1 + 1)), rs, H', ⟨by have := HK1.out; omega⟩, ⟨by (with_reducible repeat (first | apply Kd.S_alloc | apply Kd.S_drewN | apply Kd.S_drew)); exact Kd.S_mono HO257.out (fun _ hk => trivial)⟩, ⟨skG HB.out GE248.out GE248.out⟩⟩
     ·
      rw [if_neg c5] at H
      exact absurd H (by simp)
    ·
     rw [if_neg c3] at H
     exact absurd H (by simp)
   ·
    rw [if_neg c2] at H
    have c2b0 : decide (x4_1 < (l0.length : Int)) = false := decide_eq_false c2
    clear c2
    obtain rfl := Option.some.inj H
    go_wp2
    go_ret
    exact ⟨_, re, by (with_reducible repeat (first | apply Kd.S_alloc | apply Kd.S_drewN | apply Kd.S_drew)); exact HO_3.out, skB HB.out⟩
end Go.Proofs.Ytagdkmcgepidoaa.P
/- F33 -/
namespace Go.Proofs.Ytagdkmcgepidoaa.P
open Go.RowKit Go.Proofs.YtagdkmcgepidoaaW.PrintWords Go.Proofs.YtagdkmcgepidoaaW.PrintLast Go.Proofs.YtagdkmcgepidoaaW.PrintMore
attribute [local go_sem] max2_int min2_int max_two min_two max_three min_three max_four min_four   -- for this text's walks alone
set_option linter.unusedVariables false
set_option linter.unusedSimpArgs false
def larchref05_Of.l0 : Nat → List (S67) → Int → List (S67) → Int → Option ((List (S67)) × Int)
 | 0, _, _, _, _ => none
 | k + 1, x0, x1, x7, x8 => if x8 < (x0.length : Int) then (if 0 ≤ x8 then (if ((J67 x0 x8).f0) = x1 then (if x7.length < 1466015503701 then (larchref05_Of.l0 k x0 x1 (x7 ++ [(⟨(J67 x0 x8).f0, (J67 x0 x8).f1, (⟨(J67 x0 x8).f2.f0, (J67 x0 x8).f2.f1, (J67 x0 x8).f2.f2, (J67 x0 x8).f2.f3⟩ : S33), (⟨(J67 x0 x8).f3.f0, (J67 x0 x8).f3.f1, (J67 x0 x8).f3.f2, (J67 x0 x8).f3.f3⟩ : S36)⟩ : S67)]) (wrap64 (x8 + 1))) else (none)) else (larchref05_Of.l0 k x0 x1 x7 (wrap64 (x8 + 1)))) else (none)) else ((larchref05_CopyEvents.f k x7).bind fun t264 => (some (t264, 0)))
def larchref05_Of.f (k : Nat) (l0 : List (S67)) (a1 : Int) : Option ((List (S67)) × Int) := (larchref05_Check.f k l0).bind fun t258 => (if t258 = 0 then (larchref05_Of.l0 k l0 a1 ([] : List (S67)) 0) else (some (([] : List (S67)), t258)))
set_option maxHeartbeats 8000000 in
set_option maxRecDepth 100000 in
theorem larchref05_Of.calls (k : Nat) (P0_ : Nat → Prop) (A0 : Option Addr) (c0 : Nat) (l0 : List (S67)) (a1 : Int) (r1 : List (S67)) (r2 : Int) (w : World) (hs0 : Kd.V k67 67 w w.heap.size (fun k_ => P0_ k_) (.slice A0 l0.length c0) l0) (h : larchref05_Of.f k l0 a1 = some (r1, r2)) :
  Calls Try.prog 27 #[.slice A0 l0.length c0, .int .i64 a1] w fun e w' => ∃ v0_ : Value, e = .returned (.tuple #[v0_, .int .i64 r2]) ∧ Kd.N k67 67 w' w.heap.size (fun k_ => (P0_ k_ ∨ w.heap.size ≤ k_)) v0_ r1 ∧ Below w.heap.size w w' := by
 have hu67 := Try.underlying67
 have HO0 := asd (show Kd.V k67 67 w w.heap.size (fun k_ => (P0_ k_ ∨ w.heap.size ≤ k_)) (.slice A0 l0.length c0) l0 from Kd.V_mono hs0 (fun k_ hk => .inl hk))
 have HB := asd (Below.refl w.heap.size w)
 have H : ((larchref05_Check.f k l0).bind fun t258 => (if t258 = 0 then (larchref05_Of.l0 k l0 a1 ([] : List (S67)) 0) else (some (([] : List (S67)), t258)))) = some (r1, r2) := h
 clear h
 replace H := Option.bind_eq_some_iff.mp H
 obtain ⟨t258, A30, H⟩ := H
 replace H : (if t258 = 0 then (larchref05_Of.l0 k l0 a1 ([] : List (S67)) 0) else (some (([] : List (S67)), t258))) = some (r1, r2) := H
 have A3 := asd A30
 clear A30
 by_cases c4 : t258 = 0
 ·
  rw [if_pos c4] at H
  have c4b0 : (t258 == 0) = true := beq_iff_eq.mpr c4
  have c4b1 : (t258 != 0) = false := bne_eq_false_iff_eq.mpr c4
  clear c4
  have H' := asd H
  clear H
  go_enter Try.func27, Try.ntmps27
  go_wp2_with (first | ((with_reducible refine gate_callee (f := 37) rfl ?_); refine goesL_ (some 10) rfl rfl Try.func37 (by kernel_rfl) rfl #[.slice A0 l0.length c0] rfl ags ?_; (with_reducible refine (larchref05_Check.calls k _ _ l0 t258 _ ?side1 ?side2 A3.out).mono ?_); (case side1 => exact skC (Kd.V_reads' HO0.out).2.2); (case side2 => exact (Kd.V_reads' HO0.out).2.1); rintro e w5 ⟨rfl, hb⟩; refine ⟨_, rfl, ?_⟩; have n0_ := asd (Kd.V_below (by (with_reducible repeat (first | apply Kd.V_alloc | apply Kd.V_drewN | apply Kd.V_drew)); exact HO0.out) hb); have n1_ := asd (below_step (skB HB.out) hb); clear HO0; clear HB; have HO0 := n0_; have HB := n1_; clear n0_ n1_; (try clear hb); (try clear hb2); (try clear hk); (try clear hi)))
  go_loopg [7, 8] k (fun kq v7 v8 w' => ∃ (x7_1 : List (S67)) (x8_1 : Int), v8 = .int .i64 x8_1 ∧ Aside0 (larchref05_Of.l0 kq l0 a1 x7_1 x8_1 = some (r1, r2)) ∧ Aside0 (kq ≤ k) ∧ Aside0 (Kd.V k67 67 w' w.heap.size (fun k_ => (P0_ k_ ∨ w.heap.size ≤ k_) ∧ some k_ ≠ (v7 : Value).ownBlock) (.slice A0 l0.length c0) l0) ∧ Aside0 (Kd.N k67 67 w' w.heap.size (fun k_ => (P0_ k_ ∨ w.heap.size ≤ k_)) v7 x7_1) ∧ Aside0 (Below w.heap.size w w'))
  case atStart => exact ⟨(([] : List (S67))), (0), rs, H', ⟨Nat.le_refl _⟩, ⟨by (with_reducible repeat (first | apply Kd.V_alloc | apply Kd.V_drewN | apply Kd.V_drew)); exact Kd.V_mono HO0.out (fun _ hk => ⟨hk, (by simp [Value.ownBlock])⟩)⟩, ⟨by first | exact Kd.S_nil _ _ _ _ _ | exact Kd.N_nil _ _ _ _ _ | exact Kd.V_nil _ _ _ _ _ | exact Kd.Q_nil _ _ _ _ _ | exact Kd.R_nil _ _ _ _ _⟩, ⟨skB HB.out⟩⟩
  case round =>
   clear H'
   try clear c2
   try clear p2
   try clear c3
   try clear c4
   try clear c4b0
   try clear c4b1
   obtain ⟨x7_1, x8_1, rfl, HA, HK1, HO_0, HO_7, HB⟩ := hrel
   cases gk with
   | zero => exact absurd HA.out (by simp [larchref05_Of.l0])
   | succ k1 =>
    have H := HA.out
    clear HA
    simp only [larchref05_Of.l0] at H
    by_cases c6 : x8_1 < (l0.length : Int)
    ·
     rw [if_pos c6] at H
     have c6b0 : decide (x8_1 < (l0.length : Int)) = true := decide_eq_true c6
     clear c6
     by_cases c7 : 0 ≤ x8_1
     ·
      rw [if_pos c7] at H
      have c7b0 : decide (0 ≤ x8_1) = true := decide_eq_true c7
      clear c7
      by_cases c8 : ((J67 l0 x8_1).f0) = a1
      ·
       rw [if_pos c8] at H
       have c8b0 : (((J67 l0 x8_1).f0) == a1) = true := beq_iff_eq.mpr c8
       have c8b1 : (((J67 l0 x8_1).f0) != a1) = false := bne_eq_false_iff_eq.mpr c8
       clear c8
       by_cases c9 : x7_1.length < 1466015503701
       ·
        rw [if_pos c9] at H
        have LMc9 := asd c9
        clear c9
        obtain ⟨y261, hy261⟩ : ∃ y_ : List (S67), y_ = (x7_1 ++ [(⟨(J67 l0 x8_1).f0, (J67 l0 x8_1).f1, (⟨(J67 l0 x8_1).f2.f0, (J67 l0 x8_1).f2.f1, (J67 l0 x8_1).f2.f2, (J67 l0 x8_1).f2.f3⟩ : S33), (⟨(J67 l0 x8_1).f3.f0, (J67 l0 x8_1).f3.f1, (J67 l0 x8_1).f3.f2, (J67 l0 x8_1).f3.f3⟩ : S36)⟩ : S67)]) := ⟨_, rfl⟩
        replace H : (larchref05_Of.l0 k1 l0 a1 y261 (wrap64 (x8_1 + 1))) = some (r1, r2) := by first | (rw [hy261]; with_reducible exact H) | (have H2_ := (Option.bind_some _ _).symm.trans H; rw [hy261]; with_reducible exact H2_) | (have H2_ := (Option.bind_some _ _).symm.trans H; with_reducible exact H2_) | with_reducible exact H | (rw [hy261]; exact H) | exact H
        have Ny261 := asd hy261
        clear hy261
        have H' := asd H
        clear H
        have p259 : 0 ≤ (x8_1 : Int) := dt
        have q259 : x8_1 < (l0.length : Int) := dt
        obtain ⟨ad259, A259_9, c259_9, e259, hx259_0, hx259_1, hx259_2, hx259_3, hx259_4, hx259_5, hx259_6, hx259_7, hx259_8, hx259_9, hl259_9, hi259_9⟩ := at_T67 (Kd.V_reads' HO_0.out).2.2 x8_1 p259 q259
        cases e259
        obtain ⟨ce259, hce259, hMe259, hcc259⟩ := Kd.V_get HO_0.out z67 x8_1 p259 (by first | exact q259 | exact dt | (have e_ := (Kd.V_reads' HO_0.out).1; omega))
        obtain ⟨ua259_9, uc259_9, rfl, ul259_9, ge259_9⟩ := k67_openF hMe259
        have hv259_9 := hcc259 9 _ rfl
        rw [add_field _ _ 9 (by omega)] at hv259_9
        replace hv259_9 := Option.some.inj (hv259_9.symm.trans hx259_9)
        injection hv259_9 with hva_ hvn_ hvc_
        rw [hva_] at ge259_9
        rw [hvc_] at ul259_9
        have HL259_9 := asd (show Kd.V k70 70 _ w.heap.size _ _ ((J67 l0 x8_1).f3.f3) from Kd.V_mk ul259_9 ge259_9)
        clear hva_ hvn_ hvc_ ge259_9 ul259_9
        clear hcc259 hce259
        have HR259_9 := asd hi259_9
        have HC259_9 := asd hl259_9
        clear hi259_9 hl259_9
        replace p259 := eq_true p259
        replace q259 := eq_true q259
        have p260 : 0 ≤ (x8_1 : Int) := dt
        have q260 : x8_1 < (l0.length : Int) := dt
        obtain ⟨ad260, A260_9, c260_9, e260, hx260_0, hx260_1, hx260_2, hx260_3, hx260_4, hx260_5, hx260_6, hx260_7, hx260_8, hx260_9, hl260_9, hi260_9⟩ := at_T67 (Kd.V_reads' HO_0.out).2.2 x8_1 p260 q260
        obtain rfl : ad259 = ad260 := (by injection e260)
        obtain ⟨ce260, hce260, hMe260, hcc260⟩ := Kd.V_get HO_0.out z67 x8_1 p260 (by first | exact q260 | exact dt | (have e_ := (Kd.V_reads' HO_0.out).1; omega))
        obtain ⟨ua260_9, uc260_9, rfl, ul260_9, ge260_9⟩ := k67_openF hMe260
        have hv260_9 := hcc260 9 _ rfl
        rw [add_field _ _ 9 (by omega)] at hv260_9
        replace hv260_9 := Option.some.inj (hv260_9.symm.trans hx260_9)
        injection hv260_9 with hva_ hvn_ hvc_
        rw [hva_] at ge260_9
        rw [hvc_] at ul260_9
        have HL260_9 := asd (show Kd.V k70 70 _ w.heap.size _ _ ((J67 l0 x8_1).f3.f3) from Kd.V_mk ul260_9 ge260_9)
        clear hva_ hvn_ hvc_ ge260_9 ul260_9
        clear hcc260 hce260
        have HR260_9 := asd hi260_9
        have HC260_9 := asd hl260_9
        clear hi260_9 hl260_9
        replace p260 := eq_true p260
        replace q260 := eq_true q260
        have ea_ := Option.some.inj (hx259_9.symm.trans hx260_9)
        injection ea_ with ea_ en_ ec_
        subst ea_
        subst ec_
        clear en_
        go_wp2_with (first | ((with_reducible refine gate_builtin (b := .append) (xs := #[.tmp 27, .tmp 32]) rfl ?_); at_builtin; refine Kd.N_append k67 (w0 := w) w.heap.size rfl (.tmp 27) (.tmp 32) 22 67 (.agg #[(.int .i64 0), (.bool false), (.int .i64 0), (.int .i64 0), (.int .i64 0), (.int .i64 0), (.bool false), (.int .i64 0), (.int .i64 0), (.slice none 0 0)]) 96 rfl Try.underlying22 info67 rfl (by decide) (by omega) u7 x7_1 (⟨(J67 l0 x8_1).f0, (J67 l0 x8_1).f1, (⟨(J67 l0 x8_1).f2.f0, (J67 l0 x8_1).f2.f1, (J67 l0 x8_1).f2.f2, (J67 l0 x8_1).f2.f3⟩ : S33), (⟨(J67 l0 x8_1).f3.f0, (J67 l0 x8_1).f3.f1, (J67 l0 x8_1).f3.f2, (J67 l0 x8_1).f3.f3⟩ : S36)⟩ : S67) [.int .i64 ((J67 l0 x8_1).f0), .bool ((J67 l0 x8_1).f1), .int .i64 ((J67 l0 x8_1).f2.f0), .int .i64 ((J67 l0 x8_1).f2.f1), .int .i64 ((J67 l0 x8_1).f2.f2), .int .i64 ((J67 l0 x8_1).f2.f3), .bool ((J67 l0 x8_1).f3.f0), .int .i64 ((J67 l0 x8_1).f3.f1), .int .i64 ((J67 l0 x8_1).f3.f2), .slice A259_9 ((J67 l0 x8_1).f3.f3).length c259_9] (fun k_ => (P0_ k_ ∨ w.heap.size ≤ k_)) (fun k_ => ((fun k_ => (P0_ k_ ∨ w.heap.size ≤ k_))) k_ ∧ some k_ ≠ (u7 : Value).ownBlock) rfl rfl ?aP (fun _ hk => hk) ?aF ?aO ?aB ?aS ?aL ?_; (case aP => exact (k67_mkF _ _ (⟨(J67 l0 x8_1).f0, (J67 l0 x8_1).f1, (⟨(J67 l0 x8_1).f2.f0, (J67 l0 x8_1).f2.f1, (J67 l0 x8_1).f2.f2, (J67 l0 x8_1).f2.f3⟩ : S33), (⟨(J67 l0 x8_1).f3.f0, (J67 l0 x8_1).f3.f1, (J67 l0 x8_1).f3.f2, (J67 l0 x8_1).f3.f3⟩ : S36)⟩ : S67) (Kd.V_reads' (Kd.V_mono (ok' := (fun k_ => ((fun k_ => (P0_ k_ ∨ w.heap.size ≤ k_))) k_ ∧ some k_ ≠ (u7 : Value).ownBlock)) (HL260_9.out) (fun k_ hk => ⟨hk.1, hk.2⟩))).2.1 (Kd.V_F (Kd.V_mono (ok' := (fun k_ => ((fun k_ => (P0_ k_ ∨ w.heap.size ≤ k_))) k_ ∧ some k_ ≠ (u7 : Value).ownBlock)) (HL260_9.out) (fun k_ hk => ⟨hk.1, hk.2⟩))))); (case aB => exact (skB HB.out)); (case aF => exact (fun k_ hk => (.inr (Nat.le_trans (below_size (skB HB.out)) hk)))); (case aO => exact (by (with_reducible repeat (first | apply Kd.N_alloc | apply Kd.N_drewN | apply Kd.N_drew)); exact HO_7.out)); (case aS => exact (below_size (skB HB.out))); (case aL => have := LMc9.out; omega); intro v262 w10 ho hb hg hat; rw [← Ny261.out] at ho; have n0_ := asd (Kd.V_afterv (ok := (fun k_ => (P0_ k_ ∨ w.heap.size ≤ k_))) (by (with_reducible repeat (first | apply Kd.V_alloc | apply Kd.V_drewN | apply Kd.V_drew)); exact HO_0.out) hg hat); have n1_ := asd (Kd.V_afterv (ok := (fun k_ => (P0_ k_ ∨ w.heap.size ≤ k_))) (by (with_reducible repeat (first | apply Kd.V_alloc | apply Kd.V_drewN | apply Kd.V_drew)); exact HL259_9.out) hg hat); have n2_ := asd (Kd.V_afterv (ok := (fun k_ => (P0_ k_ ∨ w.heap.size ≤ k_))) (by (with_reducible repeat (first | apply Kd.V_alloc | apply Kd.V_drewN | apply Kd.V_drew)); exact HL260_9.out) hg hat); have n3_ := asd (hb); have n4_ := asd (ho); clear HO_0; clear HL259_9; clear HL260_9; clear HB; clear HO_7; have HO_0 := n0_; have HL259_9 := n1_; have HL260_9 := n2_; have HB := n3_; have HO263 := n4_; clear n0_ n1_ n2_ n3_ n4_; clear ho hb hg hat))
        go_roundg k1
        case measure => have := HK1.out; omega
        case rel => exact ⟨(y261), (wrap64 (x8_1 + 1)), rs, H', ⟨by have := HK1.out; omega⟩, ⟨by (with_reducible repeat (first | apply Kd.V_alloc | apply Kd.V_drewN | apply Kd.V_drew)); exact HO_0.out⟩, ⟨by (with_reducible repeat (first | apply Kd.N_alloc | apply Kd.N_drewN | apply Kd.N_drew)); exact HO263.out⟩, ⟨skB HB.out⟩⟩
       ·
        rw [if_neg c9] at H
        exact absurd H (by simp)
      ·
       rw [if_neg c8] at H
       have c8b0 : (((J67 l0 x8_1).f0) == a1) = false := beq_eq_false_iff_ne.mpr c8
       have c8b1 : (((J67 l0 x8_1).f0) != a1) = true := bne_iff_ne.mpr c8
       have H' := asd H
       clear H
       have p259 : 0 ≤ (x8_1 : Int) := dt
       have q259 : x8_1 < (l0.length : Int) := dt
       obtain ⟨ad259, A259_9, c259_9, e259, hx259_0, hx259_1, hx259_2, hx259_3, hx259_4, hx259_5, hx259_6, hx259_7, hx259_8, hx259_9, hl259_9, hi259_9⟩ := at_T67 (Kd.V_reads' HO_0.out).2.2 x8_1 p259 q259
       cases e259
       obtain ⟨ce259, hce259, hMe259, hcc259⟩ := Kd.V_get HO_0.out z67 x8_1 p259 (by first | exact q259 | exact dt | (have e_ := (Kd.V_reads' HO_0.out).1; omega))
       obtain ⟨ua259_9, uc259_9, rfl, ul259_9, ge259_9⟩ := k67_openF hMe259
       have hv259_9 := hcc259 9 _ rfl
       rw [add_field _ _ 9 (by omega)] at hv259_9
       replace hv259_9 := Option.some.inj (hv259_9.symm.trans hx259_9)
       injection hv259_9 with hva_ hvn_ hvc_
       rw [hva_] at ge259_9
       rw [hvc_] at ul259_9
       have HL259_9 := asd (show Kd.V k70 70 _ w.heap.size _ _ ((J67 l0 x8_1).f3.f3) from Kd.V_mk ul259_9 ge259_9)
       clear hva_ hvn_ hvc_ ge259_9 ul259_9
       clear hcc259 hce259
       have HR259_9 := asd hi259_9
       have HC259_9 := asd hl259_9
       clear hi259_9 hl259_9
       replace p259 := eq_true p259
       replace q259 := eq_true q259
       go_wp2
       go_roundg k1
       case measure => have := HK1.out; omega
       case rel => exact ⟨(x7_1), (wrap64 (x8_1 + 1)), rs, H', ⟨by have := HK1.out; omega⟩, ⟨by (with_reducible repeat (first | apply Kd.V_alloc | apply Kd.V_drewN | apply Kd.V_drew)); exact HO_0.out⟩, ⟨by (with_reducible repeat (first | apply Kd.N_alloc | apply Kd.N_drewN | apply Kd.N_drew)); exact HO_7.out⟩, ⟨skB HB.out⟩⟩
     ·
      rw [if_neg c7] at H
      exact absurd H (by simp)
    ·
     rw [if_neg c6] at H
     have c6b0 : decide (x8_1 < (l0.length : Int)) = false := decide_eq_false c6
     clear c6
     replace H := Option.bind_eq_some_iff.mp H
     obtain ⟨t264, A110, H⟩ := H
     replace H : (some (t264, 0)) = some (r1, r2) := H
     have A11 := asd A110
     clear A110
     simp only [Option.some.injEq, Prod.mk.injEq] at H
     obtain ⟨rfl, rfl⟩ := H
     obtain ⟨Ao12, co12, eo12⟩ := Kd.N_slice HO_7.out
     subst eo12
     go_wp2_with (first | ((with_reducible refine gate_callee (f := 43) rfl ?_); refine goesL_ (some 35) rfl rfl Try.func43 (by kernel_rfl) rfl #[.slice Ao12 x7_1.length co12] rfl ags ?_; (with_reducible refine (larchref05_CopyEvents.calls k1 _ _ x7_1 t264 _ ?side1 ?side2 A11.out).mono ?_); (case side1 => exact skC (Kd.N_reads' HO_7.out).2.2); (case side2 => exact (Kd.N_reads' HO_7.out).2.1); rintro e w13 ⟨v265, rfl, ho0, hb⟩; refine ⟨_, rfl, ?_⟩; have n0_ := asd (Kd.V_elder' (by (with_reducible repeat (first | apply Kd.V_alloc | apply Kd.V_drewN | apply Kd.V_drew)); exact HO_0.out) (Kd.S_base ho0) hb); have n1_ := asd (Kd.N_elder' (by (with_reducible repeat (first | apply Kd.N_alloc | apply Kd.N_drewN | apply Kd.N_drew)); exact HO_7.out) (Kd.S_base ho0) hb); have n2_ := asd (Kd.N_lower (Kd.N_mono (ok' := fun k_ => (P0_ k_ ∨ w.heap.size ≤ k_) ∧ some k_ ≠ (.slice Ao12 x7_1.length co12 : Value).ownBlock) (Kd.S_N (Kd.S_bound ho0)) (fun k_ hk_ => ⟨(.inr (Nat.le_trans (below_size (skB HB.out)) hk_.2.1)), (Kd.fresh' (Kd.N_lt (by (with_reducible repeat (first | apply Kd.N_alloc | apply Kd.N_drewN | apply Kd.N_drew)); exact HO_7.out)) k_ hk_.2.1)⟩)) (below_size (skB HB.out))); have n3_ := asd (below_step (skB HB.out) hb); clear HO_0; clear HO_7; clear HB; have HO_0 := n0_; have HO_7 := n1_; have HO266 := n2_; have HB := n3_; clear n0_ n1_ n2_ n3_; (try clear hb); (try clear hb2); (try clear hk); (try clear hi); (try clear ho0)))
     go_ret2
     exact ⟨_, re, by (with_reducible repeat (first | apply Kd.N_alloc | apply Kd.N_drewN | apply Kd.N_drew)); exact Kd.N_mono HO266.out (fun _ hk => hk.1), skB HB.out⟩
 ·
  rw [if_neg c4] at H
  have c4b0 : (t258 == 0) = false := beq_eq_false_iff_ne.mpr c4
  have c4b1 : (t258 != 0) = true := bne_iff_ne.mpr c4
  simp only [Option.some.injEq, Prod.mk.injEq] at H
  obtain ⟨rfl, rfl⟩ := H
  go_enter Try.func27, Try.ntmps27
  go_wp2_with (first | ((with_reducible refine gate_callee (f := 37) rfl ?_); refine goesL_ (some 10) rfl rfl Try.func37 (by kernel_rfl) rfl #[.slice A0 l0.length c0] rfl ags ?_; (with_reducible refine (larchref05_Check.calls k _ _ l0 t258 _ ?side1 ?side2 A3.out).mono ?_); (case side1 => exact skC (Kd.V_reads' HO0.out).2.2); (case side2 => exact (Kd.V_reads' HO0.out).2.1); rintro e w14 ⟨rfl, hb⟩; refine ⟨_, rfl, ?_⟩; have n0_ := asd (Kd.V_below (by (with_reducible repeat (first | apply Kd.V_alloc | apply Kd.V_drewN | apply Kd.V_drew)); exact HO0.out) hb); have n1_ := asd (below_step (skB HB.out) hb); clear HO0; clear HB; have HO0 := n0_; have HB := n1_; clear n0_ n1_; (try clear hb); (try clear hb2); (try clear hk); (try clear hi)))
  go_ret2
  exact ⟨_, re, by first | exact Kd.S_nil _ _ _ _ _ | exact Kd.N_nil _ _ _ _ _ | exact Kd.V_nil _ _ _ _ _ | exact Kd.Q_nil _ _ _ _ _ | exact Kd.R_nil _ _ _ _ _, skB HB.out⟩
end Go.Proofs.Ytagdkmcgepidoaa.P
/- F34 -/
namespace Go.Proofs.Ytagdkmcgepidoaa.P
open Go.RowKit Go.Proofs.YtagdkmcgepidoaaW.PrintWords Go.Proofs.YtagdkmcgepidoaaW.PrintLast Go.Proofs.YtagdkmcgepidoaaW.PrintMore
attribute [local go_sem] max2_int min2_int max_two min_two max_three min_three max_four min_four   -- for this text's walks alone
set_option linter.unusedVariables false
set_option linter.unusedSimpArgs false
attribute [local go_sem high] eqA33
def larchref05_sameEvent.f (k : Nat) (a0_0 : Int) (a0_1 : Bool) (a0_2 : Int) (a0_3 : Int) (a0_4 : Int) (a0_5 : Int) (a0_6 : Bool) (a0_7 : Int) (a0_8 : Int) (l0_9 : List (S70)) (a1_0 : Int) (a1_1 : Bool) (a1_2 : Int) (a1_3 : Int) (a1_4 : Int) (a1_5 : Int) (a1_6 : Bool) (a1_7 : Int) (a1_8 : Int) (l1_9 : List (S70)) : Option (Bool) := if a0_0 = a1_0 then (if (a0_1 == a1_1) = true then (if (a0_2 == a1_2 && (a0_3 == a1_3 && (a0_4 == a1_4 && (a0_5 == a1_5)))) = true then ((larchref05_SameRet.f k a0_6 a0_7 a0_8 l0_9 a1_6 a1_7 a1_8 l1_9).bind fun t269 => (some t269)) else (some false)) else (some false)) else (some false)
set_option maxHeartbeats 8000000 in
set_option maxRecDepth 100000 in
theorem larchref05_sameEvent.calls (k : Nat) (a0_0 : Int) (a0_1 : Bool) (a0_2 : Int) (a0_3 : Int) (a0_4 : Int) (a0_5 : Int) (a0_6 : Bool) (a0_7 : Int) (a0_8 : Int) (A0_9 : Option Addr) (c0_9 : Nat) (l0_9 : List (S70)) (a1_0 : Int) (a1_1 : Bool) (a1_2 : Int) (a1_3 : Int) (a1_4 : Int) (a1_5 : Int) (a1_6 : Bool) (a1_7 : Int) (a1_8 : Int) (A1_9 : Option Addr) (c1_9 : Nat) (l1_9 : List (S70)) (r : Bool) (w : World) (hr0_9 : Kd.C k70 w A0_9 l0_9.length l0_9) (hc0_9 : l0_9.length ≤ c0_9) (hr1_9 : Kd.C k70 w A1_9 l1_9.length l1_9) (hc1_9 : l1_9.length ≤ c1_9) (h : larchref05_sameEvent.f k a0_0 a0_1 a0_2 a0_3 a0_4 a0_5 a0_6 a0_7 a0_8 l0_9 a1_0 a1_1 a1_2 a1_3 a1_4 a1_5 a1_6 a1_7 a1_8 l1_9 = some r) :
  Calls Try.prog 54 #[.agg #[.int .i64 a0_0, .bool a0_1, .int .i64 a0_2, .int .i64 a0_3, .int .i64 a0_4, .int .i64 a0_5, .bool a0_6, .int .i64 a0_7, .int .i64 a0_8, .slice A0_9 l0_9.length c0_9], .agg #[.int .i64 a1_0, .bool a1_1, .int .i64 a1_2, .int .i64 a1_3, .int .i64 a1_4, .int .i64 a1_5, .bool a1_6, .int .i64 a1_7, .int .i64 a1_8, .slice A1_9 l1_9.length c1_9]] w fun e w' => e = .returned (.bool r) ∧ Below w.heap.size w w' := by
 have hu67 := Try.underlying67
 have hu33 := Try.underlying33
 have hu36 := Try.underlying36
 have HR0_9 := asd hr0_9
 have HC0_9 := asd hc0_9
 clear hr0_9 hc0_9
 have HR1_9 := asd hr1_9
 have HC1_9 := asd hc1_9
 clear hr1_9 hc1_9
 have HB := asd (Below.refl w.heap.size w)
 have H : (if a0_0 = a1_0 then (if (a0_1 == a1_1) = true then (if (a0_2 == a1_2 && (a0_3 == a1_3 && (a0_4 == a1_4 && (a0_5 == a1_5)))) = true then ((larchref05_SameRet.f k a0_6 a0_7 a0_8 l0_9 a1_6 a1_7 a1_8 l1_9).bind fun t269 => (some t269)) else (some false)) else (some false)) else (some false)) = some r := h
 clear h
 by_cases c3 : a0_0 = a1_0
 ·
  rw [if_pos c3] at H
  have c3b0 : (a0_0 == a1_0) = true := beq_iff_eq.mpr c3
  have c3b1 : (a0_0 != a1_0) = false := bne_eq_false_iff_eq.mpr c3
  clear c3
  by_cases c4 : (a0_1 == a1_1) = true
  ·
   rw [if_pos c4] at H
   have c4b0 : (a0_1 == a1_1) = true := c4
   (try (have c4b1 : decide (a0_1 = a1_1) = true := by simpa using c4))
   (try (have c4b2 : (a0_1 == a1_1) = true := by simpa using c4))
   clear c4
   by_cases c5 : (a0_2 == a1_2 && (a0_3 == a1_3 && (a0_4 == a1_4 && (a0_5 == a1_5)))) = true
   ·
    rw [if_pos c5] at H
    have c5b0 : (a0_2 == a1_2 && (a0_3 == a1_3 && (a0_4 == a1_4 && (a0_5 == a1_5)))) = true := c5
    (try (have c5b1 : decide (a0_2 = a1_2 && (a0_3 == a1_3 && (a0_4 == a1_4 && (a0_5 == a1_5)))) = true := by simpa using c5))
    (try (have c5b2 : (a0_2 == a1_2 && (a0_3 == a1_3 && (a0_4 == a1_4 && (a0_5 == a1_5)))) = true := by simpa using c5))
    clear c5
    replace H := Option.bind_eq_some_iff.mp H
    obtain ⟨t269, A60, H⟩ := H
    replace H : (some t269) = some r := H
    have A6 := asd A60
    clear A60
    obtain rfl := Option.some.inj H
    go_enter Try.func54, Try.ntmps54
    go_wp2_with (first | ((with_reducible refine gate_dst (N := 2) rfl ?_); refine box_event ?hg (N := 2) ?hd (cs := #[.int .i64 a0_0, .bool a0_1, .int .i64 a0_2, .int .i64 a0_3, .int .i64 a0_4, .int .i64 a0_5, .bool a0_6, .int .i64 a0_7, .int .i64 a0_8, .slice A0_9 l0_9.length c0_9]) (t := 67) ?hr ?_; (case hd => rfl); (case hg => rfl); (case hr => first | (go_simp; done) | (go_simp; rfl)); intro gb267 hg w7 hbox hb; have n0_ := asd (below_step (skB HB.out) hb); have n1_ := asd (hbox); have n2_ := asd ((by rw [hg]; exact (below_size (skB HB.out)) : w.heap.size ≤ gb267)); have n3_ := asd ((by rw [hg]; exact (below_size (skB HB.out)) : w.heap.size ≤ gb267)); clear HB; have HB := n0_; have BK267 := n1_; have GW267 := n2_; have GE267 := n3_; clear n0_ n1_ n2_ n3_; clear hb hbox hg) | ((with_reducible refine gate_dst (N := 3) rfl ?_); refine box_event ?hg (N := 3) ?hd (cs := #[.int .i64 a1_0, .bool a1_1, .int .i64 a1_2, .int .i64 a1_3, .int .i64 a1_4, .int .i64 a1_5, .bool a1_6, .int .i64 a1_7, .int .i64 a1_8, .slice A1_9 l1_9.length c1_9]) (t := 67) ?hr ?_; (case hd => rfl); (case hg => rfl); (case hr => first | (go_simp; done) | (go_simp; rfl)); intro gb268 hg w8 hbox hb; have n0_ := asd (blk_below (g := gb267) (o := .cells #[.int .i64 a0_0, .bool a0_1, .int .i64 a0_2, .int .i64 a0_3, .int .i64 a0_4, .int .i64 a0_5, .bool a0_6, .int .i64 a0_7, .int .i64 a0_8, .slice A0_9 l0_9.length c0_9] 67 (0, 0)) (skK BK267.out) hb); have n1_ := asd (below_step (skG HB.out GE267.out GE267.out) hb); have n2_ := asd (hbox); have n3_ := asd ((by rw [hg]; exact (below_size (skG HB.out GE267.out GE267.out)) : w.heap.size ≤ gb268)); have n4_ := asd ((by rw [hg]; exact (below_size (skG HB.out GE267.out GE267.out)) : w.heap.size ≤ gb268)); have n5_ := asd ((by rw [hg]; exact Nat.ne_of_lt (blk_lt (g := gb267) (o := .cells #[.int .i64 a0_0, .bool a0_1, .int .i64 a0_2, .int .i64 a0_3, .int .i64 a0_4, .int .i64 a0_5, .bool a0_6, .int .i64 a0_7, .int .i64 a0_8, .slice A0_9 l0_9.length c0_9] 67 (0, 0)) (skK BK267.out)) : gb267 ≠ gb268)); have n6_ := asd ((by rw [hg]; exact Nat.ne_of_gt (blk_lt (g := gb267) (o := .cells #[.int .i64 a0_0, .bool a0_1, .int .i64 a0_2, .int .i64 a0_3, .int .i64 a0_4, .int .i64 a0_5, .bool a0_6, .int .i64 a0_7, .int .i64 a0_8, .slice A0_9 l0_9.length c0_9] 67 (0, 0)) (skK BK267.out)) : gb268 ≠ gb267)); clear BK267; clear HB; have BK267 := n0_; have HB := n1_; have BK268 := n2_; have GW268 := n3_; have GE268 := n4_; have NB267_268 := n5_; have NB268_267 := n6_; clear n0_ n1_ n2_ n3_ n4_ n5_ n6_; clear hb hbox hg; have hnb9 := NB267_268.out; have hnc9 := NB268_267.out; have hcz10_0 : w8.cell? ⟨gb267, 0, none⟩ = some (.int .i64 a0_0) := (blk_cell BK267.out 0).trans rfl; have hcz10_1 : w8.cell? ⟨gb267, 1, none⟩ = some (.bool a0_1) := (blk_cell BK267.out 1).trans rfl; have hcz10_2 : w8.cell? ⟨gb267, 2, none⟩ = some (.int .i64 a0_2) := (blk_cell BK267.out 2).trans rfl; have hcz10_3 : w8.cell? ⟨gb267, 3, none⟩ = some (.int .i64 a0_3) := (blk_cell BK267.out 3).trans rfl; have hcz10_4 : w8.cell? ⟨gb267, 4, none⟩ = some (.int .i64 a0_4) := (blk_cell BK267.out 4).trans rfl; have hcz10_5 : w8.cell? ⟨gb267, 5, none⟩ = some (.int .i64 a0_5) := (blk_cell BK267.out 5).trans rfl; have hcz10_6 : w8.cell? ⟨gb267, 6, none⟩ = some (.bool a0_6) := (blk_cell BK267.out 6).trans rfl; have hcz10_7 : w8.cell? ⟨gb267, 7, none⟩ = some (.int .i64 a0_7) := (blk_cell BK267.out 7).trans rfl; have hcz10_8 : w8.cell? ⟨gb267, 8, none⟩ = some (.int .i64 a0_8) := (blk_cell BK267.out 8).trans rfl; have hcz10_9 : w8.cell? ⟨gb267, 9, none⟩ = some (.slice A0_9 l0_9.length c0_9) := (blk_cell BK267.out 9).trans rfl; have hfz10_0 := blk_frozen BK267.out 0; have hfz10_1 := blk_frozen BK267.out 1; have hfz10_2 := blk_frozen BK267.out 2; have hfz10_3 := blk_frozen BK267.out 3; have hfz10_4 := blk_frozen BK267.out 4; have hfz10_5 := blk_frozen BK267.out 5; have hfz10_6 := blk_frozen BK267.out 6; have hfz10_7 := blk_frozen BK267.out 7; have hfz10_8 := blk_frozen BK267.out 8; have hfz10_9 := blk_frozen BK267.out 9; have hcz11_0 : w8.cell? ⟨gb268, 0, none⟩ = some (.int .i64 a1_0) := (blk_cell BK268.out 0).trans rfl; have hcz11_1 : w8.cell? ⟨gb268, 1, none⟩ = some (.bool a1_1) := (blk_cell BK268.out 1).trans rfl; have hcz11_2 : w8.cell? ⟨gb268, 2, none⟩ = some (.int .i64 a1_2) := (blk_cell BK268.out 2).trans rfl; have hcz11_3 : w8.cell? ⟨gb268, 3, none⟩ = some (.int .i64 a1_3) := (blk_cell BK268.out 3).trans rfl; have hcz11_4 : w8.cell? ⟨gb268, 4, none⟩ = some (.int .i64 a1_4) := (blk_cell BK268.out 4).trans rfl; have hcz11_5 : w8.cell? ⟨gb268, 5, none⟩ = some (.int .i64 a1_5) := (blk_cell BK268.out 5).trans rfl; have hcz11_6 : w8.cell? ⟨gb268, 6, none⟩ = some (.bool a1_6) := (blk_cell BK268.out 6).trans rfl; have hcz11_7 : w8.cell? ⟨gb268, 7, none⟩ = some (.int .i64 a1_7) := (blk_cell BK268.out 7).trans rfl; have hcz11_8 : w8.cell? ⟨gb268, 8, none⟩ = some (.int .i64 a1_8) := (blk_cell BK268.out 8).trans rfl; have hcz11_9 : w8.cell? ⟨gb268, 9, none⟩ = some (.slice A1_9 l1_9.length c1_9) := (blk_cell BK268.out 9).trans rfl; have hfz11_0 := blk_frozen BK268.out 0; have hfz11_1 := blk_frozen BK268.out 1; have hfz11_2 := blk_frozen BK268.out 2; have hfz11_3 := blk_frozen BK268.out 3; have hfz11_4 := blk_frozen BK268.out 4; have hfz11_5 := blk_frozen BK268.out 5; have hfz11_6 := blk_frozen BK268.out 6; have hfz11_7 := blk_frozen BK268.out 7; have hfz11_8 := blk_frozen BK268.out 8; have hfz11_9 := blk_frozen BK268.out 9) | (go_at_call 63; (with_reducible refine (larchref05_SameRet.calls k a0_6 a0_7 a0_8 _ _ l0_9 a1_6 a1_7 a1_8 _ _ l1_9 t269 _ ?side1 ?side2 ?side3 ?side4 A6.out).mono ?_); (case side1 => exact skC (Kd.C_below HR0_9.out HB.out)); (case side2 => exact HC0_9.out); (case side3 => exact skC (Kd.C_below HR1_9.out HB.out)); (case side4 => exact HC1_9.out); rintro e w12 ⟨rfl, hb⟩; have n0_ := asd (blk_below (g := gb267) (o := .cells #[.int .i64 a0_0, .bool a0_1, .int .i64 a0_2, .int .i64 a0_3, .int .i64 a0_4, .int .i64 a0_5, .bool a0_6, .int .i64 a0_7, .int .i64 a0_8, .slice A0_9 l0_9.length c0_9] 67 (0, 0)) (skK BK267.out) hb); have n1_ := asd (blk_below (g := gb268) (o := .cells #[.int .i64 a1_0, .bool a1_1, .int .i64 a1_2, .int .i64 a1_3, .int .i64 a1_4, .int .i64 a1_5, .bool a1_6, .int .i64 a1_7, .int .i64 a1_8, .slice A1_9 l1_9.length c1_9] 67 (0, 0)) (skK BK268.out) hb); have n2_ := asd (below_step (skG HB.out GE267.out GE268.out) hb); clear BK267; clear BK268; clear HB; have BK267 := n0_; have BK268 := n1_; have HB := n2_; clear n0_ n1_ n2_; (try clear hb); (try clear hb2); (try clear hk); (try clear hi)))
    go_ret
    exact ⟨re, skG HB.out GE267.out GE268.out⟩
   ·
    rw [if_neg c5] at H
    have c5b0 : (a0_2 == a1_2 && (a0_3 == a1_3 && (a0_4 == a1_4 && (a0_5 == a1_5)))) = false := by simpa using c5
    (try (have c5b1 : decide (a0_2 = a1_2 && (a0_3 == a1_3 && (a0_4 == a1_4 && (a0_5 == a1_5)))) = false := by simpa using c5))
    (try (have c5b2 : (a0_2 == a1_2 && (a0_3 == a1_3 && (a0_4 == a1_4 && (a0_5 == a1_5)))) = false := by simpa using c5))
    (try (have c5b3 : ¬ (a0_2 = a1_2 && (a0_3 == a1_3 && (a0_4 == a1_4 && (a0_5 == a1_5)))) := by simpa using c5))
    clear c5
    obtain rfl := Option.some.inj H
    go_enter Try.func54, Try.ntmps54
    go_wp2_with (first | ((with_reducible refine gate_dst (N := 2) rfl ?_); refine box_event ?hg (N := 2) ?hd (cs := #[.int .i64 a0_0, .bool a0_1, .int .i64 a0_2, .int .i64 a0_3, .int .i64 a0_4, .int .i64 a0_5, .bool a0_6, .int .i64 a0_7, .int .i64 a0_8, .slice A0_9 l0_9.length c0_9]) (t := 67) ?hr ?_; (case hd => rfl); (case hg => rfl); (case hr => first | (go_simp; done) | (go_simp; rfl)); intro gb267 hg w13 hbox hb; have n0_ := asd (below_step (skB HB.out) hb); have n1_ := asd (hbox); have n2_ := asd ((by rw [hg]; exact (below_size (skB HB.out)) : w.heap.size ≤ gb267)); have n3_ := asd ((by rw [hg]; exact (below_size (skB HB.out)) : w.heap.size ≤ gb267)); clear HB; have HB := n0_; have BK267 := n1_; have GW267 := n2_; have GE267 := n3_; clear n0_ n1_ n2_ n3_; clear hb hbox hg) | ((with_reducible refine gate_dst (N := 3) rfl ?_); refine box_event ?hg (N := 3) ?hd (cs := #[.int .i64 a1_0, .bool a1_1, .int .i64 a1_2, .int .i64 a1_3, .int .i64 a1_4, .int .i64 a1_5, .bool a1_6, .int .i64 a1_7, .int .i64 a1_8, .slice A1_9 l1_9.length c1_9]) (t := 67) ?hr ?_; (case hd => rfl); (case hg => rfl); (case hr => first | (go_simp; done) | (go_simp; rfl)); intro gb268 hg w14 hbox hb; have n0_ := asd (blk_below (g := gb267) (o := .cells #[.int .i64 a0_0, .bool a0_1, .int .i64 a0_2, .int .i64 a0_3, .int .i64 a0_4, .int .i64 a0_5, .bool a0_6, .int .i64 a0_7, .int .i64 a0_8, .slice A0_9 l0_9.length c0_9] 67 (0, 0)) (skK BK267.out) hb); have n1_ := asd (below_step (skG HB.out GE267.out GE267.out) hb); have n2_ := asd (hbox); have n3_ := asd ((by rw [hg]; exact (below_size (skG HB.out GE267.out GE267.out)) : w.heap.size ≤ gb268)); have n4_ := asd ((by rw [hg]; exact (below_size (skG HB.out GE267.out GE267.out)) : w.heap.size ≤ gb268)); have n5_ := asd ((by rw [hg]; exact Nat.ne_of_lt (blk_lt (g := gb267) (o := .cells #[.int .i64 a0_0, .bool a0_1, .int .i64 a0_2, .int .i64 a0_3, .int .i64 a0_4, .int .i64 a0_5, .bool a0_6, .int .i64 a0_7, .int .i64 a0_8, .slice A0_9 l0_9.length c0_9] 67 (0, 0)) (skK BK267.out)) : gb267 ≠ gb268)); have n6_ := asd ((by rw [hg]; exact Nat.ne_of_gt (blk_lt (g := gb267) (o := .cells #[.int .i64 a0_0, .bool a0_1, .int .i64 a0_2, .int .i64 a0_3, .int .i64 a0_4, .int .i64 a0_5, .bool a0_6, .int .i64 a0_7, .int .i64 a0_8, .slice A0_9 l0_9.length c0_9] 67 (0, 0)) (skK BK267.out)) : gb268 ≠ gb267)); clear BK267; clear HB; have BK267 := n0_; have HB := n1_; have BK268 := n2_; have GW268 := n3_; have GE268 := n4_; have NB267_268 := n5_; have NB268_267 := n6_; clear n0_ n1_ n2_ n3_ n4_ n5_ n6_; clear hb hbox hg; have hnb15 := NB267_268.out; have hnc15 := NB268_267.out; have hcz16_0 : w14.cell? ⟨gb267, 0, none⟩ = some (.int .i64 a0_0) := (blk_cell BK267.out 0).trans rfl; have hcz16_1 : w14.cell? ⟨gb267, 1, none⟩ = some (.bool a0_1) := (blk_cell BK267.out 1).trans rfl; have hcz16_2 : w14.cell? ⟨gb267, 2, none⟩ = some (.int .i64 a0_2) := (blk_cell BK267.out 2).trans rfl; have hcz16_3 : w14.cell? ⟨gb267, 3, none⟩ = some (.int .i64 a0_3) := (blk_cell BK267.out 3).trans rfl; have hcz16_4 : w14.cell? ⟨gb267, 4, none⟩ = some (.int .i64 a0_4) := (blk_cell BK267.out 4).trans rfl; have hcz16_5 : w14.cell? ⟨gb267, 5, none⟩ = some (.int .i64 a0_5) := (blk_cell BK267.out 5).trans rfl; have hcz16_6 : w14.cell? ⟨gb267, 6, none⟩ = some (.bool a0_6) := (blk_cell BK267.out 6).trans rfl; have hcz16_7 : w14.cell? ⟨gb267, 7, none⟩ = some (.int .i64 a0_7) := (blk_cell BK267.out 7).trans rfl; have hcz16_8 : w14.cell? ⟨gb267, 8, none⟩ = some (.int .i64 a0_8) := (blk_cell BK267.out 8).trans rfl; have hcz16_9 : w14.cell? ⟨gb267, 9, none⟩ = some (.slice A0_9 l0_9.length c0_9) := (blk_cell BK267.out 9).trans rfl; have hfz16_0 := blk_frozen BK267.out 0; have hfz16_1 := blk_frozen BK267.out 1; have hfz16_2 := blk_frozen BK267.out 2; have hfz16_3 := blk_frozen BK267.out 3; have hfz16_4 := blk_frozen BK267.out 4; have hfz16_5 := blk_frozen BK267.out 5; have hfz16_6 := blk_frozen BK267.out 6; have hfz16_7 := blk_frozen BK267.out 7; have hfz16_8 := blk_frozen BK267.out 8; have hfz16_9 := blk_frozen BK267.out 9; have hcz17_0 : w14.cell? ⟨gb268, 0, none⟩ = some (.int .i64 a1_0) := (blk_cell BK268.out 0).trans rfl; have hcz17_1 : w14.cell? ⟨gb268, 1, none⟩ = some (.bool a1_1) := (blk_cell BK268.out 1).trans rfl; have hcz17_2 : w14.cell? ⟨gb268, 2, none⟩ = some (.int .i64 a1_2) := (blk_cell BK268.out 2).trans rfl; have hcz17_3 : w14.cell? ⟨gb268, 3, none⟩ = some (.int .i64 a1_3) := (blk_cell BK268.out 3).trans rfl; have hcz17_4 : w14.cell? ⟨gb268, 4, none⟩ = some (.int .i64 a1_4) := (blk_cell BK268.out 4).trans rfl; have hcz17_5 : w14.cell? ⟨gb268, 5, none⟩ = some (.int .i64 a1_5) := (blk_cell BK268.out 5).trans rfl; have hcz17_6 : w14.cell? ⟨gb268, 6, none⟩ = some (.bool a1_6) := (blk_cell BK268.out 6).trans rfl; have hcz17_7 : w14.cell? ⟨gb268, 7, none⟩ = some (.int .i64 a1_7) := (blk_cell BK268.out 7).trans rfl; have hcz17_8 : w14.cell? ⟨gb268, 8, none⟩ = some (.int .i64 a1_8) := (blk_cell BK268.out 8).trans rfl; have hcz17_9 : w14.cell? ⟨gb268, 9, none⟩ = some (.slice A1_9 l1_9.length c1_9) := (blk_cell BK268.out 9).trans rfl; have hfz17_0 := blk_frozen BK268.out 0; have hfz17_1 := blk_frozen BK268.out 1; have hfz17_2 := blk_frozen BK268.out 2; have hfz17_3 := blk_frozen BK268.out 3; have hfz17_4 := blk_frozen BK268.out 4; have hfz17_5 := blk_frozen BK268.out 5; have hfz17_6 := blk_frozen BK268.out 6; have hfz17_7 := blk_frozen BK268.out 7; have hfz17_8 := blk_frozen BK268.out 8; have hfz17_9 := blk_frozen BK268.out 9))
    go_ret
    exact ⟨re, skG HB.out GE267.out GE268.out⟩
  ·
   rw [if_neg c4] at H
   have c4b0 : (a0_1 == a1_1) = false := by simpa using c4
   (try (have c4b1 : decide (a0_1 = a1_1) = false := by simpa using c4))
   (try (have c4b2 : (a0_1 == a1_1) = false := by simpa using c4))
   (try (have c4b3 : ¬ (a0_1 = a1_1) := by simpa using c4))
   clear c4
   obtain rfl := Option.some.inj H
   go_enter Try.func54, Try.ntmps54
   go_wp2_with (first | ((with_reducible refine gate_dst (N := 2) rfl ?_); refine box_event ?hg (N := 2) ?hd (cs := #[.int .i64 a0_0, .bool a0_1, .int .i64 a0_2, .int .i64 a0_3, .int .i64 a0_4, .int .i64 a0_5, .bool a0_6, .int .i64 a0_7, .int .i64 a0_8, .slice A0_9 l0_9.length c0_9]) (t := 67) ?hr ?_; (case hd => rfl); (case hg => rfl); (case hr => first | (go_simp; done) | (go_simp; rfl)); intro gb267 hg w18 hbox hb; have n0_ := asd (below_step (skB HB.out) hb); have n1_ := asd (hbox); have n2_ := asd ((by rw [hg]; exact (below_size (skB HB.out)) : w.heap.size ≤ gb267)); have n3_ := asd ((by rw [hg]; exact (below_size (skB HB.out)) : w.heap.size ≤ gb267)); clear HB; have HB := n0_; have BK267 := n1_; have GW267 := n2_; have GE267 := n3_; clear n0_ n1_ n2_ n3_; clear hb hbox hg) | ((with_reducible refine gate_dst (N := 3) rfl ?_); refine box_event ?hg (N := 3) ?hd (cs := #[.int .i64 a1_0, .bool a1_1, .int .i64 a1_2, .int .i64 a1_3, .int .i64 a1_4, .int .i64 a1_5, .bool a1_6, .int .i64 a1_7, .int .i64 a1_8, .slice A1_9 l1_9.length c1_9]) (t := 67) ?hr ?_; (case hd => rfl); (case hg => rfl); (case hr => first | (go_simp; done) | (go_simp; rfl)); intro gb268 hg w19 hbox hb; have n0_ := asd (blk_below (g := gb267) (o := .cells #[.int .i64 a0_0, .bool a0_1, .int .i64 a0_2, .int .i64 a0_3, .int .i64 a0_4, .int .i64 a0_5, .bool a0_6, .int .i64 a0_7, .int .i64 a0_8, .slice A0_9 l0_9.length c0_9] 67 (0, 0)) (skK BK267.out) hb); have n1_ := asd (below_step (skG HB.out GE267.out GE267.out) hb); have n2_ := asd (hbox); have n3_ := asd ((by rw [hg]; exact (below_size (skG HB.out GE267.out GE267.out)) : w.heap.size ≤ gb268)); have n4_ := asd ((by rw [hg]; exact (below_size (skG HB.out GE267.out GE267.out)) : w.heap.size ≤ gb268)); have n5_ := asd ((by rw [hg]; exact Nat.ne_of_lt (blk_lt (g := gb267) (o := .cells #[.int .i64 a0_0, .bool a0_1, .int .i64 a0_2, .int .i64 a0_3, .int .i64 a0_4, .int .i64 a0_5, .bool a0_6, .int .i64 a0_7, .int .i64 a0_8, .slice A0_9 l0_9.length c0_9] 67 (0, 0)) (skK BK267.out)) : gb267 ≠ gb268)); have n6_ := asd ((by rw [hg]; exact Nat.ne_of_gt (blk_lt (g := gb267) (o := .cells #[.int .i64 a0_0, .bool a0_1, .int .i64 a0_2, .int .i64 a0_3, .int .i64 a0_4, .int .i64 a0_5, .bool a0_6, .int .i64 a0_7, .int .i64 a0_8, .slice A0_9 l0_9.length c0_9] 67 (0, 0)) (skK BK267.out)) : gb268 ≠ gb267)); clear BK267; clear HB; have BK267 := n0_; have HB := n1_; have BK268 := n2_; have GW268 := n3_; have GE268 := n4_; have NB267_268 := n5_; have NB268_267 := n6_; clear n0_ n1_ n2_ n3_ n4_ n5_ n6_; clear hb hbox hg; have hnb20 := NB267_268.out; have hnc20 := NB268_267.out; have hcz21_0 : w19.cell? ⟨gb267, 0, none⟩ = some (.int .i64 a0_0) := (blk_cell BK267.out 0).trans rfl; have hcz21_1 : w19.cell? ⟨gb267, 1, none⟩ = some (.bool a0_1) := (blk_cell BK267.out 1).trans rfl; have hcz21_2 : w19.cell? ⟨gb267, 2, none⟩ = some (.int .i64 a0_2) := (blk_cell BK267.out 2).trans rfl; have hcz21_3 : w19.cell? ⟨gb267, 3, none⟩ = some (.int .i64 a0_3) := (blk_cell BK267.out 3).trans rfl; have hcz21_4 : w19.cell? ⟨gb267, 4, none⟩ = some (.int .i64 a0_4) := (blk_cell BK267.out 4).trans rfl; have hcz21_5 : w19.cell? ⟨gb267, 5, none⟩ = some (.int .i64 a0_5) := (blk_cell BK267.out 5).trans rfl; have hcz21_6 : w19.cell? ⟨gb267, 6, none⟩ = some (.bool a0_6) := (blk_cell BK267.out 6).trans rfl; have hcz21_7 : w19.cell? ⟨gb267, 7, none⟩ = some (.int .i64 a0_7) := (blk_cell BK267.out 7).trans rfl; have hcz21_8 : w19.cell? ⟨gb267, 8, none⟩ = some (.int .i64 a0_8) := (blk_cell BK267.out 8).trans rfl; have hcz21_9 : w19.cell? ⟨gb267, 9, none⟩ = some (.slice A0_9 l0_9.length c0_9) := (blk_cell BK267.out 9).trans rfl; have hfz21_0 := blk_frozen BK267.out 0; have hfz21_1 := blk_frozen BK267.out 1; have hfz21_2 := blk_frozen BK267.out 2; have hfz21_3 := blk_frozen BK267.out 3; have hfz21_4 := blk_frozen BK267.out 4; have hfz21_5 := blk_frozen BK267.out 5; have hfz21_6 := blk_frozen BK267.out 6; have hfz21_7 := blk_frozen BK267.out 7; have hfz21_8 := blk_frozen BK267.out 8; have hfz21_9 := blk_frozen BK267.out 9; have hcz22_0 : w19.cell? ⟨gb268, 0, none⟩ = some (.int .i64 a1_0) := (blk_cell BK268.out 0).trans rfl; have hcz22_1 : w19.cell? ⟨gb268, 1, none⟩ = some (.bool a1_1) := (blk_cell BK268.out 1).trans rfl; have hcz22_2 : w19.cell? ⟨gb268, 2, none⟩ = some (.int .i64 a1_2) := (blk_cell BK268.out 2).trans rfl; have hcz22_3 : w19.cell? ⟨gb268, 3, none⟩ = some (.int .i64 a1_3) := (blk_cell BK268.out 3).trans rfl; have hcz22_4 : w19.cell? ⟨gb268, 4, none⟩ = some (.int .i64 a1_4) := (blk_cell BK268.out 4).trans rfl; have hcz22_5 : w19.cell? ⟨gb268, 5, none⟩ = some (.int .i64 a1_5) := (blk_cell BK268.out 5).trans rfl; have hcz22_6 : w19.cell? ⟨gb268, 6, none⟩ = some (.bool a1_6) := (blk_cell BK268.out 6).trans rfl; have hcz22_7 : w19.cell? ⟨gb268, 7, none⟩ = some (.int .i64 a1_7) := (blk_cell BK268.out 7).trans rfl; have hcz22_8 : w19.cell? ⟨gb268, 8, none⟩ = some (.int .i64 a1_8) := (blk_cell BK268.out 8).trans rfl; have hcz22_9 : w19.cell? ⟨gb268, 9, none⟩ = some (.slice A1_9 l1_9.length c1_9) := (blk_cell BK268.out 9).trans rfl; have hfz22_0 := blk_frozen BK268.out 0; have hfz22_1 := blk_frozen BK268.out 1; have hfz22_2 := blk_frozen BK268.out 2; have hfz22_3 := blk_frozen BK268.out 3; have hfz22_4 := blk_frozen BK268.out 4; have hfz22_5 := blk_frozen BK268.out 5; have hfz22_6 := blk_frozen BK268.out 6; have hfz22_7 := blk_frozen BK268.out 7; have hfz22_8 := blk_frozen BK268.out 8; have hfz22_9 := blk_frozen BK268.out 9))
   go_ret
   exact ⟨re, skG HB.out GE267.out GE268.out⟩
 ·
  rw [if_neg c3] at H
  have c3b0 : (a0_0 == a1_0) = false := beq_eq_false_iff_ne.mpr c3
  have c3b1 : (a0_0 != a1_0) = true := bne_iff_ne.mpr c3
  obtain rfl := Option.some.inj H
  go_enter Try.func54, Try.ntmps54
  go_wp2_with (first | ((with_reducible refine gate_dst (N := 2) rfl ?_); refine box_event ?hg (N := 2) ?hd (cs := #[.int .i64 a0_0, .bool a0_1, .int .i64 a0_2, .int .i64 a0_3, .int .i64 a0_4, .int .i64 a0_5, .bool a0_6, .int .i64 a0_7, .int .i64 a0_8, .slice A0_9 l0_9.length c0_9]) (t := 67) ?hr ?_; (case hd => rfl); (case hg => rfl); (case hr => first | (go_simp; done) | (go_simp; rfl)); intro gb267 hg w23 hbox hb; have n0_ := asd (below_step (skB HB.out) hb); have n1_ := asd (hbox); have n2_ := asd ((by rw [hg]; exact (below_size (skB HB.out)) : w.heap.size ≤ gb267)); have n3_ := asd ((by rw [hg]; exact (below_size (skB HB.out)) : w.heap.size ≤ gb267)); clear HB; have HB := n0_; have BK267 := n1_; have GW267 := n2_; have GE267 := n3_; clear n0_ n1_ n2_ n3_; clear hb hbox hg) | ((with_reducible refine gate_dst (N := 3) rfl ?_); refine box_event ?hg (N := 3) ?hd (cs := #[.int .i64 a1_0, .bool a1_1, .int .i64 a1_2, .int .i64 a1_3, .int .i64 a1_4, .int .i64 a1_5, .bool a1_6, .int .i64 a1_7, .int .i64 a1_8, .slice A1_9 l1_9.length c1_9]) (t := 67) ?hr ?_; (case hd => rfl); (case hg => rfl); (case hr => first | (go_simp; done) | (go_simp; rfl)); intro gb268 hg w24 hbox hb; have n0_ := asd (blk_below (g := gb267) (o := .cells #[.int .i64 a0_0, .bool a0_1, .int .i64 a0_2, .int .i64 a0_3, .int .i64 a0_4, .int .i64 a0_5, .bool a0_6, .int .i64 a0_7, .int .i64 a0_8, .slice A0_9 l0_9.length c0_9] 67 (0, 0)) (skK BK267.out) hb); have n1_ := asd (below_step (skG HB.out GE267.out GE267.out) hb); have n2_ := asd (hbox); have n3_ := asd ((by rw [hg]; exact (below_size (skG HB.out GE267.out GE267.out)) : w.heap.size ≤ gb268)); have n4_ := asd ((by rw [hg]; exact (below_size (skG HB.out GE267.out GE267.out)) : w.heap.size ≤ gb268)); have n5_ := asd ((by rw [hg]; exact Nat.ne_of_lt (blk_lt (g := gb267) (o := .cells #[.int .i64 a0_0, .bool a0_1, .int .i64 a0_2, .int .i64 a0_3, .int .i64 a0_4, .int .i64 a0_5, .bool a0_6, .int .i64 a0_7, .int .i64 a0_8, .slice A0_9 l0_9.length c0_9] 67 (0, 0)) (skK BK267.out)) : gb267 ≠ gb268)); have n6_ := asd ((by rw [hg]; exact Nat.ne_of_gt (blk_lt (g := gb267) (o := .cells #[.int .i64 a0_0, .bool a0_1, .int .i64 a0_2, .int .i64 a0_3, .int .i64 a0_4, .int .i64 a0_5, .bool a0_6, .int .i64 a0_7, .int .i64 a0_8, .slice A0_9 l0_9.length c0_9] 67 (0, 0)) (skK BK267.out)) : gb268 ≠ gb267)); clear BK267; clear HB; have BK267 := n0_; have HB := n1_; have BK268 := n2_; have GW268 := n3_; have GE268 := n4_; have NB267_268 := n5_; have NB268_267 := n6_; clear n0_ n1_ n2_ n3_ n4_ n5_ n6_; clear hb hbox hg; have hnb25 := NB267_268.out; have hnc25 := NB268_267.out; have hcz26_0 : w24.cell? ⟨gb267, 0, none⟩ = some (.int .i64 a0_0) := (blk_cell BK267.out 0).trans rfl; have hcz26_1 : w24.cell? ⟨gb267, 1, none⟩ = some (.bool a0_1) := (blk_cell BK267.out 1).trans rfl; have hcz26_2 : w24.cell? ⟨gb267, 2, none⟩ = some (.int .i64 a0_2) := (blk_cell BK267.out 2).trans rfl; have hcz26_3 : w24.cell? ⟨gb267, 3, none⟩ = some (.int .i64 a0_3) := (blk_cell BK267.out 3).trans rfl; have hcz26_4 : w24.cell? ⟨gb267, 4, none⟩ = some (.int .i64 a0_4) := (blk_cell BK267.out 4).trans rfl; have hcz26_5 : w24.cell? ⟨gb267, 5, none⟩ = some (.int .i64 a0_5) := (blk_cell BK267.out 5).trans rfl; have hcz26_6 : w24.cell? ⟨gb267, 6, none⟩ = some (.bool a0_6) := (blk_cell BK267.out 6).trans rfl; have hcz26_7 : w24.cell? ⟨gb267, 7, none⟩ = some (.int .i64 a0_7) := (blk_cell BK267.out 7).trans rfl; have hcz26_8 : w24.cell? ⟨gb267, 8, none⟩ = some (.int .i64 a0_8) := (blk_cell BK267.out 8).trans rfl; have hcz26_9 : w24.cell? ⟨gb267, 9, none⟩ = some (.slice A0_9 l0_9.length c0_9) := (blk_cell BK267.out 9).trans rfl; have hfz26_0 := blk_frozen BK267.out 0; have hfz26_1 := blk_frozen BK267.out 1; have hfz26_2 := blk_frozen BK267.out 2; have hfz26_3 := blk_frozen BK267.out 3; have hfz26_4 := blk_frozen BK267.out 4; have hfz26_5 := blk_frozen BK267.out 5; have hfz26_6 := blk_frozen BK267.out 6; have hfz26_7 := blk_frozen BK267.out 7; have hfz26_8 := blk_frozen BK267.out 8; have hfz26_9 := blk_frozen BK267.out 9; have hcz27_0 : w24.cell? ⟨gb268, 0, none⟩ = some (.int .i64 a1_0) := (blk_cell BK268.out 0).trans rfl; have hcz27_1 : w24.cell? ⟨gb268, 1, none⟩ = some (.bool a1_1) := (blk_cell BK268.out 1).trans rfl; have hcz27_2 : w24.cell? ⟨gb268, 2, none⟩ = some (.int .i64 a1_2) := (blk_cell BK268.out 2).trans rfl; have hcz27_3 : w24.cell? ⟨gb268, 3, none⟩ = some (.int .i64 a1_3) := (blk_cell BK268.out 3).trans rfl; have hcz27_4 : w24.cell? ⟨gb268, 4, none⟩ = some (.int .i64 a1_4) := (blk_cell BK268.out 4).trans rfl; have hcz27_5 : w24.cell? ⟨gb268, 5, none⟩ = some (.int .i64 a1_5) := (blk_cell BK268.out 5).trans rfl; have hcz27_6 : w24.cell? ⟨gb268, 6, none⟩ = some (.bool a1_6) := (blk_cell BK268.out 6).trans rfl; have hcz27_7 : w24.cell? ⟨gb268, 7, none⟩ = some (.int .i64 a1_7) := (blk_cell BK268.out 7).trans rfl; have hcz27_8 : w24.cell? ⟨gb268, 8, none⟩ = some (.int .i64 a1_8) := (blk_cell BK268.out 8).trans rfl; have hcz27_9 : w24.cell? ⟨gb268, 9, none⟩ = some (.slice A1_9 l1_9.length c1_9) := (blk_cell BK268.out 9).trans rfl; have hfz27_0 := blk_frozen BK268.out 0; have hfz27_1 := blk_frozen BK268.out 1; have hfz27_2 := blk_frozen BK268.out 2; have hfz27_3 := blk_frozen BK268.out 3; have hfz27_4 := blk_frozen BK268.out 4; have hfz27_5 := blk_frozen BK268.out 5; have hfz27_6 := blk_frozen BK268.out 6; have hfz27_7 := blk_frozen BK268.out 7; have hfz27_8 := blk_frozen BK268.out 8; have hfz27_9 := blk_frozen BK268.out 9))
  go_ret
  exact ⟨re, skG HB.out GE267.out GE268.out⟩
end Go.Proofs.Ytagdkmcgepidoaa.P
/- F35 -/
namespace Go.Proofs.Ytagdkmcgepidoaa.P
open Go.RowKit Go.Proofs.YtagdkmcgepidoaaW.PrintWords Go.Proofs.YtagdkmcgepidoaaW.PrintLast Go.Proofs.YtagdkmcgepidoaaW.PrintMore
attribute [local go_sem] max2_int min2_int max_two min_two max_three min_three max_four min_four   -- for this text's walks alone
set_option linter.unusedVariables false
set_option linter.unusedSimpArgs false
def larchref05_SameEvents.l0 : Nat → List (S67) → List (S67) → Int → Option (Bool)
 | 0, _, _, _ => none
 | k + 1, x0, x1, x5 => if x5 < (x0.length : Int) then (if 0 ≤ x5 then (if x5 < (x1.length : Int) then ((larchref05_sameEvent.f k ((J67 x0 x5).f0) ((J67 x0 x5).f1) ((J67 x0 x5).f2.f0) ((J67 x0 x5).f2.f1) ((J67 x0 x5).f2.f2) ((J67 x0 x5).f2.f3) ((J67 x0 x5).f3.f0) ((J67 x0 x5).f3.f1) ((J67 x0 x5).f3.f2) ((J67 x0 x5).f3.f3) ((J67 x1 x5).f0) ((J67 x1 x5).f1) ((J67 x1 x5).f2.f0) ((J67 x1 x5).f2.f1) ((J67 x1 x5).f2.f2) ((J67 x1 x5).f2.f3) ((J67 x1 x5).f3.f0) ((J67 x1 x5).f3.f1) ((J67 x1 x5).f3.f2) ((J67 x1 x5).f3.f3)).bind fun t272 => (if t272 = true then (larchref05_SameEvents.l0 k x0 x1 (wrap64 (x5 + 1))) else (some false))) else (none)) else (none)) else (some true)
def larchref05_SameEvents.f (k : Nat) (l0 : List (S67)) (l1 : List (S67)) : Option (Bool) := if (l0.length : Int) = (l1.length : Int) then (larchref05_SameEvents.l0 k l0 l1 0) else (some false)
def larchref05_SameEvents.T6 : Bool × List (List Nat × List Nat) := (true, [([], []), ([], []), ([0, 1], [0, 1]), ([2], [2]), ([], []), ([], []), ([4, 5], [4, 5]), ([6], [6]), ([3, 7], [3, 7]), ([8], [8])])
def larchref05_SameEvents.B6 : List Nat := [0, 0, 3, 7, 0, 0, 48, 112, 255, 511]
theorem larchref05_SameEvents.tab6 : rtab .any (opsOf Try.f29 6) = larchref05_SameEvents.T6 := by kernel_rfl
theorem larchref05_SameEvents.bits6 : waitsOk larchref05_SameEvents.T6.2 larchref05_SameEvents.B6 = true := by kernel_rfl
set_option maxHeartbeats 8000000 in
set_option maxRecDepth 100000 in
theorem larchref05_SameEvents.calls (k : Nat) (A0 : Option Addr) (c0 : Nat) (l0 : List (S67)) (A1 : Option Addr) (c1 : Nat) (l1 : List (S67)) (r : Bool) (w : World) (hr0 : Kd.C k67 w A0 l0.length l0) (hc0 : l0.length ≤ c0) (hr1 : Kd.C k67 w A1 l1.length l1) (hc1 : l1.length ≤ c1) (h : larchref05_SameEvents.f k l0 l1 = some r) :
  Calls Try.prog 29 #[.slice A0 l0.length c0, .slice A1 l1.length c1] w fun e w' => e = .returned (.bool r) ∧ Below w.heap.size w w' := by
 have hu67 := Try.underlying67
 have HR0 := asd hr0
 have HC0 := asd hc0
 clear hr0 hc0
 have HR1 := asd hr1
 have HC1 := asd hc1
 clear hr1 hc1
 have HB := asd (Below.refl w.heap.size w)
 have H : (if (l0.length : Int) = (l1.length : Int) then (larchref05_SameEvents.l0 k l0 l1 0) else (some false)) = some r := h
 clear h
 by_cases c3 : (l0.length : Int) = (l1.length : Int)
 ·
  rw [if_pos c3] at H
  have c3b0 : ((l0.length : Int) == (l1.length : Int)) = true := beq_iff_eq.mpr c3
  have c3b1 : ((l0.length : Int) != (l1.length : Int)) = false := bne_eq_false_iff_eq.mpr c3
  have c3b2 : (l0.length == l1.length) = true := by first | simpa using c3 | (simp at c3 ⊢; omega)
  clear c3
  have H' := asd H
  clear H
  go_enter Try.func29, Try.ntmps29
  go_wp2
  go_loopg [5] k (fun kq v5 w' => ∃ (x5_1 : Int), v5 = .int .i64 x5_1 ∧ Aside0 (larchref05_SameEvents.l0 kq l0 l1 x5_1 = some r) ∧ Aside0 (kq ≤ k) ∧ Aside0 (Below w.heap.size w w'))
  case atStart => exact ⟨(0), rs, H', ⟨Nat.le_refl _⟩, ⟨skB HB.out⟩⟩
  case round =>
   clear H'
   try clear c1
   try clear c2
   try clear p2
   try clear c3
   try clear c3b0
   try clear c3b1
   try clear c3b2
   obtain ⟨x5_1, rfl, HA, HK1, HB⟩ := hrel
   cases gk with
   | zero => exact absurd HA.out (by simp [larchref05_SameEvents.l0])
   | succ k1 =>
    have H := HA.out
    clear HA
    simp only [larchref05_SameEvents.l0] at H
    by_cases c4 : x5_1 < (l0.length : Int)
    ·
     rw [if_pos c4] at H
     have c4b0 : decide (x5_1 < (l0.length : Int)) = true := decide_eq_true c4
     clear c4
     by_cases c5 : 0 ≤ x5_1
     ·
      rw [if_pos c5] at H
      have c5b0 : decide (0 ≤ x5_1) = true := decide_eq_true c5
      clear c5
      by_cases c6 : x5_1 < (l1.length : Int)
      ·
       rw [if_pos c6] at H
       have c6b0 : decide (x5_1 < (l1.length : Int)) = true := decide_eq_true c6
       clear c6
       replace H := Option.bind_eq_some_iff.mp H
       obtain ⟨t272, A70, H⟩ := H
       replace H : (if t272 = true then (larchref05_SameEvents.l0 k1 l0 l1 (wrap64 (x5_1 + 1))) else (some false)) = some r := H
       have A7 := asd A70
       clear A70
       by_cases c8 : t272 = true
       ·
        subst c8
        have H1 : (larchref05_SameEvents.l0 k1 l0 l1 (wrap64 (x5_1 + 1))) = some r := by rw [if_pos rfl] at H; exact H
        clear H
        have H := H1
        clear H1
        have H' := asd H
        clear H
        try go_wp2
        have n0_ := asd (below_drew1 HB.out)
        clear HB
        have HB := n0_
        clear n0_
        have p270 : 0 ≤ (x5_1 : Int) := dt
        have q270 : x5_1 < (l0.length : Int) := dt
        obtain ⟨ad270, A270_9, c270_9, e270, hx270_0, hx270_1, hx270_2, hx270_3, hx270_4, hx270_5, hx270_6, hx270_7, hx270_8, hx270_9, hl270_9, hi270_9⟩ := at_T67 HR0.out x5_1 p270 q270
        have hw270_9 := hx270_9
        have hw270_8 := hx270_8
        have hw270_7 := hx270_7
        have hw270_6 := hx270_6
        have hw270_5 := hx270_5
        have hw270_4 := hx270_4
        have hw270_3 := hx270_3
        have hw270_2 := hx270_2
        have hw270_1 := hx270_1
        have hw270_0 := hx270_0
        cases e270
        replace hx270_0 := skc HB.out hx270_0
        replace hx270_1 := skc HB.out hx270_1
        replace hx270_2 := skc HB.out hx270_2
        replace hx270_3 := skc HB.out hx270_3
        replace hx270_4 := skc HB.out hx270_4
        replace hx270_5 := skc HB.out hx270_5
        replace hx270_6 := skc HB.out hx270_6
        replace hx270_7 := skc HB.out hx270_7
        replace hx270_8 := skc HB.out hx270_8
        replace hx270_9 := skc HB.out hx270_9
        have HR270_9 := asd hi270_9
        have HC270_9 := asd hl270_9
        clear hi270_9 hl270_9
        replace p270 := eq_true p270
        replace q270 := eq_true q270
        have p271 : 0 ≤ (x5_1 : Int) := dt
        have q271 : x5_1 < (l1.length : Int) := dt
        obtain ⟨ad271, A271_9, c271_9, e271, hx271_0, hx271_1, hx271_2, hx271_3, hx271_4, hx271_5, hx271_6, hx271_7, hx271_8, hx271_9, hl271_9, hi271_9⟩ := at_T67 HR1.out x5_1 p271 q271
        have hw271_9 := hx271_9
        have hw271_8 := hx271_8
        have hw271_7 := hx271_7
        have hw271_6 := hx271_6
        have hw271_5 := hx271_5
        have hw271_4 := hx271_4
        have hw271_3 := hx271_3
        have hw271_2 := hx271_2
        have hw271_1 := hx271_1
        have hw271_0 := hx271_0
        cases e271
        replace hx271_0 := skc HB.out hx271_0
        replace hx271_1 := skc HB.out hx271_1
        replace hx271_2 := skc HB.out hx271_2
        replace hx271_3 := skc HB.out hx271_3
        replace hx271_4 := skc HB.out hx271_4
        replace hx271_5 := skc HB.out hx271_5
        replace hx271_6 := skc HB.out hx271_6
        replace hx271_7 := skc HB.out hx271_7
        replace hx271_8 := skc HB.out hx271_8
        replace hx271_9 := skc HB.out hx271_9
        have HR271_9 := asd hi271_9
        have HC271_9 := asd hl271_9
        clear hi271_9 hl271_9
        replace p271 := eq_true p271
        replace q271 := eq_true q271
        refine start_ (n := 10) (S := fun w' => w'.cell? (ad270.add ((x5_1).toNat * 10)) = some (.int .i64 ((J67 l0 x5_1).f0)) ∧ w'.cell? ⟨(ad270.add ((x5_1).toNat * 10)).block, (ad270.add ((x5_1).toNat * 10)).off + 1, none⟩ = some (.bool ((J67 l0 x5_1).f1)) ∧ w'.cell? ⟨(ad270.add ((x5_1).toNat * 10)).block, (ad270.add ((x5_1).toNat * 10)).off + 2, none⟩ = some (.int .i64 ((J67 l0 x5_1).f2.f0)) ∧ w'.cell? ⟨(ad270.add ((x5_1).toNat * 10)).block, (ad270.add ((x5_1).toNat * 10)).off + 3, none⟩ = some (.int .i64 ((J67 l0 x5_1).f2.f1)) ∧ w'.cell? ⟨(ad270.add ((x5_1).toNat * 10)).block, (ad270.add ((x5_1).toNat * 10)).off + 4, none⟩ = some (.int .i64 ((J67 l0 x5_1).f2.f2)) ∧ w'.cell? ⟨(ad270.add ((x5_1).toNat * 10)).block, (ad270.add ((x5_1).toNat * 10)).off + 5, none⟩ = some (.int .i64 ((J67 l0 x5_1).f2.f3)) ∧ w'.cell? ⟨(ad270.add ((x5_1).toNat * 10)).block, (ad270.add ((x5_1).toNat * 10)).off + 6, none⟩ = some (.bool ((J67 l0 x5_1).f3.f0)) ∧ w'.cell? ⟨(ad270.add ((x5_1).toNat * 10)).block, (ad270.add ((x5_1).toNat * 10)).off + 7, none⟩ = some (.int .i64 ((J67 l0 x5_1).f3.f1)) ∧ w'.cell? ⟨(ad270.add ((x5_1).toNat * 10)).block, (ad270.add ((x5_1).toNat * 10)).off + 8, none⟩ = some (.int .i64 ((J67 l0 x5_1).f3.f2)) ∧ w'.cell? ⟨(ad270.add ((x5_1).toNat * 10)).block, (ad270.add ((x5_1).toNat * 10)).off + 9, none⟩ = some (.slice A270_9 ((J67 l0 x5_1).f3.f3).length c270_9) ∧ w'.cell? (ad271.add ((x5_1).toNat * 10)) = some (.int .i64 ((J67 l1 x5_1).f0)) ∧ w'.cell? ⟨(ad271.add ((x5_1).toNat * 10)).block, (ad271.add ((x5_1).toNat * 10)).off + 1, none⟩ = some (.bool ((J67 l1 x5_1).f1)) ∧ w'.cell? ⟨(ad271.add ((x5_1).toNat * 10)).block, (ad271.add ((x5_1).toNat * 10)).off + 2, none⟩ = some (.int .i64 ((J67 l1 x5_1).f2.f0)) ∧ w'.cell? ⟨(ad271.add ((x5_1).toNat * 10)).block, (ad271.add ((x5_1).toNat * 10)).off + 3, none⟩ = some (.int .i64 ((J67 l1 x5_1).f2.f1)) ∧ w'.cell? ⟨(ad271.add ((x5_1).toNat * 10)).block, (ad271.add ((x5_1).toNat * 10)).off + 4, none⟩ = some (.int .i64 ((J67 l1 x5_1).f2.f2)) ∧ w'.cell? ⟨(ad271.add ((x5_1).toNat * 10)).block, (ad271.add ((x5_1).toNat * 10)).off + 5, none⟩ = some (.int .i64 ((J67 l1 x5_1).f2.f3)) ∧ w'.cell? ⟨(ad271.add ((x5_1).toNat * 10)).block, (ad271.add ((x5_1).toNat * 10)).off + 6, none⟩ = some (.bool ((J67 l1 x5_1).f3.f0)) ∧ w'.cell? ⟨(ad271.add ((x5_1).toNat * 10)).block, (ad271.add ((x5_1).toNat * 10)).off + 7, none⟩ = some (.int .i64 ((J67 l1 x5_1).f3.f1)) ∧ w'.cell? ⟨(ad271.add ((x5_1).toNat * 10)).block, (ad271.add ((x5_1).toNat * 10)).off + 8, none⟩ = some (.int .i64 ((J67 l1 x5_1).f3.f2)) ∧ w'.cell? ⟨(ad271.add ((x5_1).toNat * 10)).block, (ad271.add ((x5_1).toNat * 10)).off + 9, none⟩ = some (.slice A271_9 ((J67 l1 x5_1).f3.f3).length c271_9)) (ds := []) #[false,false,false,false,false,false,false,false,false,false] (by kernel_rfl) rfl rfl ⟨(skc HB.out hw270_0), (skc HB.out hw270_1), (skc HB.out hw270_2), (skc HB.out hw270_3), (skc HB.out hw270_4), (skc HB.out hw270_5), (skc HB.out hw270_6), (skc HB.out hw270_7), (skc HB.out hw270_8), (skc HB.out hw270_9), (skc HB.out hw271_0), (skc HB.out hw271_1), (skc HB.out hw271_2), (skc HB.out hw271_3), (skc HB.out hw271_4), (skc HB.out hw271_5), (skc HB.out hw271_6), (skc HB.out hw271_7), (skc HB.out hw271_8), (skc HB.out hw271_9)⟩ (fun hHeld => ?_); refine with_tabW larchref05_SameEvents.tab6 larchref05_SameEvents.bits6 (fun HT_ HW_ => ?_)
        generalize wr.drew = w9 at HB HR270_9 HR271_9 hx270_0 hx270_1 hx270_2 hx270_3 hx270_4 hx270_5 hx270_6 hx270_7 hx270_8 hx270_9 hx271_0 hx271_1 hx271_2 hx271_3 hx271_4 hx271_5 hx271_6 hx271_7 hx271_8 hx271_9 hHeld ⊢
        refine pure_ (i := 0) (N := some 17) (v := ?_) (a' := ?_) #[true,false,false,false,false,false,false,false,false,false] rfl rfl (aK HT_.out) (fun _ _ _ h => h) (Or.inl ⟨by rfl, ?_⟩) ?_ ?_
        rotate_left
        ·
         intro w'
         go_simp
         with_reducible rfl
        rotate_left
        ·
         simp only [Act.put, sp]
         rfl
        refine pure_ (i := 1) (N := some 18) (v := ?_) (a' := ?_) #[true,true,false,false,false,false,false,false,false,false] rfl rfl (aK HT_.out) (fun _ _ _ h => h) (Or.inl ⟨by rfl, ?_⟩) ?_ ?_
        rotate_left
        ·
         intro w'
         go_simp
         with_reducible rfl
        rotate_left
        ·
         simp only [Act.put, sp]
         rfl
        refine pure_ (i := 2) (N := some 19) (v := ?_) (a' := ?_) #[true,true,true,false,false,false,false,false,false,false] rfl rfl (aK HT_.out) (fun _ _ _ h => h) (Or.inl ⟨by rfl, ?_⟩) ?_ ?_
        rotate_left
        ·
         intro w'
         go_simp
         with_reducible rfl
        rotate_left
        ·
         simp only [Act.put, sp]
         rfl
        refine pure_ (i := 4) (N := some 21) (v := ?_) (a' := ?_) #[true,true,true,false,true,false,false,false,false,false] rfl rfl (aK HT_.out) (fun _ _ _ h => h) (Or.inl ⟨by rfl, ?_⟩) ?_ ?_
        rotate_left
        ·
         intro w'
         go_simp
         with_reducible rfl
        rotate_left
        ·
         simp only [Act.put, sp]
         rfl
        refine pure_ (i := 5) (N := some 22) (v := ?_) (a' := ?_) #[true,true,true,false,true,true,false,false,false,false] rfl rfl (aK HT_.out) (fun _ _ _ h => h) (Or.inl ⟨by rfl, ?_⟩) ?_ ?_
        rotate_left
        ·
         intro w'
         go_simp
         with_reducible rfl
        rotate_left
        ·
         simp only [Act.put, sp]
         rfl
        refine pure_ (i := 6) (N := some 23) (v := ?_) (a' := ?_) #[true,true,true,false,true,true,true,false,false,false] rfl rfl (aK HT_.out) (fun _ _ _ h => h) (Or.inl ⟨by rfl, ?_⟩) ?_ ?_
        rotate_left
        ·
         intro w'
         go_simp
         with_reducible rfl
        rotate_left
        ·
         simp only [Act.put, sp]
         rfl
        refine take_ (i := 3) (N := some 20) (v := ?_) (a' := ?_) #[true,true,true,true,true,true,true,false,false,false] rfl rfl (take_ofW HT_.out HW_.out (by kernel_rfl)) (fun _ _ _ h => h) (Or.inl ⟨by rfl, ?_⟩) hHeld ?_ ?_
        rotate_left
        ·
         rintro w' ⟨s0, s1, s2, s3, s4, s5, s6, s7, s8, s9, s10, s11, s12, s13, s14, s15, s16, s17, s18, s19⟩
         go_simp
         with_reducible rfl
        rotate_left
        ·
         simp only [Act.put, sp]
         rfl
        refine take_ (i := 7) (N := some 24) (v := ?_) (a' := ?_) #[true,true,true,true,true,true,true,true,false,false] rfl rfl (take_ofW HT_.out HW_.out (by kernel_rfl)) (fun _ _ _ h => h) (Or.inl ⟨by rfl, ?_⟩) hHeld ?_ ?_
        rotate_left
        ·
         rintro w' ⟨s0, s1, s2, s3, s4, s5, s6, s7, s8, s9, s10, s11, s12, s13, s14, s15, s16, s17, s18, s19⟩
         go_simp
         with_reducible rfl
        rotate_left
        ·
         simp only [Act.put, sp]
         rfl
        refine one_ (i := 8) (N := some 25) #[true,true,true,true,true,true,true,true,true,false] rfl rfl (one_of HT_.out (by kernel_rfl)) (by decide) (fun K hK => ?_)
        refine goes_ Try.func54 (by kernel_rfl) rfl #[.agg #[.int .i64 ((J67 l0 x5_1).f0), .bool ((J67 l0 x5_1).f1), .int .i64 ((J67 l0 x5_1).f2.f0), .int .i64 ((J67 l0 x5_1).f2.f1), .int .i64 ((J67 l0 x5_1).f2.f2), .int .i64 ((J67 l0 x5_1).f2.f3), .bool ((J67 l0 x5_1).f3.f0), .int .i64 ((J67 l0 x5_1).f3.f1), .int .i64 ((J67 l0 x5_1).f3.f2), .slice A270_9 ((J67 l0 x5_1).f3.f3).length c270_9], .agg #[.int .i64 ((J67 l1 x5_1).f0), .bool ((J67 l1 x5_1).f1), .int .i64 ((J67 l1 x5_1).f2.f0), .int .i64 ((J67 l1 x5_1).f2.f1), .int .i64 ((J67 l1 x5_1).f2.f2), .int .i64 ((J67 l1 x5_1).f2.f3), .bool ((J67 l1 x5_1).f3.f0), .int .i64 ((J67 l1 x5_1).f3.f1), .int .i64 ((J67 l1 x5_1).f3.f2), .slice A271_9 ((J67 l1 x5_1).f3.f3).length c271_9]] (by rfl) rfl rfl ags ?_
        with_reducible refine (larchref05_sameEvent.calls k1 ((J67 l0 x5_1).f0) ((J67 l0 x5_1).f1) ((J67 l0 x5_1).f2.f0) ((J67 l0 x5_1).f2.f1) ((J67 l0 x5_1).f2.f2) ((J67 l0 x5_1).f2.f3) ((J67 l0 x5_1).f3.f0) ((J67 l0 x5_1).f3.f1) ((J67 l0 x5_1).f3.f2) _ _ ((J67 l0 x5_1).f3.f3) ((J67 l1 x5_1).f0) ((J67 l1 x5_1).f1) ((J67 l1 x5_1).f2.f0) ((J67 l1 x5_1).f2.f1) ((J67 l1 x5_1).f2.f2) ((J67 l1 x5_1).f2.f3) ((J67 l1 x5_1).f3.f0) ((J67 l1 x5_1).f3.f1) ((J67 l1 x5_1).f3.f2) _ _ ((J67 l1 x5_1).f3.f3) true _ ?side1 ?side2 ?side3 ?side4 A7.out).mono ?_
        (case side1 => exact skC (Kd.C_below HR270_9.out HB.out))
        (case side2 => exact HC270_9.out)
        (case side3 => exact skC (Kd.C_below HR271_9.out HB.out))
        (case side4 => exact HC271_9.out)
        rintro e w10 ⟨rfl, hb⟩
        refine ⟨_, rfl, ?_⟩
        have n0_ := asd (below_step (skB HB.out) hb)
        clear HB
        have HB := n0_
        clear n0_
        (try clear hb)
        (try clear hb2)
        (try clear hk)
        (try clear hi)
        refine hK.out _ _ ⟨(skc HB.out hw270_0), (skc HB.out hw270_1), (skc HB.out hw270_2), (skc HB.out hw270_3), (skc HB.out hw270_4), (skc HB.out hw270_5), (skc HB.out hw270_6), (skc HB.out hw270_7), (skc HB.out hw270_8), (skc HB.out hw270_9), (skc HB.out hw271_0), (skc HB.out hw271_1), (skc HB.out hw271_2), (skc HB.out hw271_3), (skc HB.out hw271_4), (skc HB.out hw271_5), (skc HB.out hw271_6), (skc HB.out hw271_7), (skc HB.out hw271_8), (skc HB.out hw271_9)⟩ (fun hHeld => ?_)
        clear hK K
        refine norm_ (a' := ?_) ?_ ?_
        rotate_left
        ·
         show Act.put _ (some 25) _ = _
         simp only [Act.put, sp]
         rfl
        refine pure_ (i := 9) (N := some 26) (v := ?_) (a' := ?_) #[true,true,true,true,true,true,true,true,true,true] rfl rfl (aK HT_.out) (fun _ _ _ h => h) (Or.inl ⟨by rfl, ?_⟩) ?_ ?_
        rotate_left
        ·
         intro w'
         go_simp
         with_reducible rfl
        rotate_left
        ·
         simp only [Act.put, sp]
         rfl
        refine done_ (done_of HT_.out (by kernel_rfl)) ?_
        try go_wp2
        go_roundg k1
        case measure => have := HK1.out; omega
        case rel => exact ⟨(wrap64 (x5_1 + 1)), rs, H', ⟨by have := HK1.out; omega⟩, ⟨skB HB.out⟩⟩
       ·
        replace c8 := Bool.eq_false_iff.mpr c8
        subst c8
        have H1 : (some false) = some r := by rw [if_neg (show ¬ (false = true) by decide)] at H; exact H
        clear H
        have H := H1
        clear H1
        obtain rfl := Option.some.inj H
        try go_wp2
        have n0_ := asd (below_drew1 HB.out)
        clear HB
        have HB := n0_
        clear n0_
        have p270 : 0 ≤ (x5_1 : Int) := dt
        have q270 : x5_1 < (l0.length : Int) := dt
        obtain ⟨ad270, A270_9, c270_9, e270, hx270_0, hx270_1, hx270_2, hx270_3, hx270_4, hx270_5, hx270_6, hx270_7, hx270_8, hx270_9, hl270_9, hi270_9⟩ := at_T67 HR0.out x5_1 p270 q270
        have hw270_9 := hx270_9
        have hw270_8 := hx270_8
        have hw270_7 := hx270_7
        have hw270_6 := hx270_6
        have hw270_5 := hx270_5
        have hw270_4 := hx270_4
        have hw270_3 := hx270_3
        have hw270_2 := hx270_2
        have hw270_1 := hx270_1
        have hw270_0 := hx270_0
        cases e270
        replace hx270_0 := skc HB.out hx270_0
        replace hx270_1 := skc HB.out hx270_1
        replace hx270_2 := skc HB.out hx270_2
        replace hx270_3 := skc HB.out hx270_3
        replace hx270_4 := skc HB.out hx270_4
        replace hx270_5 := skc HB.out hx270_5
        replace hx270_6 := skc HB.out hx270_6
        replace hx270_7 := skc HB.out hx270_7
        replace hx270_8 := skc HB.out hx270_8
        replace hx270_9 := skc HB.out hx270_9
        have HR270_9 := asd hi270_9
        have HC270_9 := asd hl270_9
        clear hi270_9 hl270_9
        replace p270 := eq_true p270
        replace q270 := eq_true q270
        have p271 : 0 ≤ (x5_1 : Int) := dt
        have q271 : x5_1 < (l1.length : Int) := dt
        obtain ⟨ad271, A271_9, c271_9, e271, hx271_0, hx271_1, hx271_2, hx271_3, hx271_4, hx271_5, hx271_6, hx271_7, hx271_8, hx271_9, hl271_9, hi271_9⟩ := at_T67 HR1.out x5_1 p271 q271
        have hw271_9 := hx271_9
        have hw271_8 := hx271_8
        have hw271_7 := hx271_7
        have hw271_6 := hx271_6
        have hw271_5 := hx271_5
        have hw271_4 := hx271_4
        have hw271_3 := hx271_3
        have hw271_2 := hx271_2
        have hw271_1 := hx271_1
        have hw271_0 := hx271_0
        cases e271
        replace hx271_0 := skc HB.out hx271_0
        replace hx271_1 := skc HB.out hx271_1
        replace hx271_2 := skc HB.out hx271_2
        replace hx271_3 := skc HB.out hx271_3
        replace hx271_4 := skc HB.out hx271_4
        replace hx271_5 := skc HB.out hx271_5
        replace hx271_6 := skc HB.out hx271_6
        replace hx271_7 := skc HB.out hx271_7
        replace hx271_8 := skc HB.out hx271_8
        replace hx271_9 := skc HB.out hx271_9
        have HR271_9 := asd hi271_9
        have HC271_9 := asd hl271_9
        clear hi271_9 hl271_9
        replace p271 := eq_true p271
        replace q271 := eq_true q271
        refine start_ (n := 10) (S := fun w' => w'.cell? (ad270.add ((x5_1).toNat * 10)) = some (.int .i64 ((J67 l0 x5_1).f0)) ∧ w'.cell? ⟨(ad270.add ((x5_1).toNat * 10)).block, (ad270.add ((x5_1).toNat * 10)).off + 1, none⟩ = some (.bool ((J67 l0 x5_1).f1)) ∧ w'.cell? ⟨(ad270.add ((x5_1).toNat * 10)).block, (ad270.add ((x5_1).toNat * 10)).off + 2, none⟩ = some (.int .i64 ((J67 l0 x5_1).f2.f0)) ∧ w'.cell? ⟨(ad270.add ((x5_1).toNat * 10)).block, (ad270.add ((x5_1).toNat * 10)).off + 3, none⟩ = some (.int .i64 ((J67 l0 x5_1).f2.f1)) ∧ w'.cell? ⟨(ad270.add ((x5_1).toNat * 10)).block, (ad270.add ((x5_1).toNat * 10)).off + 4, none⟩ = some (.int .i64 ((J67 l0 x5_1).f2.f2)) ∧ w'.cell? ⟨(ad270.add ((x5_1).toNat * 10)).block, (ad270.add ((x5_1).toNat * 10)).off + 5, none⟩ = some (.int .i64 ((J67 l0 x5_1).f2.f3)) ∧ w'.cell? ⟨(ad270.add ((x5_1).toNat * 10)).block, (ad270.add ((x5_1).toNat * 10)).off + 6, none⟩ = some (.bool ((J67 l0 x5_1).f3.f0)) ∧ w'.cell? ⟨(ad270.add ((x5_1).toNat * 10)).block, (ad270.add ((x5_1).toNat * 10)).off + 7, none⟩ = some (.int .i64 ((J67 l0 x5_1).f3.f1)) ∧ w'.cell? ⟨(ad270.add ((x5_1).toNat * 10)).block, (ad270.add ((x5_1).toNat * 10)).off + 8, none⟩ = some (.int .i64 ((J67 l0 x5_1).f3.f2)) ∧ w'.cell? ⟨(ad270.add ((x5_1).toNat * 10)).block, (ad270.add ((x5_1).toNat * 10)).off + 9, none⟩ = some (.slice A270_9 ((J67 l0 x5_1).f3.f3).length c270_9) ∧ w'.cell? (ad271.add ((x5_1).toNat * 10)) = some (.int .i64 ((J67 l1 x5_1).f0)) ∧ w'.cell? ⟨(ad271.add ((x5_1).toNat * 10)).block, (ad271.add ((x5_1).toNat * 10)).off + 1, none⟩ = some (.bool ((J67 l1 x5_1).f1)) ∧ w'.cell? ⟨(ad271.add ((x5_1).toNat * 10)).block, (ad271.add ((x5_1).toNat * 10)).off + 2, none⟩ = some (.int .i64 ((J67 l1 x5_1).f2.f0)) ∧ w'.cell? ⟨(ad271.add ((x5_1).toNat * 10)).block, (ad271.add ((x5_1).toNat * 10)).off + 3, none⟩ = some (.int .i64 ((J67 l1 x5_1).f2.f1)) ∧ w'.cell? ⟨(ad271.add ((x5_1).toNat * 10)).block, (ad271.add ((x5_1).toNat * 10)).off + 4, none⟩ = some (.int .i64 ((J67 l1 x5_1).f2.f2)) ∧ w'.cell? ⟨(ad271.add ((x5_1).toNat * 10)).block, (ad271.add ((x5_1).toNat * 10)).off + 5, none⟩ = some (.int .i64 ((J67 l1 x5_1).f2.f3)) ∧ w'.cell? ⟨(ad271.add ((x5_1).toNat * 10)).block, (ad271.add ((x5_1).toNat * 10)).off + 6, none⟩ = some (.bool ((J67 l1 x5_1).f3.f0)) ∧ w'.cell? ⟨(ad271.add ((x5_1).toNat * 10)).block, (ad271.add ((x5_1).toNat * 10)).off + 7, none⟩ = some (.int .i64 ((J67 l1 x5_1).f3.f1)) ∧ w'.cell? ⟨(ad271.add ((x5_1).toNat * 10)).block, (ad271.add ((x5_1).toNat * 10)).off + 8, none⟩ = some (.int .i64 ((J67 l1 x5_1).f3.f2)) ∧ w'.cell? ⟨(ad271.add ((x5_1).toNat * 10)).block, (ad271.add ((x5_1).toNat * 10)).off + 9, none⟩ = some (.slice A271_9 ((J67 l1 x5_1).f3.f3).length c271_9)) (ds := []) #[false,false,false,false,false,false,false,false,false,false] (by kernel_rfl) rfl rfl ⟨(skc HB.out hw270_0), (skc HB.out hw270_1), (skc HB.out hw270_2), (skc HB.out hw270_3), (skc HB.out hw270_4), (skc HB.out hw270_5), (skc HB.out hw270_6), (skc HB.out hw270_7), (skc HB.out hw270_8), (skc HB.out hw270_9), (skc HB.out hw271_0), (skc HB.out hw271_1), (skc HB.out hw271_2), (skc HB.out hw271_3), (skc HB.out hw271_4), (skc HB.out hw271_5), (skc HB.out hw271_6), (skc HB.out hw271_7), (skc HB.out hw271_8), (skc HB.out hw271_9)⟩ (fun hHeld => ?_); refine with_tabW larchref05_SameEvents.tab6 larchref05_SameEvents.bits6 (fun HT_ HW_ => ?_)
        generalize wr.drew = w11 at HB HR270_9 HR271_9 hx270_0 hx270_1 hx270_2 hx270_3 hx270_4 hx270_5 hx270_6 hx270_7 hx270_8 hx270_9 hx271_0 hx271_1 hx271_2 hx271_3 hx271_4 hx271_5 hx271_6 hx271_7 hx271_8 hx271_9 hHeld ⊢
        refine pure_ (i := 0) (N := some 17) (v := ?_) (a' := ?_) #[true,false,false,false,false,false,false,false,false,false] rfl rfl (aK HT_.out) (fun _ _ _ h => h) (Or.inl ⟨by rfl, ?_⟩) ?_ ?_
        rotate_left
        ·
         intro w'
         go_simp
         with_reducible rfl
        rotate_left
        ·
         simp only [Act.put, sp]
         rfl
        refine pure_ (i := 1) (N := some 18) (v := ?_) (a' := ?_) #[true,true,false,false,false,false,false,false,false,false] rfl rfl (aK HT_.out) (fun _ _ _ h => h) (Or.inl ⟨by rfl, ?_⟩) ?_ ?_
        rotate_left
        ·
         intro w'
         go_simp
         with_reducible rfl
        rotate_left
        ·
         simp only [Act.put, sp]
         rfl
        refine pure_ (i := 2) (N := some 19) (v := ?_) (a' := ?_) #[true,true,true,false,false,false,false,false,false,false] rfl rfl (aK HT_.out) (fun _ _ _ h => h) (Or.inl ⟨by rfl, ?_⟩) ?_ ?_
        rotate_left
        ·
         intro w'
         go_simp
         with_reducible rfl
        rotate_left
        ·
         simp only [Act.put, sp]
         rfl
        refine pure_ (i := 4) (N := some 21) (v := ?_) (a' := ?_) #[true,true,true,false,true,false,false,false,false,false] rfl rfl (aK HT_.out) (fun _ _ _ h => h) (Or.inl ⟨by rfl, ?_⟩) ?_ ?_
        rotate_left
        ·
         intro w'
         go_simp
         with_reducible rfl
        rotate_left
        ·
         simp only [Act.put, sp]
         rfl
        refine pure_ (i := 5) (N := some 22) (v := ?_) (a' := ?_) #[true,true,true,false,true,true,false,false,false,false] rfl rfl (aK HT_.out) (fun _ _ _ h => h) (Or.inl ⟨by rfl, ?_⟩) ?_ ?_
        rotate_left
        ·
         intro w'
         go_simp
         with_reducible rfl
        rotate_left
        ·
         simp only [Act.put, sp]
         rfl
        refine pure_ (i := 6) (N := some 23) (v := ?_) (a' := ?_) #[true,true,true,false,true,true,true,false,false,false] rfl rfl (aK HT_.out) (fun _ _ _ h => h) (Or.inl ⟨by rfl, ?_⟩) ?_ ?_
        rotate_left
        ·
         intro w'
         go_simp
         with_reducible rfl
        rotate_left
        ·
         simp only [Act.put, sp]
         rfl
        refine take_ (i := 3) (N := some 20) (v := ?_) (a' := ?_) #[true,true,true,true,true,true,true,false,false,false] rfl rfl (take_ofW HT_.out HW_.out (by kernel_rfl)) (fun _ _ _ h => h) (Or.inl ⟨by rfl, ?_⟩) hHeld ?_ ?_
        rotate_left
        ·
         rintro w' ⟨s0, s1, s2, s3, s4, s5, s6, s7, s8, s9, s10, s11, s12, s13, s14, s15, s16, s17, s18, s19⟩
         go_simp
         with_reducible rfl
        rotate_left
        ·
         simp only [Act.put, sp]
         rfl
        refine take_ (i := 7) (N := some 24) (v := ?_) (a' := ?_) #[true,true,true,true,true,true,true,true,false,false] rfl rfl (take_ofW HT_.out HW_.out (by kernel_rfl)) (fun _ _ _ h => h) (Or.inl ⟨by rfl, ?_⟩) hHeld ?_ ?_
        rotate_left
        ·
         rintro w' ⟨s0, s1, s2, s3, s4, s5, s6, s7, s8, s9, s10, s11, s12, s13, s14, s15, s16, s17, s18, s19⟩
         go_simp
         with_reducible rfl
        rotate_left
        ·
         simp only [Act.put, sp]
         rfl
        refine one_ (i := 8) (N := some 25) #[true,true,true,true,true,true,true,true,true,false] rfl rfl (one_of HT_.out (by kernel_rfl)) (by decide) (fun K hK => ?_)
        refine goes_ Try.func54 (by kernel_rfl) rfl #[.agg #[.int .i64 ((J67 l0 x5_1).f0), .bool ((J67 l0 x5_1).f1), .int .i64 ((J67 l0 x5_1).f2.f0), .int .i64 ((J67 l0 x5_1).f2.f1), .int .i64 ((J67 l0 x5_1).f2.f2), .int .i64 ((J67 l0 x5_1).f2.f3), .bool ((J67 l0 x5_1).f3.f0), .int .i64 ((J67 l0 x5_1).f3.f1), .int .i64 ((J67 l0 x5_1).f3.f2), .slice A270_9 ((J67 l0 x5_1).f3.f3).length c270_9], .agg #[.int .i64 ((J67 l1 x5_1).f0), .bool ((J67 l1 x5_1).f1), .int .i64 ((J67 l1 x5_1).f2.f0), .int .i64 ((J67 l1 x5_1).f2.f1), .int .i64 ((J67 l1 x5_1).f2.f2), .int .i64 ((J67 l1 x5_1).f2.f3), .bool ((J67 l1 x5_1).f3.f0), .int .i64 ((J67 l1 x5_1).f3.f1), .int .i64 ((J67 l1 x5_1).f3.f2), .slice A271_9 ((J67 l1 x5_1).f3.f3).length c271_9]] (by rfl) rfl rfl ags ?_
        with_reducible refine (larchref05_sameEvent.calls k1 ((J67 l0 x5_1).f0) ((J67 l0 x5_1).f1) ((J67 l0 x5_1).f2.f0) ((J67 l0 x5_1).f2.f1) ((J67 l0 x5_1).f2.f2) ((J67 l0 x5_1).f2.f3) ((J67 l0 x5_1).f3.f0) ((J67 l0 x5_1).f3.f1) ((J67 l0 x5_1).f3.f2) _ _ ((J67 l0 x5_1).f3.f3) ((J67 l1 x5_1).f0) ((J67 l1 x5_1).f1) ((J67 l1 x5_1).f2.f0) ((J67 l1 x5_1).f2.f1) ((J67 l1 x5_1).f2.f2) ((J67 l1 x5_1).f2.f3) ((J67 l1 x5_1).f3.f0) ((J67 l1 x5_1).f3.f1) ((J67 l1 x5_1).f3.f2) _ _ ((J67 l1 x5_1).f3.f3) false _ ?side1 ?side2 ?side3 ?side4 A7.out).mono ?_
        (case side1 => exact skC (Kd.C_below HR270_9.out HB.out))
        (case side2 => exact HC270_9.out)
        (case side3 => exact skC (Kd.C_below HR271_9.out HB.out))
        (case side4 => exact HC271_9.out)
        rintro e w12 ⟨rfl, hb⟩
        refine ⟨_, rfl, ?_⟩
        have n0_ := asd (below_step (skB HB.out) hb)
        clear HB
        have HB := n0_
        clear n0_
        (try clear hb)
        (try clear hb2)
        (try clear hk)
        (try clear hi)
        refine hK.out _ _ ⟨(skc HB.out hw270_0), (skc HB.out hw270_1), (skc HB.out hw270_2), (skc HB.out hw270_3), (skc HB.out hw270_4), (skc HB.out hw270_5), (skc HB.out hw270_6), (skc HB.out hw270_7), (skc HB.out hw270_8), (skc HB.out hw270_9), (skc HB.out hw271_0), (skc HB.out hw271_1), (skc HB.out hw271_2), (skc HB.out hw271_3), (skc HB.out hw271_4), (skc HB.out hw271_5), (skc HB.out hw271_6), (skc HB.out hw271_7), (skc HB.out hw271_8), (skc HB.out hw271_9)⟩ (fun hHeld => ?_)
        clear hK K
        refine norm_ (a' := ?_) ?_ ?_
        rotate_left
        ·
         show Act.put _ (some 25) _ = _
         simp only [Act.put, sp]
         rfl
        refine pure_ (i := 9) (N := some 26) (v := ?_) (a' := ?_) #[true,true,true,true,true,true,true,true,true,true] rfl rfl (aK HT_.out) (fun _ _ _ h => h) (Or.inl ⟨by rfl, ?_⟩) ?_ ?_
        rotate_left
        ·
         intro w'
         go_simp
         with_reducible rfl
        rotate_left
        ·
         simp only [Act.put, sp]
         rfl
        refine done_ (done_of HT_.out (by kernel_rfl)) ?_
        try go_wp2
        go_ret
        exact ⟨re, skB HB.out⟩
      ·
       rw [if_neg c6] at H
       exact absurd H (by simp)
     ·
      rw [if_neg c5] at H
      exact absurd H (by simp)
    ·
     rw [if_neg c4] at H
     have c4b0 : decide (x5_1 < (l0.length : Int)) = false := decide_eq_false c4
     clear c4
     obtain rfl := Option.some.inj H
     go_wp2
     go_ret
     exact ⟨re, skB HB.out⟩
 ·
  rw [if_neg c3] at H
  have c3b0 : ((l0.length : Int) == (l1.length : Int)) = false := beq_eq_false_iff_ne.mpr c3
  have c3b1 : ((l0.length : Int) != (l1.length : Int)) = true := bne_iff_ne.mpr c3
  have c3b2 : (l0.length == l1.length) = false := by first | simpa using c3 | (simp at c3 ⊢; omega)
  obtain rfl := Option.some.inj H
  go_enter Try.func29, Try.ntmps29
  go_wp2
  go_ret
  exact ⟨re, skB HB.out⟩
end Go.Proofs.Ytagdkmcgepidoaa.P
/- F36 -/
namespace Go.Proofs.Ytagdkmcgepidoaa.P
open Go.RowKit Go.Proofs.YtagdkmcgepidoaaW.PrintWords Go.Proofs.YtagdkmcgepidoaaW.PrintLast Go.Proofs.YtagdkmcgepidoaaW.PrintMore
attribute [local go_sem] max2_int min2_int max_two min_two max_three min_three max_four min_four   -- for this text's walks alone
set_option linter.unusedVariables false
set_option linter.unusedSimpArgs false
mutual
def larchref05_Same.j0 : Nat → List (S67) → List (S67) → Int → Option (Bool × Int)
 | 0, _, _, _ => none
 | k + 1, x0, x1, x6 => if x6 = 0 then (larchref05_Same.l0 k x0 x1 0) else (some (false, x6))
def larchref05_Same.l0 : Nat → List (S67) → List (S67) → Int → Option (Bool × Int)
 | 0, _, _, _ => none
 | k + 1, x0, x1, x7 => if x7 < 64 then ((larchref05_Of.f k x0 x7).bind fun bt275 => ((larchref05_Of.f k x1 x7).bind fun bt279 => ((larchref05_SameEvents.f k bt275.1 bt279.1).bind fun t283 => (if t283 = true then (larchref05_Same.l0 k x0 x1 (wrap64 (x7 + 1))) else (some (false, 0)))))) else (some (true, 0))
end
def larchref05_Same.f (k : Nat) (l0 : List (S67)) (l1 : List (S67)) : Option (Bool × Int) := (larchref05_Check.f k l0).bind fun t273 => (if t273 = 0 then ((larchref05_Check.f k l1).bind fun t274 => (larchref05_Same.j0 k l0 l1 t274)) else (larchref05_Same.j0 k l0 l1 t273))
set_option maxHeartbeats 8000000 in
set_option maxRecDepth 100000 in
theorem larchref05_Same.calls (k : Nat) (A0 : Option Addr) (c0 : Nat) (l0 : List (S67)) (A1 : Option Addr) (c1 : Nat) (l1 : List (S67)) (r1 : Bool) (r2 : Int) (w : World) (hr0 : Kd.C k67 w A0 l0.length l0) (hc0 : l0.length ≤ c0) (hr1 : Kd.C k67 w A1 l1.length l1) (hc1 : l1.length ≤ c1) (h : larchref05_Same.f k l0 l1 = some (r1, r2)) :
  Calls Try.prog 35 #[.slice A0 l0.length c0, .slice A1 l1.length c1] w fun e w' => e = .returned (.tuple #[.bool r1, .int .i64 r2]) ∧ Below w.heap.size w w' := by
 have HR0 := asd hr0
 have HC0 := asd hc0
 clear hr0 hc0
 have HR1 := asd hr1
 have HC1 := asd hc1
 clear hr1 hc1
 have HB := asd (Below.refl w.heap.size w)
 have H : ((larchref05_Check.f k l0).bind fun t273 => (if t273 = 0 then ((larchref05_Check.f k l1).bind fun t274 => (larchref05_Same.j0 k l0 l1 t274)) else (larchref05_Same.j0 k l0 l1 t273))) = some (r1, r2) := h
 clear h
 replace H := Option.bind_eq_some_iff.mp H
 obtain ⟨t273, A30, H⟩ := H
 replace H : (if t273 = 0 then ((larchref05_Check.f k l1).bind fun t274 => (larchref05_Same.j0 k l0 l1 t274)) else (larchref05_Same.j0 k l0 l1 t273)) = some (r1, r2) := H
 have A3 := asd A30
 clear A30
 have HC4 := asd H
 clear H
 go_enter Try.func35, Try.ntmps35
 go_upto_if 15 with (first | ((with_reducible refine gate_callee (f := 37) rfl ?_); refine goesL_ (some 13) rfl rfl Try.func37 (by kernel_rfl) rfl #[.slice A0 l0.length c0] rfl ags ?_; (with_reducible refine (larchref05_Check.calls k _ _ l0 t273 _ ?side1 ?side2 A3.out).mono ?_); (case side1 => exact skC HR0.out); (case side2 => exact HC0.out); rintro e w5 ⟨rfl, hb⟩; refine ⟨_, rfl, ?_⟩; have n0_ := asd (below_step (skB HB.out) hb); clear HB; have HB := n0_; clear n0_; (try clear hb); (try clear hb2); (try clear hk); (try clear hi)))
 (try simp only [Act.put, List.setIfInBounds_toArray, List.set_cons_zero, List.set_cons_succ])
 go_cut [6] (fun v6 wc => ∃ (kq : Nat) (x6_3 : Int), v6 = .int .i64 x6_3 ∧ Aside0 (larchref05_Same.j0 kq l0 l1 x6_3 = some (r1, r2)) ∧ Aside0 (kq ≤ k) ∧ Aside0 (Below w.heap.size w wc))
 case first =>
  have H := HC4.out
  clear HC4
  by_cases c6 : t273 = 0
  ·
   rw [if_pos c6] at H
   have c6b0 : (t273 == 0) = true := beq_iff_eq.mpr c6
   have c6b1 : (t273 != 0) = false := bne_eq_false_iff_eq.mpr c6
   clear c6
   (first | rw [c6b0] | (simp only [i64_w, i32_w]; rw [c6b0]) | skip)
   replace H := Option.bind_eq_some_iff.mp H
   obtain ⟨t274, A70, H⟩ := H
   replace H : (larchref05_Same.j0 k l0 l1 t274) = some (r1, r2) := H
   have A7 := asd A70
   clear A70
   have H' := asd H
   clear H
   go_wp2_with (first | ((with_reducible refine gate_callee (f := 37) rfl ?_); refine goesL_ (some 17) rfl rfl Try.func37 (by kernel_rfl) rfl #[.slice A1 l1.length c1] rfl ags ?_; (with_reducible refine (larchref05_Check.calls k _ _ l1 t274 _ ?side1 ?side2 A7.out).mono ?_); (case side1 => exact skC (Kd.C_below HR1.out HB.out)); (case side2 => exact HC1.out); rintro e w8 ⟨rfl, hb⟩; refine ⟨_, rfl, ?_⟩; have n0_ := asd (below_step (skB HB.out) hb); clear HB; have HB := n0_; clear n0_; (try clear hb); (try clear hb2); (try clear hk); (try clear hi)))
   go_meet
   case rel => exact ⟨_, (t274), rs, H', ⟨by first | omega | exact Nat.le_refl _⟩, ⟨skB HB.out⟩⟩
  ·
   rw [if_neg c6] at H
   have c6b0 : (t273 == 0) = false := beq_eq_false_iff_ne.mpr c6
   have c6b1 : (t273 != 0) = true := bne_iff_ne.mpr c6
   (first | rw [c6b0] | (simp only [i64_w, i32_w]; rw [c6b0]) | skip)
   have H' := asd H
   clear H
   go_wp2
   go_meet
   case rel => exact ⟨_, (t273), rs, H', ⟨by first | omega | exact Nat.le_refl _⟩, ⟨skB HB.out⟩⟩
 case rest =>
  clear HC4
  try clear c1
  try clear p2
  try clear c3
  try clear c6
  try clear c6b0
  try clear c6b1
  obtain ⟨kq, x6_3, rfl, HA, HJ3, HB⟩ := hcut
  cases kq with
  | zero => exact absurd HA.out (by simp [larchref05_Same.j0])
  | succ kj3 =>
   have H := HA.out
   clear HA
   simp only [larchref05_Same.j0] at H
   by_cases c9 : x6_3 = 0
   ·
    rw [if_pos c9] at H
    have c9b0 : (x6_3 == 0) = true := beq_iff_eq.mpr c9
    have c9b1 : (x6_3 != 0) = false := bne_eq_false_iff_eq.mpr c9
    clear c9
    have H' := asd H
    clear H
    go_wp2
    go_loopg [7] kj3 (fun kq v7 w' => ∃ (x7_2 : Int), v7 = .int .i64 x7_2 ∧ Aside0 (larchref05_Same.l0 kq l0 l1 x7_2 = some (r1, r2)) ∧ Aside0 (kq ≤ kj3) ∧ Aside0 (Below w.heap.size w w'))
    case atStart => exact ⟨(0), rs, H', ⟨Nat.le_refl _⟩, ⟨skB HB.out⟩⟩
    case round =>
     clear H'
     try clear c1
     try clear p2
     try clear c3
     try clear c6
     try clear c6b0
     try clear c6b1
     try clear c9
     try clear c9b0
     try clear c9b1
     try clear p2
     obtain ⟨x7_2, rfl, HA, HK2, HB⟩ := hrel
     cases gk with
     | zero => exact absurd HA.out (by simp [larchref05_Same.l0])
     | succ k2 =>
      have H := HA.out
      clear HA
      simp only [larchref05_Same.l0] at H
      by_cases c10 : x7_2 < 64
      ·
       rw [if_pos c10] at H
       have c10b0 : decide (x7_2 < 64) = true := decide_eq_true c10
       clear c10
       replace H := Option.bind_eq_some_iff.mp H
       obtain ⟨⟨t275, t278⟩, A110, H⟩ := H
       replace H : ((larchref05_Of.f k2 l1 x7_2).bind fun bt279 => ((larchref05_SameEvents.f k2 t275 bt279.1).bind fun t283 => (if t283 = true then (larchref05_Same.l0 k2 l0 l1 (wrap64 (x7_2 + 1))) else (some (false, 0))))) = some (r1, r2) := H
       have A11 := asd A110
       clear A110
       replace H := Option.bind_eq_some_iff.mp H
       obtain ⟨⟨t279, t282⟩, A120, H⟩ := H
       replace H : ((larchref05_SameEvents.f k2 t275 t279).bind fun t283 => (if t283 = true then (larchref05_Same.l0 k2 l0 l1 (wrap64 (x7_2 + 1))) else (some (false, 0)))) = some (r1, r2) := H
       have A12 := asd A120
       clear A120
       replace H := Option.bind_eq_some_iff.mp H
       obtain ⟨t283, A130, H⟩ := H
       replace H : (if t283 = true then (larchref05_Same.l0 k2 l0 l1 (wrap64 (x7_2 + 1))) else (some (false, 0))) = some (r1, r2) := H
       have A13 := asd A130
       clear A130
       by_cases c14 : t283 = true
       ·
        subst c14
        have H1 : (larchref05_Same.l0 k2 l0 l1 (wrap64 (x7_2 + 1))) = some (r1, r2) := by rw [if_pos rfl] at H; exact H
        clear H
        have H := H1
        clear H1
        have H' := asd H
        clear H
        go_wp2_with (first | ((with_reducible refine gate_callee (f := 27) rfl ?_); refine goesL_ (some 28) rfl rfl Try.func27 (by kernel_rfl) rfl #[.slice A0 l0.length c0, .int .i64 x7_2] rfl ags ?_; (with_reducible refine (larchref05_Of.calls k2 (fun k_ => k_ < w.heap.size) _ _ l0 x7_2 t275 t278 _ ?side1 A11.out).mono ?_); (case side1 => exact Kd.V_mk HC0.out (Kd.F_below (Kd.C_F k67_heap HR0.out) (skB HB.out))); rintro e w15 ⟨v276, rfl, ho0, hb⟩; refine ⟨_, rfl, ?_⟩; have n0_ := asd (Kd.N_lower (Kd.N_mono (ok' := fun k_ => True) ho0 (fun k_ hk_ => trivial)) (below_size (skB HB.out))); have n1_ := asd (below_step (skB HB.out) hb); clear HB; have HO277 := n0_; have HB := n1_; clear n0_ n1_; (try clear hb); (try clear hb2); (try clear hk); (try clear hi); (try clear ho0)) | ((with_reducible refine gate_callee (f := 27) rfl ?_); refine goesL_ (some 34) rfl rfl Try.func27 (by kernel_rfl) rfl #[.slice A1 l1.length c1, .int .i64 x7_2] rfl ags ?_; (with_reducible refine (larchref05_Of.calls k2 (fun k_ => k_ < w.heap.size) _ _ l1 x7_2 t279 t282 _ ?side1 A12.out).mono ?_); (case side1 => exact Kd.V_mk HC1.out (Kd.F_below (Kd.C_F k67_heap HR1.out) (skB HB.out))); rintro e w16 ⟨v280, rfl, ho0, hb⟩; refine ⟨_, rfl, ?_⟩; have n0_ := asd (Kd.N_elder' (by (with_reducible repeat (first | apply Kd.N_alloc | apply Kd.N_drewN | apply Kd.N_drew)); exact HO277.out) (Kd.N_base ho0) hb); have n1_ := asd (Kd.N_lower (Kd.N_mono (ok' := fun k_ => some k_ ≠ (v276 : Value).ownBlock) ho0 (fun k_ hk_ => Or.elim hk_ (fun hs_ => fun e_ => Nat.not_le.2 hs_ (Kd.N_base HO277.out k_ e_.symm)) (fun hn_ => (Kd.fresh' (Kd.N_lt (by (with_reducible repeat (first | apply Kd.N_alloc | apply Kd.N_drewN | apply Kd.N_drew)); exact HO277.out)) k_ hn_)))) (below_size (skB HB.out))); have n2_ := asd (below_step (skB HB.out) hb); clear HO277; clear HB; have HO277 := n0_; have HO281 := n1_; have HB := n2_; clear n0_ n1_ n2_; (try clear hb); (try clear hb2); (try clear hk); (try clear hi); (try clear ho0); obtain ⟨Ao17, co17, eo17⟩ := Kd.N_slice HO277.out; subst eo17; obtain ⟨Ao18, co18, eo18⟩ := Kd.N_slice HO281.out; subst eo18) | ((with_reducible refine gate_callee (f := 29) rfl ?_); refine goesL_ (some 39) rfl rfl Try.func29 (by kernel_rfl) rfl #[.slice Ao17 t275.length co17, .slice Ao18 t279.length co18] rfl ags ?_; (with_reducible refine (larchref05_SameEvents.calls k2 _ _ t275 _ _ t279 true _ ?side1 ?side2 ?side3 ?side4 A13.out).mono ?_); (case side1 => exact skC (Kd.N_reads' HO277.out).2.2); (case side2 => exact (Kd.N_reads' HO277.out).2.1); (case side3 => exact skC (Kd.N_reads' HO281.out).2.2); (case side4 => exact (Kd.N_reads' HO281.out).2.1); rintro e w19 ⟨rfl, hb⟩; refine ⟨_, rfl, ?_⟩; have n0_ := asd (Kd.N_below (by (with_reducible repeat (first | apply Kd.N_alloc | apply Kd.N_drewN | apply Kd.N_drew)); exact HO277.out) hb); have n1_ := asd (Kd.N_below (by (with_reducible repeat (first | apply Kd.N_alloc | apply Kd.N_drewN | apply Kd.N_drew)); exact HO281.out) hb); have n2_ := asd (below_step (skB HB.out) hb); clear HO277; clear HO281; clear HB; have HO277 := n0_; have HO281 := n1_; have HB := n2_; clear n0_ n1_ n2_; (try clear hb); (try clear hb2); (try clear hk); (try clear hi)))
        go_roundg k2
        case measure => have := HJ3.out; have := HK2.out; omega
        case rel => exact ⟨(wrap64 (x7_2 + 1)), rs, H', ⟨by have := HJ3.out; have := HK2.out; omega⟩, ⟨skB HB.out⟩⟩
       ·
        replace c14 := Bool.eq_false_iff.mpr c14
        subst c14
        have H1 : (some (false, 0)) = some (r1, r2) := by rw [if_neg (show ¬ (false = true) by decide)] at H; exact H
        clear H
        have H := H1
        clear H1
        simp only [Option.some.injEq, Prod.mk.injEq] at H
        obtain ⟨rfl, rfl⟩ := H
        go_wp2_with (first | ((with_reducible refine gate_callee (f := 27) rfl ?_); refine goesL_ (some 28) rfl rfl Try.func27 (by kernel_rfl) rfl #[.slice A0 l0.length c0, .int .i64 x7_2] rfl ags ?_; (with_reducible refine (larchref05_Of.calls k2 (fun k_ => k_ < w.heap.size) _ _ l0 x7_2 t275 t278 _ ?side1 A11.out).mono ?_); (case side1 => exact Kd.V_mk HC0.out (Kd.F_below (Kd.C_F k67_heap HR0.out) (skB HB.out))); rintro e w20 ⟨v276, rfl, ho0, hb⟩; refine ⟨_, rfl, ?_⟩; have n0_ := asd (Kd.N_lower (Kd.N_mono (ok' := fun k_ => True) ho0 (fun k_ hk_ => trivial)) (below_size (skB HB.out))); have n1_ := asd (below_step (skB HB.out) hb); clear HB; have HO277 := n0_; have HB := n1_; clear n0_ n1_; (try clear hb); (try clear hb2); (try clear hk); (try clear hi); (try clear ho0)) | ((with_reducible refine gate_callee (f := 27) rfl ?_); refine goesL_ (some 34) rfl rfl Try.func27 (by kernel_rfl) rfl #[.slice A1 l1.length c1, .int .i64 x7_2] rfl ags ?_; (with_reducible refine (larchref05_Of.calls k2 (fun k_ => k_ < w.heap.size) _ _ l1 x7_2 t279 t282 _ ?side1 A12.out).mono ?_); (case side1 => exact Kd.V_mk HC1.out (Kd.F_below (Kd.C_F k67_heap HR1.out) (skB HB.out))); rintro e w21 ⟨v280, rfl, ho0, hb⟩; refine ⟨_, rfl, ?_⟩; have n0_ := asd (Kd.N_elder' (by (with_reducible repeat (first | apply Kd.N_alloc | apply Kd.N_drewN | apply Kd.N_drew)); exact HO277.out) (Kd.N_base ho0) hb); have n1_ := asd (Kd.N_lower (Kd.N_mono (ok' := fun k_ => some k_ ≠ (v276 : Value).ownBlock) ho0 (fun k_ hk_ => Or.elim hk_ (fun hs_ => fun e_ => Nat.not_le.2 hs_ (Kd.N_base HO277.out k_ e_.symm)) (fun hn_ => (Kd.fresh' (Kd.N_lt (by (with_reducible repeat (first | apply Kd.N_alloc | apply Kd.N_drewN | apply Kd.N_drew)); exact HO277.out)) k_ hn_)))) (below_size (skB HB.out))); have n2_ := asd (below_step (skB HB.out) hb); clear HO277; clear HB; have HO277 := n0_; have HO281 := n1_; have HB := n2_; clear n0_ n1_ n2_; (try clear hb); (try clear hb2); (try clear hk); (try clear hi); (try clear ho0); obtain ⟨Ao22, co22, eo22⟩ := Kd.N_slice HO277.out; subst eo22; obtain ⟨Ao23, co23, eo23⟩ := Kd.N_slice HO281.out; subst eo23) | ((with_reducible refine gate_callee (f := 29) rfl ?_); refine goesL_ (some 39) rfl rfl Try.func29 (by kernel_rfl) rfl #[.slice Ao22 t275.length co22, .slice Ao23 t279.length co23] rfl ags ?_; (with_reducible refine (larchref05_SameEvents.calls k2 _ _ t275 _ _ t279 false _ ?side1 ?side2 ?side3 ?side4 A13.out).mono ?_); (case side1 => exact skC (Kd.N_reads' HO277.out).2.2); (case side2 => exact (Kd.N_reads' HO277.out).2.1); (case side3 => exact skC (Kd.N_reads' HO281.out).2.2); (case side4 => exact (Kd.N_reads' HO281.out).2.1); rintro e w24 ⟨rfl, hb⟩; refine ⟨_, rfl, ?_⟩; have n0_ := asd (Kd.N_below (by (with_reducible repeat (first | apply Kd.N_alloc | apply Kd.N_drewN | apply Kd.N_drew)); exact HO277.out) hb); have n1_ := asd (Kd.N_below (by (with_reducible repeat (first | apply Kd.N_alloc | apply Kd.N_drewN | apply Kd.N_drew)); exact HO281.out) hb); have n2_ := asd (below_step (skB HB.out) hb); clear HO277; clear HO281; clear HB; have HO277 := n0_; have HO281 := n1_; have HB := n2_; clear n0_ n1_ n2_; (try clear hb); (try clear hb2); (try clear hk); (try clear hi)))
        go_ret2
        exact ⟨re, skB HB.out⟩
      ·
       rw [if_neg c10] at H
       have c10b0 : decide (x7_2 < 64) = false := decide_eq_false c10
       clear c10
       simp only [Option.some.injEq, Prod.mk.injEq] at H
       obtain ⟨rfl, rfl⟩ := H
       go_wp2
       go_ret2
       exact ⟨re, skB HB.out⟩
   ·
    rw [if_neg c9] at H
    have c9b0 : (x6_3 == 0) = false := beq_eq_false_iff_ne.mpr c9
    have c9b1 : (x6_3 != 0) = true := bne_iff_ne.mpr c9
    simp only [Option.some.injEq, Prod.mk.injEq] at H
    obtain ⟨rfl, rfl⟩ := H
    go_wp2
    go_ret2
    exact ⟨re, skB HB.out⟩
end Go.Proofs.Ytagdkmcgepidoaa.P
