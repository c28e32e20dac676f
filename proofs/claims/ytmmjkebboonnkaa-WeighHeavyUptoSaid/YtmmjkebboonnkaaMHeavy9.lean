/- P.weighHeavy_holds, part 10 of 22: the contracts of the Go functions that the law calls, its own walk, and its plain law, for every input that the statement speaks of. -/
import Derived.Test.YtmmjkebboonnkaaMHeavy1
import Derived.Test.YtmmjkebboonnkaaMHeavy4
import Derived.Test.YtmmjkebboonnkaaMHeavy6
import Derived.Test.YtmmjkebboonnkaaMHeavy7
import Derived.Test.YtmmjkebboonnkaaMHeavy3
import Derived.Test.YtmmjkebboonnkaaMHeavy5
/- F6 -/
namespace Go.Proofs.Ytmmjkebboonnkaa.P
open Go.RowKit Go.Proofs.YtmmjkebboonnkaaW.PrintWords Go.Proofs.YtmmjkebboonnkaaW.PrintLast Go.Proofs.YtmmjkebboonnkaaW.PrintMore
attribute [local go_sem] max2_int min2_int max_two min_two max_three min_three max_four min_four   -- for this text's walks alone
set_option linter.unusedVariables false
set_option linter.unusedSimpArgs false
def table_Check.l0 : Nat → List (S49) → List (S49) → Int → Int → Option (Int)
 | 0, _, _, _, _ => none
 | k + 1, x0, x13, x14, x15 => if x15 < x14 then (if 0 ≤ x15 then (if x15 < (x13.length : Int) then ((table_formed.f ((rd_T49 x13 x15).f0) ((rd_T49 x13 x15).f1) ((rd_T49 x13 x15).f2) ((rd_T49 x13 x15).f3) ((rd_T49 x13 x15).f4) ((rd_T49 x13 x15).f5) (x0.length : Int)).bind fun t131 => (if t131 = true then (table_Check.l0 k x0 x13 x14 (wrap64 (x15 + 1))) else (some 3))) else (none)) else (none)) else ((table_order.f k x0 0).bind fun t132 => (if (t132.length : Int) = (x0.length : Int) then (some 0) else (some 3)))
def table_Check.f (k : Nat) (l0 : List (S49)) : Option (Int) := if (l0.length : Int) > 100000 then (some 2) else (if (l0.length : Int) = 0 then (some 3) else (table_Check.l0 k l0 l0 (l0.length : Int) 0))
theorem table_Check.mono_l : ∀ k, (∀ y0 y1 y2 y3, LeO (table_Check.l0 k y0 y1 y2 y3) (table_Check.l0 (k + 1) y0 y1 y2 y3))
 | 0 => fun _ _ _ _ r h => by simp [table_Check.l0] at h
 | k + 1 => by
  have ih0 := table_Check.mono_l k
  ·
   intro y0 y1 y2 y3
   unfold table_Check.l0
   repeat' first
   | (with_reducible exact ih0 _ _ _ _)
   | (with_reducible exact table_order.mono _ _ _)
   | (with_reducible exact LeO.refl _)
   | (with_reducible exact LeO.none _)
   | (with_reducible refine LeO.ite ?_ ?_)
   | (with_reducible refine LeO.bind ?_ (fun _ => ?_))
   | exact ih0 _ _ _ _
   | exact table_order.mono _ _ _
   | exact LeO.none _
   | refine LeO.ite ?_ ?_
   | refine LeO.bind ?_ (fun _ => ?_)
theorem table_Check.mono : ∀ a0 k, LeO (table_Check.f k a0) (table_Check.f (k + 1) a0) := by
 intro a0 k
 have ih0 := table_Check.mono_l k
 unfold table_Check.f
 repeat' first
   | (with_reducible exact ih0 _ _ _ _)
   | (with_reducible exact table_order.mono _ _ _)
   | (with_reducible exact LeO.refl _)
   | (with_reducible exact LeO.none _)
   | (with_reducible refine LeO.ite ?_ ?_)
   | (with_reducible refine LeO.bind ?_ (fun _ => ?_))
   | exact ih0 _ _ _ _
   | exact table_order.mono _ _ _
   | exact LeO.none _
   | refine LeO.ite ?_ ?_
   | refine LeO.bind ?_ (fun _ => ?_)
set_option maxHeartbeats 8000000 in
set_option maxRecDepth 100000 in
theorem table_Check.calls (k : Nat) (A0 : Option Addr) (c0 : Nat) (l0 : List (S49)) (r : Int) (w : World) (hr0 : Kd.C k49 w A0 l0.length l0) (hc0 : l0.length ≤ c0) (h : table_Check.f k l0 = some r) :
  Calls Try.prog 60 #[.slice A0 l0.length c0] w fun e w' => e = .returned (.int .i64 r) ∧ Below w.heap.size w w' := by
 have hu49 := Try.underlying49
 have HR0 := Aside0.mk hr0
 have HC0 := Aside0.mk hc0
 clear hr0 hc0
 have HB := Aside0.mk (Below.refl w.heap.size w)
 have H : (if (l0.length : Int) > 100000 then (some 2) else (if (l0.length : Int) = 0 then (some 3) else (table_Check.l0 k l0 l0 (l0.length : Int) 0))) = some r := h
 clear h
 by_cases c2 : (l0.length : Int) > 100000
 ·
  rw [if_pos c2] at H
  have c2b0 : decide (100000 < (l0.length : Int)) = true := decide_eq_true c2
  have c2b1 : decide (100000 < l0.length) = true := decide_eq_true (by omega)
  clear c2
  obtain rfl := Option.some.inj H
  go_enter Try.func60, Try.ntmps60
  go_wp2
  go_ret
  exact ⟨by first | rfl | (simp [errW_none, errW_some] <;> rfl) | (simp [*, errW_none, errW_some] <;> rfl), by repeat (first | (with_reducible first | exact HB.out | apply below_alloc | apply pw_below_drewN | apply below_drew1) | exact HB.out)⟩
 ·
  rw [if_neg c2] at H
  have c2b0 : decide (100000 < (l0.length : Int)) = false := decide_eq_false c2
  have c2b1 : decide (100000 < l0.length) = false := decide_eq_false (by omega)
  clear c2
  by_cases c3 : (l0.length : Int) = 0
  ·
   rw [if_pos c3] at H
   have c3b0 : ((l0.length : Int) == 0) = true := beq_iff_eq.mpr c3
   have c3b1 : ((l0.length : Int) != 0) = false := bne_eq_false_iff_eq.mpr c3
   clear c3
   obtain rfl := Option.some.inj H
   go_enter Try.func60, Try.ntmps60
   go_wp2
   go_ret
   exact ⟨by first | rfl | (simp [errW_none, errW_some] <;> rfl) | (simp [*, errW_none, errW_some] <;> rfl), by repeat (first | (with_reducible first | exact HB.out | apply below_alloc | apply pw_below_drewN | apply below_drew1) | exact HB.out)⟩
  ·
   rw [if_neg c3] at H
   have c3b0 : ((l0.length : Int) == 0) = false := beq_eq_false_iff_ne.mpr c3
   have c3b1 : ((l0.length : Int) != 0) = true := bne_iff_ne.mpr c3
   have c3b2 : ¬ (l0 = []) := fun h_ => c3 (by rw [h_]; rfl)
   have H' := Aside0.mk H
   clear H
   go_enter Try.func60, Try.ntmps60
   go_wp2
   go_loopg [15] k (fun kq v15 w' => ∃ (x15_1 : Int), v15 = .int .i64 x15_1 ∧ Aside0 (table_Check.l0 kq l0 l0 (l0.length : Int) x15_1 = some r) ∧ Aside0 (kq ≤ k) ∧ Aside0 (Below w.heap.size w w'))
   case atStart => exact ⟨(0), (by first | rfl | (simp; done) | (simp [*]; done)), H', ⟨Nat.le_refl _⟩, ⟨by repeat (first | (with_reducible first | exact HB.out | apply below_alloc | apply pw_below_drewN | apply below_drew1) | exact HB.out)⟩⟩
   case round =>
    clear H'
    try clear c2
    try clear c2b0
    try clear c2b1
    try clear p2
    try clear c3
    try clear c3b0
    try clear c3b1
    try clear c3b2
    obtain ⟨x15_1, rfl, HA, HK1, HB⟩ := hrel
    cases gk with
    | zero => exact absurd HA.out (by simp [table_Check.l0])
    | succ k1 =>
     have H := HA.out
     clear HA
     simp only [table_Check.l0] at H
     by_cases c4 : x15_1 < (l0.length : Int)
     ·
      rw [if_pos c4] at H
      have c4b0 : decide (x15_1 < (l0.length : Int)) = true := decide_eq_true c4
      clear c4
      by_cases c5 : 0 ≤ x15_1
      ·
       rw [if_pos c5] at H
       have c5b0 : decide (0 ≤ x15_1) = true := decide_eq_true c5
       clear c5
       by_cases c6 : x15_1 < (l0.length : Int)
       ·
        rw [if_pos c6] at H
        have c6b0 : decide (x15_1 < (l0.length : Int)) = true := decide_eq_true c6
        clear c6
        replace H := Option.bind_eq_some_iff.mp H
        obtain ⟨t131, A70, H⟩ := H
        replace H : (if t131 = true then (table_Check.l0 k1 l0 l0 (l0.length : Int) (wrap64 (x15_1 + 1))) else (some 3)) = some r := H
        have A7 := Aside0.mk A70
        clear A70
        by_cases c8 : t131 = true
        ·
         subst c8
         have H1 : (table_Check.l0 k1 l0 l0 (l0.length : Int) (wrap64 (x15_1 + 1))) = some r := by rw [if_pos rfl] at H; exact H
         clear H
         have H := H1
         clear H1
         have H' := Aside0.mk H
         clear H
         have p129 : 0 ≤ (x15_1 : Int) := of_decide_eq_true (by first | (with_reducible assumption) | assumption)
         have q129 : x15_1 < (l0.length : Int) := of_decide_eq_true (by first | (with_reducible assumption) | assumption)
         obtain ⟨ad129, e129, hx129_0, hx129_1, hx129_2, hx129_3, hx129_4, hx129_5⟩ := at_T49 HR0.out x15_1 p129 q129
         cases e129
         replace hx129_0 := (HB.out.cell (World.block_lt_of_cell? w _ hx129_0)).trans hx129_0
         replace hx129_1 := (HB.out.cell (World.block_lt_of_cell? w _ hx129_1)).trans hx129_1
         replace hx129_2 := (HB.out.cell (World.block_lt_of_cell? w _ hx129_2)).trans hx129_2
         replace hx129_3 := (HB.out.cell (World.block_lt_of_cell? w _ hx129_3)).trans hx129_3
         replace hx129_4 := (HB.out.cell (World.block_lt_of_cell? w _ hx129_4)).trans hx129_4
         replace hx129_5 := (HB.out.cell (World.block_lt_of_cell? w _ hx129_5)).trans hx129_5
         replace p129 := eq_true p129
         replace q129 := eq_true q129
         go_wp2_with (first | ((with_reducible refine gate_dst (N := 4) rfl ?_); refine box_event ?hg (N := 4) ?hd (cs := #[.int .i64 0, .int .i64 0, .int .i64 0, .int .i64 0, .int .i64 0, .int .i64 0]) (t := 49) ?hr ?_; (case hd => rfl); (case hg => rfl); (case hr => first | (go_simp; done) | (go_simp; rfl)); intro gb130 hg w9 hbox hb; have n0_ := Aside0.mk (below_step (by repeat (first | (with_reducible first | exact HB.out | apply below_alloc | apply pw_below_drewN | apply below_drew1) | exact HB.out)) hb); have n1_ := Aside0.mk (hbox); have n2_ := Aside0.mk ((by rw [hg]; exact (below_size (by repeat (first | (with_reducible first | exact HB.out | apply below_alloc | apply pw_below_drewN | apply below_drew1) | exact HB.out))) : w.heap.size ≤ gb130)); have n3_ := Aside0.mk ((by rw [hg]; exact (below_size (by repeat (first | (with_reducible first | exact HB.out | apply below_alloc | apply pw_below_drewN | apply below_drew1) | exact HB.out))) : w.heap.size ≤ gb130)); clear HB; have HB := n0_; have BK130 := n1_; have GW130 := n2_; have GE130 := n3_; clear n0_ n1_ n2_ n3_; clear hb hbox hg; have hcz10_0 : w9.cell? ⟨gb130, 0, none⟩ = some (.int .i64 0) := (blk_cell BK130.out 0).trans rfl; have hcz10_1 : w9.cell? ⟨gb130, 1, none⟩ = some (.int .i64 0) := (blk_cell BK130.out 1).trans rfl; have hcz10_2 : w9.cell? ⟨gb130, 2, none⟩ = some (.int .i64 0) := (blk_cell BK130.out 2).trans rfl; have hcz10_3 : w9.cell? ⟨gb130, 3, none⟩ = some (.int .i64 0) := (blk_cell BK130.out 3).trans rfl; have hcz10_4 : w9.cell? ⟨gb130, 4, none⟩ = some (.int .i64 0) := (blk_cell BK130.out 4).trans rfl; have hcz10_5 : w9.cell? ⟨gb130, 5, none⟩ = some (.int .i64 0) := (blk_cell BK130.out 5).trans rfl; have hfz10_0 := blk_frozen BK130.out 0; have hfz10_1 := blk_frozen BK130.out 1; have hfz10_2 := blk_frozen BK130.out 2; have hfz10_3 := blk_frozen BK130.out 3; have hfz10_4 := blk_frozen BK130.out 4; have hfz10_5 := blk_frozen BK130.out 5) | ((with_reducible refine gate_callee (f := 67) rfl ?_); refine goesL_ (some 22) rfl rfl Try.func67 (by kernel_rfl) rfl #[.agg #[.int .i64 ((rd_T49 l0 x15_1).f0), .int .i64 ((rd_T49 l0 x15_1).f1), .int .i64 ((rd_T49 l0 x15_1).f2), .int .i64 ((rd_T49 l0 x15_1).f3), .int .i64 ((rd_T49 l0 x15_1).f4), .int .i64 ((rd_T49 l0 x15_1).f5)], .int .i64 (l0.length : Int)] rfl (by (try simp only [List.map_toArray, List.map_cons, List.map_nil]); first | done | rfl | (simp only [List.length_drop, List.length_take]; rfl)) ?_; (with_reducible refine (table_formed.calls ((rd_T49 l0 x15_1).f0) ((rd_T49 l0 x15_1).f1) ((rd_T49 l0 x15_1).f2) ((rd_T49 l0 x15_1).f3) ((rd_T49 l0 x15_1).f4) ((rd_T49 l0 x15_1).f5) (l0.length : Int) true _ A7.out).mono ?_); rintro e w11 ⟨rfl, hb⟩; refine ⟨_, rfl, ?_⟩; have n0_ := Aside0.mk (blk_below (g := gb130) (o := .cells #[.int .i64 ((rd_T49 l0 x15_1).f0), .int .i64 ((rd_T49 l0 x15_1).f1), .int .i64 ((rd_T49 l0 x15_1).f2), .int .i64 ((rd_T49 l0 x15_1).f3), .int .i64 ((rd_T49 l0 x15_1).f4), .int .i64 ((rd_T49 l0 x15_1).f5)] 49 (0, 0)) (by (with_reducible repeat (first | refine blk_drewN ?_ _ | refine blk_drew ?_ | refine blk_alloc ?_ _)); refine blk_put (cs := #[.int .i64 ((rd_T49 l0 x15_1).f0), .int .i64 ((rd_T49 l0 x15_1).f1), .int .i64 ((rd_T49 l0 x15_1).f2), .int .i64 ((rd_T49 l0 x15_1).f3), .int .i64 ((rd_T49 l0 x15_1).f4), .int .i64 0]) ?_ 5 _ rfl; (with_reducible repeat (first | refine blk_drewN ?_ _ | refine blk_drew ?_ | refine blk_alloc ?_ _)); refine blk_put (cs := #[.int .i64 ((rd_T49 l0 x15_1).f0), .int .i64 ((rd_T49 l0 x15_1).f1), .int .i64 ((rd_T49 l0 x15_1).f2), .int .i64 ((rd_T49 l0 x15_1).f3), .int .i64 0, .int .i64 0]) ?_ 4 _ rfl; (with_reducible repeat (first | refine blk_drewN ?_ _ | refine blk_drew ?_ | refine blk_alloc ?_ _)); refine blk_put (cs := #[.int .i64 ((rd_T49 l0 x15_1).f0), .int .i64 ((rd_T49 l0 x15_1).f1), .int .i64 ((rd_T49 l0 x15_1).f2), .int .i64 0, .int .i64 0, .int .i64 0]) ?_ 3 _ rfl; (with_reducible repeat (first | refine blk_drewN ?_ _ | refine blk_drew ?_ | refine blk_alloc ?_ _)); refine blk_put (cs := #[.int .i64 ((rd_T49 l0 x15_1).f0), .int .i64 ((rd_T49 l0 x15_1).f1), .int .i64 0, .int .i64 0, .int .i64 0, .int .i64 0]) ?_ 2 _ rfl; (with_reducible repeat (first | refine blk_drewN ?_ _ | refine blk_drew ?_ | refine blk_alloc ?_ _)); refine blk_put (cs := #[.int .i64 ((rd_T49 l0 x15_1).f0), .int .i64 0, .int .i64 0, .int .i64 0, .int .i64 0, .int .i64 0]) ?_ 1 _ rfl; (with_reducible repeat (first | refine blk_drewN ?_ _ | refine blk_drew ?_ | refine blk_alloc ?_ _)); refine blk_put (cs := #[.int .i64 0, .int .i64 0, .int .i64 0, .int .i64 0, .int .i64 0, .int .i64 0]) ?_ 0 _ rfl; (with_reducible repeat (first | refine blk_drewN ?_ _ | refine blk_drew ?_ | refine blk_alloc ?_ _)); exact BK130.out) hb); have n1_ := Aside0.mk (below_step (by repeat (first | (with_reducible first | exact HB.out | apply below_alloc | apply pw_below_drewN | apply below_drew1 | refine below_set ?_ GE130.out) | exact HB.out)) hb); clear BK130; clear HB; have BK130 := n0_; have HB := n1_; clear n0_ n1_; (try clear hb); (try clear hb2); (try clear hk); (try clear hi)))
         go_roundg k1
         case measure => have := HK1.out; omega
         case rel => exact ⟨(wrap64 (x15_1 + 1)), (by first | rfl | (simp; done) | (simp [*]; done)), H', ⟨by have := HK1.out; omega⟩, ⟨by repeat (first | (with_reducible first | exact HB.out | apply below_alloc | apply pw_below_drewN | apply below_drew1 | refine below_set ?_ GE130.out) | exact HB.out)⟩⟩
        ·
         replace c8 := Bool.eq_false_iff.mpr c8
         subst c8
         have H1 : (some 3) = some r := by rw [if_neg (show ¬ (false = true) by decide)] at H; exact H
         clear H
         have H := H1
         clear H1
         obtain rfl := Option.some.inj H
         have p129 : 0 ≤ (x15_1 : Int) := of_decide_eq_true (by first | (with_reducible assumption) | assumption)
         have q129 : x15_1 < (l0.length : Int) := of_decide_eq_true (by first | (with_reducible assumption) | assumption)
         obtain ⟨ad129, e129, hx129_0, hx129_1, hx129_2, hx129_3, hx129_4, hx129_5⟩ := at_T49 HR0.out x15_1 p129 q129
         cases e129
         replace hx129_0 := (HB.out.cell (World.block_lt_of_cell? w _ hx129_0)).trans hx129_0
         replace hx129_1 := (HB.out.cell (World.block_lt_of_cell? w _ hx129_1)).trans hx129_1
         replace hx129_2 := (HB.out.cell (World.block_lt_of_cell? w _ hx129_2)).trans hx129_2
         replace hx129_3 := (HB.out.cell (World.block_lt_of_cell? w _ hx129_3)).trans hx129_3
         replace hx129_4 := (HB.out.cell (World.block_lt_of_cell? w _ hx129_4)).trans hx129_4
         replace hx129_5 := (HB.out.cell (World.block_lt_of_cell? w _ hx129_5)).trans hx129_5
         replace p129 := eq_true p129
         replace q129 := eq_true q129
         go_wp2_with (first | ((with_reducible refine gate_dst (N := 4) rfl ?_); refine box_event ?hg (N := 4) ?hd (cs := #[.int .i64 0, .int .i64 0, .int .i64 0, .int .i64 0, .int .i64 0, .int .i64 0]) (t := 49) ?hr ?_; (case hd => rfl); (case hg => rfl); (case hr => first | (go_simp; done) | (go_simp; rfl)); intro gb130 hg w12 hbox hb; have n0_ := Aside0.mk (below_step (by repeat (first | (with_reducible first | exact HB.out | apply below_alloc | apply pw_below_drewN | apply below_drew1) | exact HB.out)) hb); have n1_ := Aside0.mk (hbox); have n2_ := Aside0.mk ((by rw [hg]; exact (below_size (by repeat (first | (with_reducible first | exact HB.out | apply below_alloc | apply pw_below_drewN | apply below_drew1) | exact HB.out))) : w.heap.size ≤ gb130)); have n3_ := Aside0.mk ((by rw [hg]; exact (below_size (by repeat (first | (with_reducible first | exact HB.out | apply below_alloc | apply pw_below_drewN | apply below_drew1) | exact HB.out))) : w.heap.size ≤ gb130)); clear HB; have HB := n0_; have BK130 := n1_; have GW130 := n2_; have GE130 := n3_; clear n0_ n1_ n2_ n3_; clear hb hbox hg; have hcz13_0 : w12.cell? ⟨gb130, 0, none⟩ = some (.int .i64 0) := (blk_cell BK130.out 0).trans rfl; have hcz13_1 : w12.cell? ⟨gb130, 1, none⟩ = some (.int .i64 0) := (blk_cell BK130.out 1).trans rfl; have hcz13_2 : w12.cell? ⟨gb130, 2, none⟩ = some (.int .i64 0) := (blk_cell BK130.out 2).trans rfl; have hcz13_3 : w12.cell? ⟨gb130, 3, none⟩ = some (.int .i64 0) := (blk_cell BK130.out 3).trans rfl; have hcz13_4 : w12.cell? ⟨gb130, 4, none⟩ = some (.int .i64 0) := (blk_cell BK130.out 4).trans rfl; have hcz13_5 : w12.cell? ⟨gb130, 5, none⟩ = some (.int .i64 0) := (blk_cell BK130.out 5).trans rfl; have hfz13_0 := blk_frozen BK130.out 0; have hfz13_1 := blk_frozen BK130.out 1; have hfz13_2 := blk_frozen BK130.out 2; have hfz13_3 := blk_frozen BK130.out 3; have hfz13_4 := blk_frozen BK130.out 4; have hfz13_5 := blk_frozen BK130.out 5) | ((with_reducible refine gate_callee (f := 67) rfl ?_); refine goesL_ (some 22) rfl rfl Try.func67 (by kernel_rfl) rfl #[.agg #[.int .i64 ((rd_T49 l0 x15_1).f0), .int .i64 ((rd_T49 l0 x15_1).f1), .int .i64 ((rd_T49 l0 x15_1).f2), .int .i64 ((rd_T49 l0 x15_1).f3), .int .i64 ((rd_T49 l0 x15_1).f4), .int .i64 ((rd_T49 l0 x15_1).f5)], .int .i64 (l0.length : Int)] rfl (by (try simp only [List.map_toArray, List.map_cons, List.map_nil]); first | done | rfl | (simp only [List.length_drop, List.length_take]; rfl)) ?_; (with_reducible refine (table_formed.calls ((rd_T49 l0 x15_1).f0) ((rd_T49 l0 x15_1).f1) ((rd_T49 l0 x15_1).f2) ((rd_T49 l0 x15_1).f3) ((rd_T49 l0 x15_1).f4) ((rd_T49 l0 x15_1).f5) (l0.length : Int) false _ A7.out).mono ?_); rintro e w14 ⟨rfl, hb⟩; refine ⟨_, rfl, ?_⟩; have n0_ := Aside0.mk (blk_below (g := gb130) (o := .cells #[.int .i64 ((rd_T49 l0 x15_1).f0), .int .i64 ((rd_T49 l0 x15_1).f1), .int .i64 ((rd_T49 l0 x15_1).f2), .int .i64 ((rd_T49 l0 x15_1).f3), .int .i64 ((rd_T49 l0 x15_1).f4), .int .i64 ((rd_T49 l0 x15_1).f5)] 49 (0, 0)) (by (with_reducible repeat (first | refine blk_drewN ?_ _ | refine blk_drew ?_ | refine blk_alloc ?_ _)); refine blk_put (cs := #[.int .i64 ((rd_T49 l0 x15_1).f0), .int .i64 ((rd_T49 l0 x15_1).f1), .int .i64 ((rd_T49 l0 x15_1).f2), .int .i64 ((rd_T49 l0 x15_1).f3), .int .i64 ((rd_T49 l0 x15_1).f4), .int .i64 0]) ?_ 5 _ rfl; (with_reducible repeat (first | refine blk_drewN ?_ _ | refine blk_drew ?_ | refine blk_alloc ?_ _)); refine blk_put (cs := #[.int .i64 ((rd_T49 l0 x15_1).f0), .int .i64 ((rd_T49 l0 x15_1).f1), .int .i64 ((rd_T49 l0 x15_1).f2), .int .i64 ((rd_T49 l0 x15_1).f3), .int .i64 0, .int .i64 0]) ?_ 4 _ rfl; (with_reducible repeat (first | refine blk_drewN ?_ _ | refine blk_drew ?_ | refine blk_alloc ?_ _)); refine blk_put (cs := #[.int .i64 ((rd_T49 l0 x15_1).f0), .int .i64 ((rd_T49 l0 x15_1).f1), .int .i64 ((rd_T49 l0 x15_1).f2), .int .i64 0, .int .i64 0, .int .i64 0]) ?_ 3 _ rfl; (with_reducible repeat (first | refine blk_drewN ?_ _ | refine blk_drew ?_ | refine blk_alloc ?_ _)); refine blk_put (cs := #[.int .i64 ((rd_T49 l0 x15_1).f0), .int .i64 ((rd_T49 l0 x15_1).f1), .int .i64 0, .int .i64 0, .int .i64 0, .int .i64 0]) ?_ 2 _ rfl; (with_reducible repeat (first | refine blk_drewN ?_ _ | refine blk_drew ?_ | refine blk_alloc ?_ _)); refine blk_put (cs := #[.int .i64 ((rd_T49 l0 x15_1).f0), .int .i64 0, .int .i64 0, .int .i64 0, .int .i64 0, .int .i64 0]) ?_ 1 _ rfl; (with_reducible repeat (first | refine blk_drewN ?_ _ | refine blk_drew ?_ | refine blk_alloc ?_ _)); refine blk_put (cs := #[.int .i64 0, .int .i64 0, .int .i64 0, .int .i64 0, .int .i64 0, .int .i64 0]) ?_ 0 _ rfl; (with_reducible repeat (first | refine blk_drewN ?_ _ | refine blk_drew ?_ | refine blk_alloc ?_ _)); exact BK130.out) hb); have n1_ := Aside0.mk (below_step (by repeat (first | (with_reducible first | exact HB.out | apply below_alloc | apply pw_below_drewN | apply below_drew1 | refine below_set ?_ GE130.out) | exact HB.out)) hb); clear BK130; clear HB; have BK130 := n0_; have HB := n1_; clear n0_ n1_; (try clear hb); (try clear hb2); (try clear hk); (try clear hi)))
         go_ret
         exact ⟨by first | rfl | (simp [errW_none, errW_some] <;> rfl) | (simp [*, errW_none, errW_some] <;> rfl), by repeat (first | (with_reducible first | exact HB.out | apply below_alloc | apply pw_below_drewN | apply below_drew1 | refine below_set ?_ GE130.out) | exact HB.out)⟩
       ·
        rw [if_neg c6] at H
        exact absurd H (by simp)
      ·
       rw [if_neg c5] at H
       exact absurd H (by simp)
     ·
      rw [if_neg c4] at H
      have c4b0 : decide (x15_1 < (l0.length : Int)) = false := decide_eq_false c4
      clear c4
      replace H := Option.bind_eq_some_iff.mp H
      obtain ⟨t132, A150, H⟩ := H
      replace H : (if (t132.length : Int) = (l0.length : Int) then (some 0) else (some 3)) = some r := H
      have A15 := Aside0.mk A150
      clear A150
      by_cases c16 : (t132.length : Int) = (l0.length : Int)
      ·
       rw [if_pos c16] at H
       have c16b0 : ((t132.length : Int) == (l0.length : Int)) = true := beq_iff_eq.mpr c16
       have c16b1 : ((t132.length : Int) != (l0.length : Int)) = false := bne_eq_false_iff_eq.mpr c16
       have c16b2 : (t132.length == l0.length) = true := by first | simpa using c16 | (simp at c16 ⊢; omega)
       clear c16
       obtain rfl := Option.some.inj H
       go_wp2_with (first | ((with_reducible refine gate_callee (f := 65) rfl ?_); refine goesL_ (some 26) rfl rfl Try.func65 (by kernel_rfl) rfl #[.slice A0 l0.length c0, .int .i64 0] rfl (by (try simp only [List.map_toArray, List.map_cons, List.map_nil]); first | done | rfl | (simp only [List.length_drop, List.length_take]; rfl)) ?_; (with_reducible refine (table_order.calls k1 _ _ l0 0 t132 _ ?side1 ?side2 A15.out).mono ?_); (case side1 => repeat (first | exact (Kd.C_below HR0.out HB.out) | (with_reducible refine Kd.C_alloc ?_ _) | (with_reducible refine Kd.C_drewN ?_ _) | (with_reducible refine Kd.C_drew ?_))); (case side2 => exact HC0.out); rintro e w17 ⟨v133, rfl, ho0, hb⟩; refine ⟨_, rfl, ?_⟩; have n0_ := Aside0.mk (Kd.R_lower ho0 (below_size (by repeat (first | (with_reducible first | exact HB.out | apply below_alloc | apply pw_below_drewN | apply below_drew1) | exact HB.out)))); have n1_ := Aside0.mk (below_step (by repeat (first | (with_reducible first | exact HB.out | apply below_alloc | apply pw_below_drewN | apply below_drew1) | exact HB.out)) hb); clear HB; have HO134 := n0_; have HB := n1_; clear n0_ n1_; (try clear hb); (try clear hb2); (try clear hk); (try clear hi); (try clear ho0); obtain ⟨Ao18, co18, eo18⟩ := Kd.R_slice HO134.out; subst eo18))
       go_ret
       exact ⟨by first | rfl | (simp [errW_none, errW_some] <;> rfl) | (simp [*, errW_none, errW_some] <;> rfl), by repeat (first | (with_reducible first | exact HB.out | apply below_alloc | apply pw_below_drewN | apply below_drew1) | exact HB.out)⟩
      ·
       rw [if_neg c16] at H
       have c16b0 : ((t132.length : Int) == (l0.length : Int)) = false := beq_eq_false_iff_ne.mpr c16
       have c16b1 : ((t132.length : Int) != (l0.length : Int)) = true := bne_iff_ne.mpr c16
       have c16b2 : (t132.length == l0.length) = false := by first | simpa using c16 | (simp at c16 ⊢; omega)
       obtain rfl := Option.some.inj H
       go_wp2_with (first | ((with_reducible refine gate_callee (f := 65) rfl ?_); refine goesL_ (some 26) rfl rfl Try.func65 (by kernel_rfl) rfl #[.slice A0 l0.length c0, .int .i64 0] rfl (by (try simp only [List.map_toArray, List.map_cons, List.map_nil]); first | done | rfl | (simp only [List.length_drop, List.length_take]; rfl)) ?_; (with_reducible refine (table_order.calls k1 _ _ l0 0 t132 _ ?side1 ?side2 A15.out).mono ?_); (case side1 => repeat (first | exact (Kd.C_below HR0.out HB.out) | (with_reducible refine Kd.C_alloc ?_ _) | (with_reducible refine Kd.C_drewN ?_ _) | (with_reducible refine Kd.C_drew ?_))); (case side2 => exact HC0.out); rintro e w19 ⟨v133, rfl, ho0, hb⟩; refine ⟨_, rfl, ?_⟩; have n0_ := Aside0.mk (Kd.R_lower ho0 (below_size (by repeat (first | (with_reducible first | exact HB.out | apply below_alloc | apply pw_below_drewN | apply below_drew1) | exact HB.out)))); have n1_ := Aside0.mk (below_step (by repeat (first | (with_reducible first | exact HB.out | apply below_alloc | apply pw_below_drewN | apply below_drew1) | exact HB.out)) hb); clear HB; have HO134 := n0_; have HB := n1_; clear n0_ n1_; (try clear hb); (try clear hb2); (try clear hk); (try clear hi); (try clear ho0); obtain ⟨Ao20, co20, eo20⟩ := Kd.R_slice HO134.out; subst eo20))
       go_ret
       exact ⟨by first | rfl | (simp [errW_none, errW_some] <;> rfl) | (simp [*, errW_none, errW_some] <;> rfl), by repeat (first | (with_reducible first | exact HB.out | apply below_alloc | apply pw_below_drewN | apply below_drew1) | exact HB.out)⟩
end Go.Proofs.Ytmmjkebboonnkaa.P
/- F9 -/
namespace Go.Proofs.Ytmmjkebboonnkaa.P
open Go.RowKit Go.Proofs.YtmmjkebboonnkaaW.PrintWords Go.Proofs.YtmmjkebboonnkaaW.PrintLast Go.Proofs.YtmmjkebboonnkaaW.PrintMore
attribute [local go_sem] max2_int min2_int max_two min_two max_three min_three max_four min_four   -- for this text's walks alone
set_option linter.unusedVariables false
set_option linter.unusedSimpArgs false
attribute [local go_sem high] eqA49
def table_Root.l0 : Nat → List (S49) → List Int → Int → Int → Int → Int → Int → Int → Int → Int → Option (Int × Int)
 | 0, _, _, _, _, _, _, _, _, _, _ => none
 | k + 1, x0, x36, x37, x38, x151000, x151001, x151002, x151003, x151004, x151005 => if x38 < x37 then (if 0 ≤ x38 then (if x38 < (x36.length : Int) then (if 0 ≤ (rd x36 x38) then (if (rd x36 x38) < (x0.length : Int) then (if ((rd_T49 x0 (rd x36 x38)).f1) = 0 then (table_Root.l0 k x0 x36 x37 (wrap64 (x38 + 1)) x151000 x151001 x151002 x151003 x151004 x151005) else (some (0, 3))) else (none)) else (none)) else (none)) else (none)) else (some (x151004, 0))
def table_Root.f (k : Nat) (l0 : List (S49)) : Option (Int × Int) := (table_Check.f k l0).bind fun t145 => (if t145 = 0 then (if 0 < (l0.length : Int) then ((table_crowned.f l0 ((rd_T49 l0 0).f0) ((rd_T49 l0 0).f1) ((rd_T49 l0 0).f2) ((rd_T49 l0 0).f3) ((rd_T49 l0 0).f4) ((rd_T49 l0 0).f5)).bind fun t147 => (if t147 = true then (if 0 ≤ ((rd_T49 l0 0).f4) then (if ((rd_T49 l0 0).f4) < (l0.length : Int) then ((table_sentinel.f).bind fun bt151 => (if (((rd_T49 l0 ((rd_T49 l0 0).f4)).f0) == bt151.1 && (((rd_T49 l0 ((rd_T49 l0 0).f4)).f1) == bt151.2.1 && (((rd_T49 l0 ((rd_T49 l0 0).f4)).f2) == bt151.2.2.1 && (((rd_T49 l0 ((rd_T49 l0 0).f4)).f3) == bt151.2.2.2.1 && (((rd_T49 l0 ((rd_T49 l0 0).f4)).f4) == bt151.2.2.2.2.1 && (((rd_T49 l0 ((rd_T49 l0 0).f4)).f5) == bt151.2.2.2.2.2)))))) = true then (some (0, 4)) else ((table_crowned.f l0 ((rd_T49 l0 ((rd_T49 l0 0).f4)).f0) ((rd_T49 l0 ((rd_T49 l0 0).f4)).f1) ((rd_T49 l0 ((rd_T49 l0 0).f4)).f2) ((rd_T49 l0 ((rd_T49 l0 0).f4)).f3) ((rd_T49 l0 ((rd_T49 l0 0).f4)).f4) ((rd_T49 l0 ((rd_T49 l0 0).f4)).f5)).bind fun t157 => (if t157 = true then ((table_order.f k l0 ((rd_T49 l0 ((rd_T49 l0 0).f4)).f4)).bind fun t158 => (table_Root.l0 k l0 t158 (t158.length : Int) 0 ((rd_T49 l0 ((rd_T49 l0 0).f4)).f0) ((rd_T49 l0 ((rd_T49 l0 0).f4)).f1) ((rd_T49 l0 ((rd_T49 l0 0).f4)).f2) ((rd_T49 l0 ((rd_T49 l0 0).f4)).f3) ((rd_T49 l0 ((rd_T49 l0 0).f4)).f4) ((rd_T49 l0 ((rd_T49 l0 0).f4)).f5))) else (some (0, 3)))))) else (none)) else (none)) else (some (0, 3)))) else (none)) else (some (0, t145)))
theorem table_Root.mono_l : ∀ k, (∀ y0 y1 y2 y3 y4 y5 y6 y7 y8 y9, LeO (table_Root.l0 k y0 y1 y2 y3 y4 y5 y6 y7 y8 y9) (table_Root.l0 (k + 1) y0 y1 y2 y3 y4 y5 y6 y7 y8 y9))
 | 0 => fun _ _ _ _ _ _ _ _ _ _ r h => by simp [table_Root.l0] at h
 | k + 1 => by
  have ih0 := table_Root.mono_l k
  ·
   intro y0 y1 y2 y3 y4 y5 y6 y7 y8 y9
   unfold table_Root.l0
   repeat' first
   | (with_reducible exact ih0 _ _ _ _ _ _ _ _ _ _)
   | (with_reducible exact table_Check.mono _ _)
   | (with_reducible exact table_order.mono _ _ _)
   | (with_reducible exact LeO.refl _)
   | (with_reducible exact LeO.none _)
   | (with_reducible refine LeO.ite ?_ ?_)
   | (with_reducible refine LeO.bind ?_ (fun _ => ?_))
   | exact ih0 _ _ _ _ _ _ _ _ _ _
   | exact table_Check.mono _ _
   | exact table_order.mono _ _ _
   | exact LeO.none _
   | refine LeO.ite ?_ ?_
   | refine LeO.bind ?_ (fun _ => ?_)
theorem table_Root.mono : ∀ a0 k, LeO (table_Root.f k a0) (table_Root.f (k + 1) a0) := by
 intro a0 k
 have ih0 := table_Root.mono_l k
 unfold table_Root.f
 repeat' first
   | (with_reducible exact ih0 _ _ _ _ _ _ _ _ _ _)
   | (with_reducible exact table_Check.mono _ _)
   | (with_reducible exact table_order.mono _ _ _)
   | (with_reducible exact LeO.refl _)
   | (with_reducible exact LeO.none _)
   | (with_reducible refine LeO.ite ?_ ?_)
   | (with_reducible refine LeO.bind ?_ (fun _ => ?_))
   | exact ih0 _ _ _ _ _ _ _ _ _ _
   | exact table_Check.mono _ _
   | exact table_order.mono _ _ _
   | exact LeO.none _
   | refine LeO.ite ?_ ?_
   | refine LeO.bind ?_ (fun _ => ?_)
set_option maxHeartbeats 8000000 in
set_option maxRecDepth 100000 in
theorem table_Root.calls (k : Nat) (A0 : Option Addr) (c0 : Nat) (l0 : List (S49)) (r1 : Int) (r2 : Int) (w : World) (hr0 : Kd.C k49 w A0 l0.length l0) (hc0 : l0.length ≤ c0) (h : table_Root.f k l0 = some (r1, r2)) :
  Calls Try.prog 62 #[.slice A0 l0.length c0] w fun e w' => e = .returned (.tuple #[.int .i64 r1, .int .i64 r2]) ∧ Below w.heap.size w w' := by
 have hu49 := Try.underlying49
 have HR0 := Aside0.mk hr0
 have HC0 := Aside0.mk hc0
 clear hr0 hc0
 have HB := Aside0.mk (Below.refl w.heap.size w)
 have H : ((table_Check.f k l0).bind fun t145 => (if t145 = 0 then (if 0 < (l0.length : Int) then ((table_crowned.f l0 ((rd_T49 l0 0).f0) ((rd_T49 l0 0).f1) ((rd_T49 l0 0).f2) ((rd_T49 l0 0).f3) ((rd_T49 l0 0).f4) ((rd_T49 l0 0).f5)).bind fun t147 => (if t147 = true then (if 0 ≤ ((rd_T49 l0 0).f4) then (if ((rd_T49 l0 0).f4) < (l0.length : Int) then ((table_sentinel.f).bind fun bt151 => (if (((rd_T49 l0 ((rd_T49 l0 0).f4)).f0) == bt151.1 && (((rd_T49 l0 ((rd_T49 l0 0).f4)).f1) == bt151.2.1 && (((rd_T49 l0 ((rd_T49 l0 0).f4)).f2) == bt151.2.2.1 && (((rd_T49 l0 ((rd_T49 l0 0).f4)).f3) == bt151.2.2.2.1 && (((rd_T49 l0 ((rd_T49 l0 0).f4)).f4) == bt151.2.2.2.2.1 && (((rd_T49 l0 ((rd_T49 l0 0).f4)).f5) == bt151.2.2.2.2.2)))))) = true then (some (0, 4)) else ((table_crowned.f l0 ((rd_T49 l0 ((rd_T49 l0 0).f4)).f0) ((rd_T49 l0 ((rd_T49 l0 0).f4)).f1) ((rd_T49 l0 ((rd_T49 l0 0).f4)).f2) ((rd_T49 l0 ((rd_T49 l0 0).f4)).f3) ((rd_T49 l0 ((rd_T49 l0 0).f4)).f4) ((rd_T49 l0 ((rd_T49 l0 0).f4)).f5)).bind fun t157 => (if t157 = true then ((table_order.f k l0 ((rd_T49 l0 ((rd_T49 l0 0).f4)).f4)).bind fun t158 => (table_Root.l0 k l0 t158 (t158.length : Int) 0 ((rd_T49 l0 ((rd_T49 l0 0).f4)).f0) ((rd_T49 l0 ((rd_T49 l0 0).f4)).f1) ((rd_T49 l0 ((rd_T49 l0 0).f4)).f2) ((rd_T49 l0 ((rd_T49 l0 0).f4)).f3) ((rd_T49 l0 ((rd_T49 l0 0).f4)).f4) ((rd_T49 l0 ((rd_T49 l0 0).f4)).f5))) else (some (0, 3)))))) else (none)) else (none)) else (some (0, 3)))) else (none)) else (some (0, t145)))) = some (r1, r2) := h
 clear h
 replace H := Option.bind_eq_some_iff.mp H
 obtain ⟨t145, A20, H⟩ := H
 replace H : (if t145 = 0 then (if 0 < (l0.length : Int) then ((table_crowned.f l0 ((rd_T49 l0 0).f0) ((rd_T49 l0 0).f1) ((rd_T49 l0 0).f2) ((rd_T49 l0 0).f3) ((rd_T49 l0 0).f4) ((rd_T49 l0 0).f5)).bind fun t147 => (if t147 = true then (if 0 ≤ ((rd_T49 l0 0).f4) then (if ((rd_T49 l0 0).f4) < (l0.length : Int) then ((table_sentinel.f).bind fun bt151 => (if (((rd_T49 l0 ((rd_T49 l0 0).f4)).f0) == bt151.1 && (((rd_T49 l0 ((rd_T49 l0 0).f4)).f1) == bt151.2.1 && (((rd_T49 l0 ((rd_T49 l0 0).f4)).f2) == bt151.2.2.1 && (((rd_T49 l0 ((rd_T49 l0 0).f4)).f3) == bt151.2.2.2.1 && (((rd_T49 l0 ((rd_T49 l0 0).f4)).f4) == bt151.2.2.2.2.1 && (((rd_T49 l0 ((rd_T49 l0 0).f4)).f5) == bt151.2.2.2.2.2)))))) = true then (some (0, 4)) else ((table_crowned.f l0 ((rd_T49 l0 ((rd_T49 l0 0).f4)).f0) ((rd_T49 l0 ((rd_T49 l0 0).f4)).f1) ((rd_T49 l0 ((rd_T49 l0 0).f4)).f2) ((rd_T49 l0 ((rd_T49 l0 0).f4)).f3) ((rd_T49 l0 ((rd_T49 l0 0).f4)).f4) ((rd_T49 l0 ((rd_T49 l0 0).f4)).f5)).bind fun t157 => (if t157 = true then ((table_order.f k l0 ((rd_T49 l0 ((rd_T49 l0 0).f4)).f4)).bind fun t158 => (table_Root.l0 k l0 t158 (t158.length : Int) 0 ((rd_T49 l0 ((rd_T49 l0 0).f4)).f0) ((rd_T49 l0 ((rd_T49 l0 0).f4)).f1) ((rd_T49 l0 ((rd_T49 l0 0).f4)).f2) ((rd_T49 l0 ((rd_T49 l0 0).f4)).f3) ((rd_T49 l0 ((rd_T49 l0 0).f4)).f4) ((rd_T49 l0 ((rd_T49 l0 0).f4)).f5))) else (some (0, 3)))))) else (none)) else (none)) else (some (0, 3)))) else (none)) else (some (0, t145))) = some (r1, r2) := H
 have A2 := Aside0.mk A20
 clear A20
 by_cases c3 : t145 = 0
 ·
  rw [if_pos c3] at H
  have c3b0 : (t145 == 0) = true := beq_iff_eq.mpr c3
  have c3b1 : (t145 != 0) = false := bne_eq_false_iff_eq.mpr c3
  clear c3
  by_cases c4 : 0 < (l0.length : Int)
  ·
   rw [if_pos c4] at H
   have c4b0 : decide (0 < (l0.length : Int)) = true := decide_eq_true c4
   have c4b1 : decide (0 < l0.length) = true := decide_eq_true (by omega)
   clear c4
   replace H := Option.bind_eq_some_iff.mp H
   obtain ⟨t147, A50, H⟩ := H
   replace H : (if t147 = true then (if 0 ≤ ((rd_T49 l0 0).f4) then (if ((rd_T49 l0 0).f4) < (l0.length : Int) then ((table_sentinel.f).bind fun bt151 => (if (((rd_T49 l0 ((rd_T49 l0 0).f4)).f0) == bt151.1 && (((rd_T49 l0 ((rd_T49 l0 0).f4)).f1) == bt151.2.1 && (((rd_T49 l0 ((rd_T49 l0 0).f4)).f2) == bt151.2.2.1 && (((rd_T49 l0 ((rd_T49 l0 0).f4)).f3) == bt151.2.2.2.1 && (((rd_T49 l0 ((rd_T49 l0 0).f4)).f4) == bt151.2.2.2.2.1 && (((rd_T49 l0 ((rd_T49 l0 0).f4)).f5) == bt151.2.2.2.2.2)))))) = true then (some (0, 4)) else ((table_crowned.f l0 ((rd_T49 l0 ((rd_T49 l0 0).f4)).f0) ((rd_T49 l0 ((rd_T49 l0 0).f4)).f1) ((rd_T49 l0 ((rd_T49 l0 0).f4)).f2) ((rd_T49 l0 ((rd_T49 l0 0).f4)).f3) ((rd_T49 l0 ((rd_T49 l0 0).f4)).f4) ((rd_T49 l0 ((rd_T49 l0 0).f4)).f5)).bind fun t157 => (if t157 = true then ((table_order.f k l0 ((rd_T49 l0 ((rd_T49 l0 0).f4)).f4)).bind fun t158 => (table_Root.l0 k l0 t158 (t158.length : Int) 0 ((rd_T49 l0 ((rd_T49 l0 0).f4)).f0) ((rd_T49 l0 ((rd_T49 l0 0).f4)).f1) ((rd_T49 l0 ((rd_T49 l0 0).f4)).f2) ((rd_T49 l0 ((rd_T49 l0 0).f4)).f3) ((rd_T49 l0 ((rd_T49 l0 0).f4)).f4) ((rd_T49 l0 ((rd_T49 l0 0).f4)).f5))) else (some (0, 3)))))) else (none)) else (none)) else (some (0, 3))) = some (r1, r2) := H
   have A5 := Aside0.mk A50
   clear A50
   by_cases c6 : t147 = true
   ·
    subst c6
    have H1 : (if 0 ≤ ((rd_T49 l0 0).f4) then (if ((rd_T49 l0 0).f4) < (l0.length : Int) then ((table_sentinel.f).bind fun bt151 => (if (((rd_T49 l0 ((rd_T49 l0 0).f4)).f0) == bt151.1 && (((rd_T49 l0 ((rd_T49 l0 0).f4)).f1) == bt151.2.1 && (((rd_T49 l0 ((rd_T49 l0 0).f4)).f2) == bt151.2.2.1 && (((rd_T49 l0 ((rd_T49 l0 0).f4)).f3) == bt151.2.2.2.1 && (((rd_T49 l0 ((rd_T49 l0 0).f4)).f4) == bt151.2.2.2.2.1 && (((rd_T49 l0 ((rd_T49 l0 0).f4)).f5) == bt151.2.2.2.2.2)))))) = true then (some (0, 4)) else ((table_crowned.f l0 ((rd_T49 l0 ((rd_T49 l0 0).f4)).f0) ((rd_T49 l0 ((rd_T49 l0 0).f4)).f1) ((rd_T49 l0 ((rd_T49 l0 0).f4)).f2) ((rd_T49 l0 ((rd_T49 l0 0).f4)).f3) ((rd_T49 l0 ((rd_T49 l0 0).f4)).f4) ((rd_T49 l0 ((rd_T49 l0 0).f4)).f5)).bind fun t157 => (if t157 = true then ((table_order.f k l0 ((rd_T49 l0 ((rd_T49 l0 0).f4)).f4)).bind fun t158 => (table_Root.l0 k l0 t158 (t158.length : Int) 0 ((rd_T49 l0 ((rd_T49 l0 0).f4)).f0) ((rd_T49 l0 ((rd_T49 l0 0).f4)).f1) ((rd_T49 l0 ((rd_T49 l0 0).f4)).f2) ((rd_T49 l0 ((rd_T49 l0 0).f4)).f3) ((rd_T49 l0 ((rd_T49 l0 0).f4)).f4) ((rd_T49 l0 ((rd_T49 l0 0).f4)).f5))) else (some (0, 3)))))) else (none)) else (none)) = some (r1, r2) := by rw [if_pos rfl] at H; exact H
    clear H
    have H := H1
    clear H1
    by_cases c7 : 0 ≤ ((rd_T49 l0 0).f4)
    ·
     rw [if_pos c7] at H
     have c7b0 : decide (0 ≤ ((rd_T49 l0 0).f4)) = true := decide_eq_true c7
     clear c7
     by_cases c8 : ((rd_T49 l0 0).f4) < (l0.length : Int)
     ·
      rw [if_pos c8] at H
      have c8b0 : decide (((rd_T49 l0 0).f4) < (l0.length : Int)) = true := decide_eq_true c8
      clear c8
      replace H := Option.bind_eq_some_iff.mp H
      obtain ⟨⟨t151, t152, t153, t154, t155, t156⟩, A90, H⟩ := H
      replace H : (if (((rd_T49 l0 ((rd_T49 l0 0).f4)).f0) == t151 && (((rd_T49 l0 ((rd_T49 l0 0).f4)).f1) == t152 && (((rd_T49 l0 ((rd_T49 l0 0).f4)).f2) == t153 && (((rd_T49 l0 ((rd_T49 l0 0).f4)).f3) == t154 && (((rd_T49 l0 ((rd_T49 l0 0).f4)).f4) == t155 && (((rd_T49 l0 ((rd_T49 l0 0).f4)).f5) == t156)))))) = true then (some (0, 4)) else ((table_crowned.f l0 ((rd_T49 l0 ((rd_T49 l0 0).f4)).f0) ((rd_T49 l0 ((rd_T49 l0 0).f4)).f1) ((rd_T49 l0 ((rd_T49 l0 0).f4)).f2) ((rd_T49 l0 ((rd_T49 l0 0).f4)).f3) ((rd_T49 l0 ((rd_T49 l0 0).f4)).f4) ((rd_T49 l0 ((rd_T49 l0 0).f4)).f5)).bind fun t157 => (if t157 = true then ((table_order.f k l0 ((rd_T49 l0 ((rd_T49 l0 0).f4)).f4)).bind fun t158 => (table_Root.l0 k l0 t158 (t158.length : Int) 0 ((rd_T49 l0 ((rd_T49 l0 0).f4)).f0) ((rd_T49 l0 ((rd_T49 l0 0).f4)).f1) ((rd_T49 l0 ((rd_T49 l0 0).f4)).f2) ((rd_T49 l0 ((rd_T49 l0 0).f4)).f3) ((rd_T49 l0 ((rd_T49 l0 0).f4)).f4) ((rd_T49 l0 ((rd_T49 l0 0).f4)).f5))) else (some (0, 3))))) = some (r1, r2) := H
      have A9 := Aside0.mk A90
      clear A90
      by_cases c10 : (((rd_T49 l0 ((rd_T49 l0 0).f4)).f0) == t151 && (((rd_T49 l0 ((rd_T49 l0 0).f4)).f1) == t152 && (((rd_T49 l0 ((rd_T49 l0 0).f4)).f2) == t153 && (((rd_T49 l0 ((rd_T49 l0 0).f4)).f3) == t154 && (((rd_T49 l0 ((rd_T49 l0 0).f4)).f4) == t155 && (((rd_T49 l0 ((rd_T49 l0 0).f4)).f5) == t156)))))) = true
      ·
       rw [if_pos c10] at H
       have c10b0 : (((rd_T49 l0 ((rd_T49 l0 0).f4)).f0) == t151 && (((rd_T49 l0 ((rd_T49 l0 0).f4)).f1) == t152 && (((rd_T49 l0 ((rd_T49 l0 0).f4)).f2) == t153 && (((rd_T49 l0 ((rd_T49 l0 0).f4)).f3) == t154 && (((rd_T49 l0 ((rd_T49 l0 0).f4)).f4) == t155 && (((rd_T49 l0 ((rd_T49 l0 0).f4)).f5) == t156)))))) = true := c10
       (try (have c10b1 : decide (((rd_T49 l0 ((rd_T49 l0 0).f4)).f0) = t151 && (((rd_T49 l0 ((rd_T49 l0 0).f4)).f1) == t152 && (((rd_T49 l0 ((rd_T49 l0 0).f4)).f2) == t153 && (((rd_T49 l0 ((rd_T49 l0 0).f4)).f3) == t154 && (((rd_T49 l0 ((rd_T49 l0 0).f4)).f4) == t155 && (((rd_T49 l0 ((rd_T49 l0 0).f4)).f5) == t156)))))) = true := by simpa using c10))
       (try (have c10b2 : (((rd_T49 l0 ((rd_T49 l0 0).f4)).f0) == t151 && (((rd_T49 l0 ((rd_T49 l0 0).f4)).f1) == t152 && (((rd_T49 l0 ((rd_T49 l0 0).f4)).f2) == t153 && (((rd_T49 l0 ((rd_T49 l0 0).f4)).f3) == t154 && (((rd_T49 l0 ((rd_T49 l0 0).f4)).f4) == t155 && (((rd_T49 l0 ((rd_T49 l0 0).f4)).f5) == t156)))))) = true := by simpa using c10))
       clear c10
       simp only [Option.some.injEq, Prod.mk.injEq] at H
       obtain ⟨rfl, rfl⟩ := H
       go_enter Try.func62, Try.ntmps62
       try go_wp2_with (first | ((with_reducible refine gate_callee (f := 60) rfl ?_); refine goesL_ (some 9) rfl rfl Try.func60 (by kernel_rfl) rfl #[.slice A0 l0.length c0] rfl (by (try simp only [List.map_toArray, List.map_cons, List.map_nil]); first | done | rfl | (simp only [List.length_drop, List.length_take]; rfl)) ?_; (with_reducible refine (table_Check.calls k _ _ l0 t145 _ ?side1 ?side2 A2.out).mono ?_); (case side1 => repeat (first | exact HR0.out | (with_reducible refine Kd.C_alloc ?_ _) | (with_reducible refine Kd.C_drewN ?_ _) | (with_reducible refine Kd.C_drew ?_))); (case side2 => exact HC0.out); rintro e w11 ⟨rfl, hb⟩; refine ⟨_, rfl, ?_⟩; have n0_ := Aside0.mk (below_step (by repeat (first | (with_reducible first | exact HB.out | apply below_alloc | apply pw_below_drewN | apply below_drew1) | exact HB.out)) hb); clear HB; have HB := n0_; clear n0_; (try clear hb); (try clear hb2); (try clear hk); (try clear hi); have p146 : 0 ≤ (0 : Int) := (by omega); have q146 : 0 < (l0.length : Int) := of_decide_eq_true (by first | (with_reducible assumption) | assumption); obtain ⟨ad146, e146, hx146_0, hx146_1, hx146_2, hx146_3, hx146_4, hx146_5⟩ := at_T49 HR0.out 0 p146 q146; cases e146; have qi146 : (0 < l0.length) = True := eq_true (by omega); (try rw [show ((0 : Int)).toNat = 0 from rfl] at hx146_0); (try rw [show 0 * 6 = 0 from rfl] at hx146_0); (try rw [Addr.add_zero'] at hx146_0); (try rw [show ((0 : Int)).toNat = 0 from rfl] at hx146_1); (try rw [show 0 * 6 = 0 from rfl] at hx146_1); (try rw [Addr.add_zero'] at hx146_1); (try rw [show ((0 : Int)).toNat = 0 from rfl] at hx146_2); (try rw [show 0 * 6 = 0 from rfl] at hx146_2); (try rw [Addr.add_zero'] at hx146_2); (try rw [show ((0 : Int)).toNat = 0 from rfl] at hx146_3); (try rw [show 0 * 6 = 0 from rfl] at hx146_3); (try rw [Addr.add_zero'] at hx146_3); (try rw [show ((0 : Int)).toNat = 0 from rfl] at hx146_4); (try rw [show 0 * 6 = 0 from rfl] at hx146_4); (try rw [Addr.add_zero'] at hx146_4); (try rw [show ((0 : Int)).toNat = 0 from rfl] at hx146_5); (try rw [show 0 * 6 = 0 from rfl] at hx146_5); (try rw [Addr.add_zero'] at hx146_5); replace hx146_0 := (HB.out.cell (World.block_lt_of_cell? w _ hx146_0)).trans hx146_0; replace hx146_1 := (HB.out.cell (World.block_lt_of_cell? w _ hx146_1)).trans hx146_1; replace hx146_2 := (HB.out.cell (World.block_lt_of_cell? w _ hx146_2)).trans hx146_2; replace hx146_3 := (HB.out.cell (World.block_lt_of_cell? w _ hx146_3)).trans hx146_3; replace hx146_4 := (HB.out.cell (World.block_lt_of_cell? w _ hx146_4)).trans hx146_4; replace hx146_5 := (HB.out.cell (World.block_lt_of_cell? w _ hx146_5)).trans hx146_5; replace p146 := eq_true p146; replace q146 := eq_true q146) | ((with_reducible refine gate_callee (f := 68) rfl ?_); refine goesL_ (some 17) rfl rfl Try.func68 (by kernel_rfl) rfl #[.slice (some ad146) l0.length c0, .agg #[.int .i64 ((rd_T49 l0 0).f0), .int .i64 ((rd_T49 l0 0).f1), .int .i64 ((rd_T49 l0 0).f2), .int .i64 ((rd_T49 l0 0).f3), .int .i64 ((rd_T49 l0 0).f4), .int .i64 ((rd_T49 l0 0).f5)]] rfl (by (try simp only [List.map_toArray, List.map_cons, List.map_nil]); first | done | rfl | (simp only [List.length_drop, List.length_take]; rfl)) ?_; (with_reducible refine (table_crowned.calls _ _ l0 ((rd_T49 l0 0).f0) ((rd_T49 l0 0).f1) ((rd_T49 l0 0).f2) ((rd_T49 l0 0).f3) ((rd_T49 l0 0).f4) ((rd_T49 l0 0).f5) true _ ?side1 ?side2 A5.out).mono ?_); (case side1 => repeat (first | exact (Kd.C_below HR0.out HB.out) | (with_reducible refine Kd.C_alloc ?_ _) | (with_reducible refine Kd.C_drewN ?_ _) | (with_reducible refine Kd.C_drew ?_))); (case side2 => exact HC0.out); rintro e w12 ⟨rfl, hb⟩; refine ⟨_, rfl, ?_⟩; have n0_ := Aside0.mk (below_step (by repeat (first | (with_reducible first | exact HB.out | apply below_alloc | apply pw_below_drewN | apply below_drew1) | exact HB.out)) hb); clear HB; have HB := n0_; clear n0_; (try clear hb); (try clear hb2); (try clear hk); (try clear hi); have p148 : 0 ≤ (0 : Int) := (by omega); have q148 : 0 < (l0.length : Int) := of_decide_eq_true (by first | (with_reducible assumption) | assumption); obtain ⟨ad148, e148, hx148_0, hx148_1, hx148_2, hx148_3, hx148_4, hx148_5⟩ := at_T49 HR0.out 0 p148 q148; obtain rfl : ad146 = ad148 := (by injection e148); have qi148 : (0 < l0.length) = True := eq_true (by omega); (try rw [show ((0 : Int)).toNat = 0 from rfl] at hx148_0); (try rw [show 0 * 6 = 0 from rfl] at hx148_0); (try rw [Addr.add_zero'] at hx148_0); (try rw [show ((0 : Int)).toNat = 0 from rfl] at hx148_1); (try rw [show 0 * 6 = 0 from rfl] at hx148_1); (try rw [Addr.add_zero'] at hx148_1); (try rw [show ((0 : Int)).toNat = 0 from rfl] at hx148_2); (try rw [show 0 * 6 = 0 from rfl] at hx148_2); (try rw [Addr.add_zero'] at hx148_2); (try rw [show ((0 : Int)).toNat = 0 from rfl] at hx148_3); (try rw [show 0 * 6 = 0 from rfl] at hx148_3); (try rw [Addr.add_zero'] at hx148_3); (try rw [show ((0 : Int)).toNat = 0 from rfl] at hx148_4); (try rw [show 0 * 6 = 0 from rfl] at hx148_4); (try rw [Addr.add_zero'] at hx148_4); (try rw [show ((0 : Int)).toNat = 0 from rfl] at hx148_5); (try rw [show 0 * 6 = 0 from rfl] at hx148_5); (try rw [Addr.add_zero'] at hx148_5); replace hx148_0 := (HB.out.cell (World.block_lt_of_cell? w _ hx148_0)).trans hx148_0; replace hx148_1 := (HB.out.cell (World.block_lt_of_cell? w _ hx148_1)).trans hx148_1; replace hx148_2 := (HB.out.cell (World.block_lt_of_cell? w _ hx148_2)).trans hx148_2; replace hx148_3 := (HB.out.cell (World.block_lt_of_cell? w _ hx148_3)).trans hx148_3; replace hx148_4 := (HB.out.cell (World.block_lt_of_cell? w _ hx148_4)).trans hx148_4; replace hx148_5 := (HB.out.cell (World.block_lt_of_cell? w _ hx148_5)).trans hx148_5; replace p148 := eq_true p148; replace q148 := eq_true q148; have p149 : 0 ≤ (((rd_T49 l0 0).f4) : Int) := of_decide_eq_true (by first | (with_reducible assumption) | assumption); have q149 : ((rd_T49 l0 0).f4) < (l0.length : Int) := of_decide_eq_true (by first | (with_reducible assumption) | assumption); obtain ⟨ad149, e149, hx149_0, hx149_1, hx149_2, hx149_3, hx149_4, hx149_5⟩ := at_T49 HR0.out ((rd_T49 l0 0).f4) p149 q149; obtain rfl : ad146 = ad149 := (by injection e149); replace hx149_0 := (HB.out.cell (World.block_lt_of_cell? w _ hx149_0)).trans hx149_0; replace hx149_1 := (HB.out.cell (World.block_lt_of_cell? w _ hx149_1)).trans hx149_1; replace hx149_2 := (HB.out.cell (World.block_lt_of_cell? w _ hx149_2)).trans hx149_2; replace hx149_3 := (HB.out.cell (World.block_lt_of_cell? w _ hx149_3)).trans hx149_3; replace hx149_4 := (HB.out.cell (World.block_lt_of_cell? w _ hx149_4)).trans hx149_4; replace hx149_5 := (HB.out.cell (World.block_lt_of_cell? w _ hx149_5)).trans hx149_5; replace p149 := eq_true p149; replace q149 := eq_true q149) | ((with_reducible refine gate_dst (N := 5) rfl ?_); refine box_event ?hg (N := 5) ?hd (cs := #[.int .i64 0, .int .i64 0, .int .i64 0, .int .i64 0, .int .i64 0, .int .i64 0]) (t := 49) ?hr ?_; (case hd => rfl); (case hg => rfl); (case hr => first | (go_simp; done) | (go_simp; rfl)); intro gb150 hg w13 hbox hb; have n0_ := Aside0.mk (below_step (by repeat (first | (with_reducible first | exact HB.out | apply below_alloc | apply pw_below_drewN | apply below_drew1) | exact HB.out)) hb); have n1_ := Aside0.mk (hbox); have n2_ := Aside0.mk ((by rw [hg]; exact (below_size (by repeat (first | (with_reducible first | exact HB.out | apply below_alloc | apply pw_below_drewN | apply below_drew1) | exact HB.out))) : w.heap.size ≤ gb150)); have n3_ := Aside0.mk ((by rw [hg]; exact (below_size (by repeat (first | (with_reducible first | exact HB.out | apply below_alloc | apply pw_below_drewN | apply below_drew1) | exact HB.out))) : w.heap.size ≤ gb150)); clear HB; have HB := n0_; have BK150 := n1_; have GW150 := n2_; have GE150 := n3_; clear n0_ n1_ n2_ n3_; clear hb hbox hg; have hcz14_0 : w13.cell? ⟨gb150, 0, none⟩ = some (.int .i64 0) := (blk_cell BK150.out 0).trans rfl; have hcz14_1 : w13.cell? ⟨gb150, 1, none⟩ = some (.int .i64 0) := (blk_cell BK150.out 1).trans rfl; have hcz14_2 : w13.cell? ⟨gb150, 2, none⟩ = some (.int .i64 0) := (blk_cell BK150.out 2).trans rfl; have hcz14_3 : w13.cell? ⟨gb150, 3, none⟩ = some (.int .i64 0) := (blk_cell BK150.out 3).trans rfl; have hcz14_4 : w13.cell? ⟨gb150, 4, none⟩ = some (.int .i64 0) := (blk_cell BK150.out 4).trans rfl; have hcz14_5 : w13.cell? ⟨gb150, 5, none⟩ = some (.int .i64 0) := (blk_cell BK150.out 5).trans rfl; have hfz14_0 := blk_frozen BK150.out 0; have hfz14_1 := blk_frozen BK150.out 1; have hfz14_2 := blk_frozen BK150.out 2; have hfz14_3 := blk_frozen BK150.out 3; have hfz14_4 := blk_frozen BK150.out 4; have hfz14_5 := blk_frozen BK150.out 5))
       have n0_ : Aside0 (((((((w13.setCell ⟨gb150, 0, none⟩ (.int .i64 ((rd_T49 l0 ((rd_T49 l0 0).f4)).f0))).setCell ⟨gb150, 1, none⟩ (.int .i64 ((rd_T49 l0 ((rd_T49 l0 0).f4)).f1))).setCell ⟨gb150, 2, none⟩ (.int .i64 ((rd_T49 l0 ((rd_T49 l0 0).f4)).f2))).setCell ⟨gb150, 3, none⟩ (.int .i64 ((rd_T49 l0 ((rd_T49 l0 0).f4)).f3))).setCell ⟨gb150, 4, none⟩ (.int .i64 ((rd_T49 l0 ((rd_T49 l0 0).f4)).f4))).setCell ⟨gb150, 5, none⟩ (.int .i64 ((rd_T49 l0 ((rd_T49 l0 0).f4)).f5))).heap[gb150]? = some (.cells #[.int .i64 ((rd_T49 l0 ((rd_T49 l0 0).f4)).f0), .int .i64 ((rd_T49 l0 ((rd_T49 l0 0).f4)).f1), .int .i64 ((rd_T49 l0 ((rd_T49 l0 0).f4)).f2), .int .i64 ((rd_T49 l0 ((rd_T49 l0 0).f4)).f3), .int .i64 ((rd_T49 l0 ((rd_T49 l0 0).f4)).f4), .int .i64 ((rd_T49 l0 ((rd_T49 l0 0).f4)).f5)] 49 (0, 0))) := ⟨by (with_reducible repeat (first | refine blk_drewN ?_ _ | refine blk_drew ?_ | refine blk_alloc ?_ _)); refine blk_put (cs := #[.int .i64 ((rd_T49 l0 ((rd_T49 l0 0).f4)).f0), .int .i64 ((rd_T49 l0 ((rd_T49 l0 0).f4)).f1), .int .i64 ((rd_T49 l0 ((rd_T49 l0 0).f4)).f2), .int .i64 ((rd_T49 l0 ((rd_T49 l0 0).f4)).f3), .int .i64 ((rd_T49 l0 ((rd_T49 l0 0).f4)).f4), .int .i64 0]) ?_ 5 _ rfl; (with_reducible repeat (first | refine blk_drewN ?_ _ | refine blk_drew ?_ | refine blk_alloc ?_ _)); refine blk_put (cs := #[.int .i64 ((rd_T49 l0 ((rd_T49 l0 0).f4)).f0), .int .i64 ((rd_T49 l0 ((rd_T49 l0 0).f4)).f1), .int .i64 ((rd_T49 l0 ((rd_T49 l0 0).f4)).f2), .int .i64 ((rd_T49 l0 ((rd_T49 l0 0).f4)).f3), .int .i64 0, .int .i64 0]) ?_ 4 _ rfl; (with_reducible repeat (first | refine blk_drewN ?_ _ | refine blk_drew ?_ | refine blk_alloc ?_ _)); refine blk_put (cs := #[.int .i64 ((rd_T49 l0 ((rd_T49 l0 0).f4)).f0), .int .i64 ((rd_T49 l0 ((rd_T49 l0 0).f4)).f1), .int .i64 ((rd_T49 l0 ((rd_T49 l0 0).f4)).f2), .int .i64 0, .int .i64 0, .int .i64 0]) ?_ 3 _ rfl; (with_reducible repeat (first | refine blk_drewN ?_ _ | refine blk_drew ?_ | refine blk_alloc ?_ _)); refine blk_put (cs := #[.int .i64 ((rd_T49 l0 ((rd_T49 l0 0).f4)).f0), .int .i64 ((rd_T49 l0 ((rd_T49 l0 0).f4)).f1), .int .i64 0, .int .i64 0, .int .i64 0, .int .i64 0]) ?_ 2 _ rfl; (with_reducible repeat (first | refine blk_drewN ?_ _ | refine blk_drew ?_ | refine blk_alloc ?_ _)); refine blk_put (cs := #[.int .i64 ((rd_T49 l0 ((rd_T49 l0 0).f4)).f0), .int .i64 0, .int .i64 0, .int .i64 0, .int .i64 0, .int .i64 0]) ?_ 1 _ rfl; (with_reducible repeat (first | refine blk_drewN ?_ _ | refine blk_drew ?_ | refine blk_alloc ?_ _)); refine blk_put (cs := #[.int .i64 0, .int .i64 0, .int .i64 0, .int .i64 0, .int .i64 0, .int .i64 0]) ?_ 0 _ rfl; (with_reducible repeat (first | refine blk_drewN ?_ _ | refine blk_drew ?_ | refine blk_alloc ?_ _)); exact BK150.out⟩
       have n1_ : Aside0 (Below w.heap.size w ((((((w13.setCell ⟨gb150, 0, none⟩ (.int .i64 ((rd_T49 l0 ((rd_T49 l0 0).f4)).f0))).setCell ⟨gb150, 1, none⟩ (.int .i64 ((rd_T49 l0 ((rd_T49 l0 0).f4)).f1))).setCell ⟨gb150, 2, none⟩ (.int .i64 ((rd_T49 l0 ((rd_T49 l0 0).f4)).f2))).setCell ⟨gb150, 3, none⟩ (.int .i64 ((rd_T49 l0 ((rd_T49 l0 0).f4)).f3))).setCell ⟨gb150, 4, none⟩ (.int .i64 ((rd_T49 l0 ((rd_T49 l0 0).f4)).f4))).setCell ⟨gb150, 5, none⟩ (.int .i64 ((rd_T49 l0 ((rd_T49 l0 0).f4)).f5)))) := ⟨by repeat (first | (with_reducible first | exact HB.out | apply below_alloc | apply pw_below_drewN | apply below_drew1 | refine below_set ?_ GE150.out) | exact HB.out)⟩
       (try clear BK150)
       (try clear HB)
       generalize ((((((w13.setCell ⟨gb150, 0, none⟩ (.int .i64 ((rd_T49 l0 ((rd_T49 l0 0).f4)).f0))).setCell ⟨gb150, 1, none⟩ (.int .i64 ((rd_T49 l0 ((rd_T49 l0 0).f4)).f1))).setCell ⟨gb150, 2, none⟩ (.int .i64 ((rd_T49 l0 ((rd_T49 l0 0).f4)).f2))).setCell ⟨gb150, 3, none⟩ (.int .i64 ((rd_T49 l0 ((rd_T49 l0 0).f4)).f3))).setCell ⟨gb150, 4, none⟩ (.int .i64 ((rd_T49 l0 ((rd_T49 l0 0).f4)).f4))).setCell ⟨gb150, 5, none⟩ (.int .i64 ((rd_T49 l0 ((rd_T49 l0 0).f4)).f5))) = w15 at n0_ n1_ ⊢
       have BK150 := n0_
       have HB := n1_
       clear n0_ n1_
       have n0_ := Aside0.mk (blk_drew BK150.out)
       have n1_ := Aside0.mk (below_drew1 HB.out)
       clear BK150
       clear HB
       have BK150 := n0_
       have HB := n1_
       clear n0_ n1_
       refine start_ (n := 3) (S := fun w' => w'.cell? ⟨gb150, 0, none⟩ = some (.int .i64 ((rd_T49 l0 ((rd_T49 l0 0).f4)).f0)) ∧ w'.cell? ⟨gb150, 1, none⟩ = some (.int .i64 ((rd_T49 l0 ((rd_T49 l0 0).f4)).f1)) ∧ w'.cell? ⟨gb150, 2, none⟩ = some (.int .i64 ((rd_T49 l0 ((rd_T49 l0 0).f4)).f2)) ∧ w'.cell? ⟨gb150, 3, none⟩ = some (.int .i64 ((rd_T49 l0 ((rd_T49 l0 0).f4)).f3)) ∧ w'.cell? ⟨gb150, 4, none⟩ = some (.int .i64 ((rd_T49 l0 ((rd_T49 l0 0).f4)).f4)) ∧ w'.cell? ⟨gb150, 5, none⟩ = some (.int .i64 ((rd_T49 l0 ((rd_T49 l0 0).f4)).f5))) (ds := []) #[false, false, false] (by kernel_rfl) rfl rfl ⟨(blk_cell BK150.out 0).trans rfl, (blk_cell BK150.out 1).trans rfl, (blk_cell BK150.out 2).trans rfl, (blk_cell BK150.out 3).trans rfl, (blk_cell BK150.out 4).trans rfl, (blk_cell BK150.out 5).trans rfl⟩ (fun hHeld => ?_)
       generalize w15.drew = w16 at BK150 HB hHeld ⊢
       refine take_ (i := 0) (N := some 26) (v := ?_) (a' := ?_) #[true, false, false] rfl rfl (by kernel_rfl) (fun _ _ _ h => h) (Or.inl ⟨by rfl, ?_⟩) hHeld ?_ ?_
       rotate_left
       ·
        rintro w' ⟨s0, s1, s2, s3, s4, s5⟩
        go_simp
        with_reducible rfl
       rotate_left
       ·
        simp only [Act.put, List.setIfInBounds_toArray, List.set_cons_zero, List.set_cons_succ, i64_w, i32_w]
        rfl
       refine one_ (i := 1) (N := some 27) #[true, true, false] rfl rfl (by kernel_rfl) (by decide) (fun K hK => ?_)
       refine goes_ Try.func69 (by kernel_rfl) rfl #[] (by rfl) rfl rfl (by (try simp only [List.map_toArray, List.map_cons, List.map_nil]); first | done | rfl | (simp only [List.length_drop, List.length_take]; rfl)) ?_
       with_reducible refine (table_sentinel.calls  t151 t152 t153 t154 t155 t156 _ A9.out).mono ?_
       rintro e w17 ⟨rfl, hb⟩
       refine ⟨_, rfl, ?_⟩
       have n0_ := Aside0.mk (blk_below (g := gb150) (o := .cells #[.int .i64 ((rd_T49 l0 ((rd_T49 l0 0).f4)).f0), .int .i64 ((rd_T49 l0 ((rd_T49 l0 0).f4)).f1), .int .i64 ((rd_T49 l0 ((rd_T49 l0 0).f4)).f2), .int .i64 ((rd_T49 l0 ((rd_T49 l0 0).f4)).f3), .int .i64 ((rd_T49 l0 ((rd_T49 l0 0).f4)).f4), .int .i64 ((rd_T49 l0 ((rd_T49 l0 0).f4)).f5)] 49 (0, 0)) (by (with_reducible repeat (first | refine blk_drewN ?_ _ | refine blk_drew ?_ | refine blk_alloc ?_ _)); exact BK150.out) hb)
       have n1_ := Aside0.mk (below_step (by repeat (first | (with_reducible first | exact HB.out | apply below_alloc | apply pw_below_drewN | apply below_drew1 | refine below_set ?_ GE150.out) | exact HB.out)) hb)
       clear BK150
       clear HB
       have BK150 := n0_
       have HB := n1_
       clear n0_ n1_
       (try clear hb)
       (try clear hb2)
       (try clear hk)
       (try clear hi)
       refine hK.out _ _ ⟨(blk_cell BK150.out 0).trans rfl, (blk_cell BK150.out 1).trans rfl, (blk_cell BK150.out 2).trans rfl, (blk_cell BK150.out 3).trans rfl, (blk_cell BK150.out 4).trans rfl, (blk_cell BK150.out 5).trans rfl⟩ (fun hHeld => ?_)
       clear hK K
       refine norm_ (a' := ?_) ?_ ?_
       rotate_left
       ·
        show Act.put _ (some 27) _ = _
        simp only [Act.put, List.setIfInBounds_toArray, List.set_cons_zero, List.set_cons_succ, i64_w, i32_w]
        rfl
       refine pure_ (i := 2) (N := some 28) (v := ?_) (a' := ?_) #[true, true, true] rfl rfl (by kernel_rfl) (fun _ _ _ h => h) (Or.inl ⟨by rfl, ?_⟩) ?_ ?_
       rotate_left
       ·
        intro w'
        go_simp
        with_reducible rfl
       rotate_left
       ·
        simp only [Act.put, List.setIfInBounds_toArray, List.set_cons_zero, List.set_cons_succ, i64_w, i32_w]
        rfl
       refine done_ (by kernel_rfl) ?_
       try go_wp2
       go_ret2
       exact ⟨by first | rfl | (simp [errW_none, errW_some] <;> rfl) | (simp [*, errW_none, errW_some] <;> rfl), by repeat (first | (with_reducible first | exact HB.out | apply below_alloc | apply pw_below_drewN | apply below_drew1 | refine below_set ?_ GE150.out) | exact HB.out)⟩
      ·
       rw [if_neg c10] at H
       have c10b0 : (((rd_T49 l0 ((rd_T49 l0 0).f4)).f0) == t151 && (((rd_T49 l0 ((rd_T49 l0 0).f4)).f1) == t152 && (((rd_T49 l0 ((rd_T49 l0 0).f4)).f2) == t153 && (((rd_T49 l0 ((rd_T49 l0 0).f4)).f3) == t154 && (((rd_T49 l0 ((rd_T49 l0 0).f4)).f4) == t155 && (((rd_T49 l0 ((rd_T49 l0 0).f4)).f5) == t156)))))) = false := by simpa using c10
       (try (have c10b1 : decide (((rd_T49 l0 ((rd_T49 l0 0).f4)).f0) = t151 && (((rd_T49 l0 ((rd_T49 l0 0).f4)).f1) == t152 && (((rd_T49 l0 ((rd_T49 l0 0).f4)).f2) == t153 && (((rd_T49 l0 ((rd_T49 l0 0).f4)).f3) == t154 && (((rd_T49 l0 ((rd_T49 l0 0).f4)).f4) == t155 && (((rd_T49 l0 ((rd_T49 l0 0).f4)).f5) == t156)))))) = false := by simpa using c10))
       (try (have c10b2 : (((rd_T49 l0 ((rd_T49 l0 0).f4)).f0) == t151 && (((rd_T49 l0 ((rd_T49 l0 0).f4)).f1) == t152 && (((rd_T49 l0 ((rd_T49 l0 0).f4)).f2) == t153 && (((rd_T49 l0 ((rd_T49 l0 0).f4)).f3) == t154 && (((rd_T49 l0 ((rd_T49 l0 0).f4)).f4) == t155 && (((rd_T49 l0 ((rd_T49 l0 0).f4)).f5) == t156)))))) = false := by simpa using c10))
       (try (have c10b3 : ¬ (((rd_T49 l0 ((rd_T49 l0 0).f4)).f0) = t151 && (((rd_T49 l0 ((rd_T49 l0 0).f4)).f1) == t152 && (((rd_T49 l0 ((rd_T49 l0 0).f4)).f2) == t153 && (((rd_T49 l0 ((rd_T49 l0 0).f4)).f3) == t154 && (((rd_T49 l0 ((rd_T49 l0 0).f4)).f4) == t155 && (((rd_T49 l0 ((rd_T49 l0 0).f4)).f5) == t156)))))) := by simpa using c10))
       clear c10
       replace H := Option.bind_eq_some_iff.mp H
       obtain ⟨t157, A180, H⟩ := H
       replace H : (if t157 = true then ((table_order.f k l0 ((rd_T49 l0 ((rd_T49 l0 0).f4)).f4)).bind fun t158 => (table_Root.l0 k l0 t158 (t158.length : Int) 0 ((rd_T49 l0 ((rd_T49 l0 0).f4)).f0) ((rd_T49 l0 ((rd_T49 l0 0).f4)).f1) ((rd_T49 l0 ((rd_T49 l0 0).f4)).f2) ((rd_T49 l0 ((rd_T49 l0 0).f4)).f3) ((rd_T49 l0 ((rd_T49 l0 0).f4)).f4) ((rd_T49 l0 ((rd_T49 l0 0).f4)).f5))) else (some (0, 3))) = some (r1, r2) := H
       have A18 := Aside0.mk A180
       clear A180
       by_cases c19 : t157 = true
       ·
        subst c19
        have H1 : ((table_order.f k l0 ((rd_T49 l0 ((rd_T49 l0 0).f4)).f4)).bind fun t158 => (table_Root.l0 k l0 t158 (t158.length : Int) 0 ((rd_T49 l0 ((rd_T49 l0 0).f4)).f0) ((rd_T49 l0 ((rd_T49 l0 0).f4)).f1) ((rd_T49 l0 ((rd_T49 l0 0).f4)).f2) ((rd_T49 l0 ((rd_T49 l0 0).f4)).f3) ((rd_T49 l0 ((rd_T49 l0 0).f4)).f4) ((rd_T49 l0 ((rd_T49 l0 0).f4)).f5))) = some (r1, r2) := by rw [if_pos rfl] at H; exact H
        clear H
        have H := H1
        clear H1
        replace H := Option.bind_eq_some_iff.mp H
        obtain ⟨t158, A200, H⟩ := H
        replace H : (table_Root.l0 k l0 t158 (t158.length : Int) 0 ((rd_T49 l0 ((rd_T49 l0 0).f4)).f0) ((rd_T49 l0 ((rd_T49 l0 0).f4)).f1) ((rd_T49 l0 ((rd_T49 l0 0).f4)).f2) ((rd_T49 l0 ((rd_T49 l0 0).f4)).f3) ((rd_T49 l0 ((rd_T49 l0 0).f4)).f4) ((rd_T49 l0 ((rd_T49 l0 0).f4)).f5)) = some (r1, r2) := H
        have A20 := Aside0.mk A200
        clear A200
        have H' := Aside0.mk H
        clear H
        go_enter Try.func62, Try.ntmps62
        try go_wp2_with (first | ((with_reducible refine gate_callee (f := 60) rfl ?_); refine goesL_ (some 9) rfl rfl Try.func60 (by kernel_rfl) rfl #[.slice A0 l0.length c0] rfl (by (try simp only [List.map_toArray, List.map_cons, List.map_nil]); first | done | rfl | (simp only [List.length_drop, List.length_take]; rfl)) ?_; (with_reducible refine (table_Check.calls k _ _ l0 t145 _ ?side1 ?side2 A2.out).mono ?_); (case side1 => repeat (first | exact HR0.out | (with_reducible refine Kd.C_alloc ?_ _) | (with_reducible refine Kd.C_drewN ?_ _) | (with_reducible refine Kd.C_drew ?_))); (case side2 => exact HC0.out); rintro e w21 ⟨rfl, hb⟩; refine ⟨_, rfl, ?_⟩; have n0_ := Aside0.mk (below_step (by repeat (first | (with_reducible first | exact HB.out | apply below_alloc | apply pw_below_drewN | apply below_drew1) | exact HB.out)) hb); clear HB; have HB := n0_; clear n0_; (try clear hb); (try clear hb2); (try clear hk); (try clear hi); have p146 : 0 ≤ (0 : Int) := (by omega); have q146 : 0 < (l0.length : Int) := of_decide_eq_true (by first | (with_reducible assumption) | assumption); obtain ⟨ad146, e146, hx146_0, hx146_1, hx146_2, hx146_3, hx146_4, hx146_5⟩ := at_T49 HR0.out 0 p146 q146; cases e146; have qi146 : (0 < l0.length) = True := eq_true (by omega); (try rw [show ((0 : Int)).toNat = 0 from rfl] at hx146_0); (try rw [show 0 * 6 = 0 from rfl] at hx146_0); (try rw [Addr.add_zero'] at hx146_0); (try rw [show ((0 : Int)).toNat = 0 from rfl] at hx146_1); (try rw [show 0 * 6 = 0 from rfl] at hx146_1); (try rw [Addr.add_zero'] at hx146_1); (try rw [show ((0 : Int)).toNat = 0 from rfl] at hx146_2); (try rw [show 0 * 6 = 0 from rfl] at hx146_2); (try rw [Addr.add_zero'] at hx146_2); (try rw [show ((0 : Int)).toNat = 0 from rfl] at hx146_3); (try rw [show 0 * 6 = 0 from rfl] at hx146_3); (try rw [Addr.add_zero'] at hx146_3); (try rw [show ((0 : Int)).toNat = 0 from rfl] at hx146_4); (try rw [show 0 * 6 = 0 from rfl] at hx146_4); (try rw [Addr.add_zero'] at hx146_4); (try rw [show ((0 : Int)).toNat = 0 from rfl] at hx146_5); (try rw [show 0 * 6 = 0 from rfl] at hx146_5); (try rw [Addr.add_zero'] at hx146_5); replace hx146_0 := (HB.out.cell (World.block_lt_of_cell? w _ hx146_0)).trans hx146_0; replace hx146_1 := (HB.out.cell (World.block_lt_of_cell? w _ hx146_1)).trans hx146_1; replace hx146_2 := (HB.out.cell (World.block_lt_of_cell? w _ hx146_2)).trans hx146_2; replace hx146_3 := (HB.out.cell (World.block_lt_of_cell? w _ hx146_3)).trans hx146_3; replace hx146_4 := (HB.out.cell (World.block_lt_of_cell? w _ hx146_4)).trans hx146_4; replace hx146_5 := (HB.out.cell (World.block_lt_of_cell? w _ hx146_5)).trans hx146_5; replace p146 := eq_true p146; replace q146 := eq_true q146) | ((with_reducible refine gate_callee (f := 68) rfl ?_); refine goesL_ (some 17) rfl rfl Try.func68 (by kernel_rfl) rfl #[.slice (some ad146) l0.length c0, .agg #[.int .i64 ((rd_T49 l0 0).f0), .int .i64 ((rd_T49 l0 0).f1), .int .i64 ((rd_T49 l0 0).f2), .int .i64 ((rd_T49 l0 0).f3), .int .i64 ((rd_T49 l0 0).f4), .int .i64 ((rd_T49 l0 0).f5)]] rfl (by (try simp only [List.map_toArray, List.map_cons, List.map_nil]); first | done | rfl | (simp only [List.length_drop, List.length_take]; rfl)) ?_; (with_reducible refine (table_crowned.calls _ _ l0 ((rd_T49 l0 0).f0) ((rd_T49 l0 0).f1) ((rd_T49 l0 0).f2) ((rd_T49 l0 0).f3) ((rd_T49 l0 0).f4) ((rd_T49 l0 0).f5) true _ ?side1 ?side2 A5.out).mono ?_); (case side1 => repeat (first | exact (Kd.C_below HR0.out HB.out) | (with_reducible refine Kd.C_alloc ?_ _) | (with_reducible refine Kd.C_drewN ?_ _) | (with_reducible refine Kd.C_drew ?_))); (case side2 => exact HC0.out); rintro e w22 ⟨rfl, hb⟩; refine ⟨_, rfl, ?_⟩; have n0_ := Aside0.mk (below_step (by repeat (first | (with_reducible first | exact HB.out | apply below_alloc | apply pw_below_drewN | apply below_drew1) | exact HB.out)) hb); clear HB; have HB := n0_; clear n0_; (try clear hb); (try clear hb2); (try clear hk); (try clear hi); have p148 : 0 ≤ (0 : Int) := (by omega); have q148 : 0 < (l0.length : Int) := of_decide_eq_true (by first | (with_reducible assumption) | assumption); obtain ⟨ad148, e148, hx148_0, hx148_1, hx148_2, hx148_3, hx148_4, hx148_5⟩ := at_T49 HR0.out 0 p148 q148; obtain rfl : ad146 = ad148 := (by injection e148); have qi148 : (0 < l0.length) = True := eq_true (by omega); (try rw [show ((0 : Int)).toNat = 0 from rfl] at hx148_0); (try rw [show 0 * 6 = 0 from rfl] at hx148_0); (try rw [Addr.add_zero'] at hx148_0); (try rw [show ((0 : Int)).toNat = 0 from rfl] at hx148_1); (try rw [show 0 * 6 = 0 from rfl] at hx148_1); (try rw [Addr.add_zero'] at hx148_1); (try rw [show ((0 : Int)).toNat = 0 from rfl] at hx148_2); (try rw [show 0 * 6 = 0 from rfl] at hx148_2); (try rw [Addr.add_zero'] at hx148_2); (try rw [show ((0 : Int)).toNat = 0 from rfl] at hx148_3); (try rw [show 0 * 6 = 0 from rfl] at hx148_3); (try rw [Addr.add_zero'] at hx148_3); (try rw [show ((0 : Int)).toNat = 0 from rfl] at hx148_4); (try rw [show 0 * 6 = 0 from rfl] at hx148_4); (try rw [Addr.add_zero'] at hx148_4); (try rw [show ((0 : Int)).toNat = 0 from rfl] at hx148_5); (try rw [show 0 * 6 = 0 from rfl] at hx148_5); (try rw [Addr.add_zero'] at hx148_5); replace hx148_0 := (HB.out.cell (World.block_lt_of_cell? w _ hx148_0)).trans hx148_0; replace hx148_1 := (HB.out.cell (World.block_lt_of_cell? w _ hx148_1)).trans hx148_1; replace hx148_2 := (HB.out.cell (World.block_lt_of_cell? w _ hx148_2)).trans hx148_2; replace hx148_3 := (HB.out.cell (World.block_lt_of_cell? w _ hx148_3)).trans hx148_3; replace hx148_4 := (HB.out.cell (World.block_lt_of_cell? w _ hx148_4)).trans hx148_4; replace hx148_5 := (HB.out.cell (World.block_lt_of_cell? w _ hx148_5)).trans hx148_5; replace p148 := eq_true p148; replace q148 := eq_true q148; have p149 : 0 ≤ (((rd_T49 l0 0).f4) : Int) := of_decide_eq_true (by first | (with_reducible assumption) | assumption); have q149 : ((rd_T49 l0 0).f4) < (l0.length : Int) := of_decide_eq_true (by first | (with_reducible assumption) | assumption); obtain ⟨ad149, e149, hx149_0, hx149_1, hx149_2, hx149_3, hx149_4, hx149_5⟩ := at_T49 HR0.out ((rd_T49 l0 0).f4) p149 q149; obtain rfl : ad146 = ad149 := (by injection e149); replace hx149_0 := (HB.out.cell (World.block_lt_of_cell? w _ hx149_0)).trans hx149_0; replace hx149_1 := (HB.out.cell (World.block_lt_of_cell? w _ hx149_1)).trans hx149_1; replace hx149_2 := (HB.out.cell (World.block_lt_of_cell? w _ hx149_2)).trans hx149_2; replace hx149_3 := (HB.out.cell (World.block_lt_of_cell? w _ hx149_3)).trans hx149_3; replace hx149_4 := (HB.out.cell (World.block_lt_of_cell? w _ hx149_4)).trans hx149_4; replace hx149_5 := (HB.out.cell (World.block_lt_of_cell? w _ hx149_5)).trans hx149_5; replace p149 := eq_true p149; replace q149 := eq_true q149) | ((with_reducible refine gate_dst (N := 5) rfl ?_); refine box_event ?hg (N := 5) ?hd (cs := #[.int .i64 0, .int .i64 0, .int .i64 0, .int .i64 0, .int .i64 0, .int .i64 0]) (t := 49) ?hr ?_; (case hd => rfl); (case hg => rfl); (case hr => first | (go_simp; done) | (go_simp; rfl)); intro gb150 hg w23 hbox hb; have n0_ := Aside0.mk (below_step (by repeat (first | (with_reducible first | exact HB.out | apply below_alloc | apply pw_below_drewN | apply below_drew1) | exact HB.out)) hb); have n1_ := Aside0.mk (hbox); have n2_ := Aside0.mk ((by rw [hg]; exact (below_size (by repeat (first | (with_reducible first | exact HB.out | apply below_alloc | apply pw_below_drewN | apply below_drew1) | exact HB.out))) : w.heap.size ≤ gb150)); have n3_ := Aside0.mk ((by rw [hg]; exact (below_size (by repeat (first | (with_reducible first | exact HB.out | apply below_alloc | apply pw_below_drewN | apply below_drew1) | exact HB.out))) : w.heap.size ≤ gb150)); clear HB; have HB := n0_; have BK150 := n1_; have GW150 := n2_; have GE150 := n3_; clear n0_ n1_ n2_ n3_; clear hb hbox hg; have hcz24_0 : w23.cell? ⟨gb150, 0, none⟩ = some (.int .i64 0) := (blk_cell BK150.out 0).trans rfl; have hcz24_1 : w23.cell? ⟨gb150, 1, none⟩ = some (.int .i64 0) := (blk_cell BK150.out 1).trans rfl; have hcz24_2 : w23.cell? ⟨gb150, 2, none⟩ = some (.int .i64 0) := (blk_cell BK150.out 2).trans rfl; have hcz24_3 : w23.cell? ⟨gb150, 3, none⟩ = some (.int .i64 0) := (blk_cell BK150.out 3).trans rfl; have hcz24_4 : w23.cell? ⟨gb150, 4, none⟩ = some (.int .i64 0) := (blk_cell BK150.out 4).trans rfl; have hcz24_5 : w23.cell? ⟨gb150, 5, none⟩ = some (.int .i64 0) := (blk_cell BK150.out 5).trans rfl; have hfz24_0 := blk_frozen BK150.out 0; have hfz24_1 := blk_frozen BK150.out 1; have hfz24_2 := blk_frozen BK150.out 2; have hfz24_3 := blk_frozen BK150.out 3; have hfz24_4 := blk_frozen BK150.out 4; have hfz24_5 := blk_frozen BK150.out 5))
        have n0_ : Aside0 (((((((w23.setCell ⟨gb150, 0, none⟩ (.int .i64 ((rd_T49 l0 ((rd_T49 l0 0).f4)).f0))).setCell ⟨gb150, 1, none⟩ (.int .i64 ((rd_T49 l0 ((rd_T49 l0 0).f4)).f1))).setCell ⟨gb150, 2, none⟩ (.int .i64 ((rd_T49 l0 ((rd_T49 l0 0).f4)).f2))).setCell ⟨gb150, 3, none⟩ (.int .i64 ((rd_T49 l0 ((rd_T49 l0 0).f4)).f3))).setCell ⟨gb150, 4, none⟩ (.int .i64 ((rd_T49 l0 ((rd_T49 l0 0).f4)).f4))).setCell ⟨gb150, 5, none⟩ (.int .i64 ((rd_T49 l0 ((rd_T49 l0 0).f4)).f5))).heap[gb150]? = some (.cells #[.int .i64 ((rd_T49 l0 ((rd_T49 l0 0).f4)).f0), .int .i64 ((rd_T49 l0 ((rd_T49 l0 0).f4)).f1), .int .i64 ((rd_T49 l0 ((rd_T49 l0 0).f4)).f2), .int .i64 ((rd_T49 l0 ((rd_T49 l0 0).f4)).f3), .int .i64 ((rd_T49 l0 ((rd_T49 l0 0).f4)).f4), .int .i64 ((rd_T49 l0 ((rd_T49 l0 0).f4)).f5)] 49 (0, 0))) := ⟨by (with_reducible repeat (first | refine blk_drewN ?_ _ | refine blk_drew ?_ | refine blk_alloc ?_ _)); refine blk_put (cs := #[.int .i64 ((rd_T49 l0 ((rd_T49 l0 0).f4)).f0), .int .i64 ((rd_T49 l0 ((rd_T49 l0 0).f4)).f1), .int .i64 ((rd_T49 l0 ((rd_T49 l0 0).f4)).f2), .int .i64 ((rd_T49 l0 ((rd_T49 l0 0).f4)).f3), .int .i64 ((rd_T49 l0 ((rd_T49 l0 0).f4)).f4), .int .i64 0]) ?_ 5 _ rfl; (with_reducible repeat (first | refine blk_drewN ?_ _ | refine blk_drew ?_ | refine blk_alloc ?_ _)); refine blk_put (cs := #[.int .i64 ((rd_T49 l0 ((rd_T49 l0 0).f4)).f0), .int .i64 ((rd_T49 l0 ((rd_T49 l0 0).f4)).f1), .int .i64 ((rd_T49 l0 ((rd_T49 l0 0).f4)).f2), .int .i64 ((rd_T49 l0 ((rd_T49 l0 0).f4)).f3), .int .i64 0, .int .i64 0]) ?_ 4 _ rfl; (with_reducible repeat (first | refine blk_drewN ?_ _ | refine blk_drew ?_ | refine blk_alloc ?_ _)); refine blk_put (cs := #[.int .i64 ((rd_T49 l0 ((rd_T49 l0 0).f4)).f0), .int .i64 ((rd_T49 l0 ((rd_T49 l0 0).f4)).f1), .int .i64 ((rd_T49 l0 ((rd_T49 l0 0).f4)).f2), .int .i64 0, .int .i64 0, .int .i64 0]) ?_ 3 _ rfl; (with_reducible repeat (first | refine blk_drewN ?_ _ | refine blk_drew ?_ | refine blk_alloc ?_ _)); refine blk_put (cs := #[.int .i64 ((rd_T49 l0 ((rd_T49 l0 0).f4)).f0), .int .i64 ((rd_T49 l0 ((rd_T49 l0 0).f4)).f1), .int .i64 0, .int .i64 0, .int .i64 0, .int .i64 0]) ?_ 2 _ rfl; (with_reducible repeat (first | refine blk_drewN ?_ _ | refine blk_drew ?_ | refine blk_alloc ?_ _)); refine blk_put (cs := #[.int .i64 ((rd_T49 l0 ((rd_T49 l0 0).f4)).f0), .int .i64 0, .int .i64 0, .int .i64 0, .int .i64 0, .int .i64 0]) ?_ 1 _ rfl; (with_reducible repeat (first | refine blk_drewN ?_ _ | refine blk_drew ?_ | refine blk_alloc ?_ _)); refine blk_put (cs := #[.int .i64 0, .int .i64 0, .int .i64 0, .int .i64 0, .int .i64 0, .int .i64 0]) ?_ 0 _ rfl; (with_reducible repeat (first | refine blk_drewN ?_ _ | refine blk_drew ?_ | refine blk_alloc ?_ _)); exact BK150.out⟩
        have n1_ : Aside0 (Below w.heap.size w ((((((w23.setCell ⟨gb150, 0, none⟩ (.int .i64 ((rd_T49 l0 ((rd_T49 l0 0).f4)).f0))).setCell ⟨gb150, 1, none⟩ (.int .i64 ((rd_T49 l0 ((rd_T49 l0 0).f4)).f1))).setCell ⟨gb150, 2, none⟩ (.int .i64 ((rd_T49 l0 ((rd_T49 l0 0).f4)).f2))).setCell ⟨gb150, 3, none⟩ (.int .i64 ((rd_T49 l0 ((rd_T49 l0 0).f4)).f3))).setCell ⟨gb150, 4, none⟩ (.int .i64 ((rd_T49 l0 ((rd_T49 l0 0).f4)).f4))).setCell ⟨gb150, 5, none⟩ (.int .i64 ((rd_T49 l0 ((rd_T49 l0 0).f4)).f5)))) := ⟨by repeat (first | (with_reducible first | exact HB.out | apply below_alloc | apply pw_below_drewN | apply below_drew1 | refine below_set ?_ GE150.out) | exact HB.out)⟩
        (try clear BK150)
        (try clear HB)
        generalize ((((((w23.setCell ⟨gb150, 0, none⟩ (.int .i64 ((rd_T49 l0 ((rd_T49 l0 0).f4)).f0))).setCell ⟨gb150, 1, none⟩ (.int .i64 ((rd_T49 l0 ((rd_T49 l0 0).f4)).f1))).setCell ⟨gb150, 2, none⟩ (.int .i64 ((rd_T49 l0 ((rd_T49 l0 0).f4)).f2))).setCell ⟨gb150, 3, none⟩ (.int .i64 ((rd_T49 l0 ((rd_T49 l0 0).f4)).f3))).setCell ⟨gb150, 4, none⟩ (.int .i64 ((rd_T49 l0 ((rd_T49 l0 0).f4)).f4))).setCell ⟨gb150, 5, none⟩ (.int .i64 ((rd_T49 l0 ((rd_T49 l0 0).f4)).f5))) = w25 at n0_ n1_ ⊢
        have BK150 := n0_
        have HB := n1_
        clear n0_ n1_
        have n0_ := Aside0.mk (blk_drew BK150.out)
        have n1_ := Aside0.mk (below_drew1 HB.out)
        clear BK150
        clear HB
        have BK150 := n0_
        have HB := n1_
        clear n0_ n1_
        refine start_ (n := 3) (S := fun w' => w'.cell? ⟨gb150, 0, none⟩ = some (.int .i64 ((rd_T49 l0 ((rd_T49 l0 0).f4)).f0)) ∧ w'.cell? ⟨gb150, 1, none⟩ = some (.int .i64 ((rd_T49 l0 ((rd_T49 l0 0).f4)).f1)) ∧ w'.cell? ⟨gb150, 2, none⟩ = some (.int .i64 ((rd_T49 l0 ((rd_T49 l0 0).f4)).f2)) ∧ w'.cell? ⟨gb150, 3, none⟩ = some (.int .i64 ((rd_T49 l0 ((rd_T49 l0 0).f4)).f3)) ∧ w'.cell? ⟨gb150, 4, none⟩ = some (.int .i64 ((rd_T49 l0 ((rd_T49 l0 0).f4)).f4)) ∧ w'.cell? ⟨gb150, 5, none⟩ = some (.int .i64 ((rd_T49 l0 ((rd_T49 l0 0).f4)).f5))) (ds := []) #[false, false, false] (by kernel_rfl) rfl rfl ⟨(blk_cell BK150.out 0).trans rfl, (blk_cell BK150.out 1).trans rfl, (blk_cell BK150.out 2).trans rfl, (blk_cell BK150.out 3).trans rfl, (blk_cell BK150.out 4).trans rfl, (blk_cell BK150.out 5).trans rfl⟩ (fun hHeld => ?_)
        generalize w25.drew = w26 at BK150 HB hHeld ⊢
        refine take_ (i := 0) (N := some 26) (v := ?_) (a' := ?_) #[true, false, false] rfl rfl (by kernel_rfl) (fun _ _ _ h => h) (Or.inl ⟨by rfl, ?_⟩) hHeld ?_ ?_
        rotate_left
        ·
         rintro w' ⟨s0, s1, s2, s3, s4, s5⟩
         go_simp
         with_reducible rfl
        rotate_left
        ·
         simp only [Act.put, List.setIfInBounds_toArray, List.set_cons_zero, List.set_cons_succ, i64_w, i32_w]
         rfl
        refine one_ (i := 1) (N := some 27) #[true, true, false] rfl rfl (by kernel_rfl) (by decide) (fun K hK => ?_)
        refine goes_ Try.func69 (by kernel_rfl) rfl #[] (by rfl) rfl rfl (by (try simp only [List.map_toArray, List.map_cons, List.map_nil]); first | done | rfl | (simp only [List.length_drop, List.length_take]; rfl)) ?_
        with_reducible refine (table_sentinel.calls  t151 t152 t153 t154 t155 t156 _ A9.out).mono ?_
        rintro e w27 ⟨rfl, hb⟩
        refine ⟨_, rfl, ?_⟩
        have n0_ := Aside0.mk (blk_below (g := gb150) (o := .cells #[.int .i64 ((rd_T49 l0 ((rd_T49 l0 0).f4)).f0), .int .i64 ((rd_T49 l0 ((rd_T49 l0 0).f4)).f1), .int .i64 ((rd_T49 l0 ((rd_T49 l0 0).f4)).f2), .int .i64 ((rd_T49 l0 ((rd_T49 l0 0).f4)).f3), .int .i64 ((rd_T49 l0 ((rd_T49 l0 0).f4)).f4), .int .i64 ((rd_T49 l0 ((rd_T49 l0 0).f4)).f5)] 49 (0, 0)) (by (with_reducible repeat (first | refine blk_drewN ?_ _ | refine blk_drew ?_ | refine blk_alloc ?_ _)); exact BK150.out) hb)
        have n1_ := Aside0.mk (below_step (by repeat (first | (with_reducible first | exact HB.out | apply below_alloc | apply pw_below_drewN | apply below_drew1 | refine below_set ?_ GE150.out) | exact HB.out)) hb)
        clear BK150
        clear HB
        have BK150 := n0_
        have HB := n1_
        clear n0_ n1_
        (try clear hb)
        (try clear hb2)
        (try clear hk)
        (try clear hi)
        refine hK.out _ _ ⟨(blk_cell BK150.out 0).trans rfl, (blk_cell BK150.out 1).trans rfl, (blk_cell BK150.out 2).trans rfl, (blk_cell BK150.out 3).trans rfl, (blk_cell BK150.out 4).trans rfl, (blk_cell BK150.out 5).trans rfl⟩ (fun hHeld => ?_)
        clear hK K
        refine norm_ (a' := ?_) ?_ ?_
        rotate_left
        ·
         show Act.put _ (some 27) _ = _
         simp only [Act.put, List.setIfInBounds_toArray, List.set_cons_zero, List.set_cons_succ, i64_w, i32_w]
         rfl
        refine pure_ (i := 2) (N := some 28) (v := ?_) (a' := ?_) #[true, true, true] rfl rfl (by kernel_rfl) (fun _ _ _ h => h) (Or.inl ⟨by rfl, ?_⟩) ?_ ?_
        rotate_left
        ·
         intro w'
         go_simp
         with_reducible rfl
        rotate_left
        ·
         simp only [Act.put, List.setIfInBounds_toArray, List.set_cons_zero, List.set_cons_succ, i64_w, i32_w]
         rfl
        refine done_ (by kernel_rfl) ?_
        have hcz28_0 : w27.cell? ⟨gb150, 0, none⟩ = some (.int .i64 ((rd_T49 l0 ((rd_T49 l0 0).f4)).f0)) := (blk_cell BK150.out 0).trans rfl
        have hcz28_1 : w27.cell? ⟨gb150, 1, none⟩ = some (.int .i64 ((rd_T49 l0 ((rd_T49 l0 0).f4)).f1)) := (blk_cell BK150.out 1).trans rfl
        have hcz28_2 : w27.cell? ⟨gb150, 2, none⟩ = some (.int .i64 ((rd_T49 l0 ((rd_T49 l0 0).f4)).f2)) := (blk_cell BK150.out 2).trans rfl
        have hcz28_3 : w27.cell? ⟨gb150, 3, none⟩ = some (.int .i64 ((rd_T49 l0 ((rd_T49 l0 0).f4)).f3)) := (blk_cell BK150.out 3).trans rfl
        have hcz28_4 : w27.cell? ⟨gb150, 4, none⟩ = some (.int .i64 ((rd_T49 l0 ((rd_T49 l0 0).f4)).f4)) := (blk_cell BK150.out 4).trans rfl
        have hcz28_5 : w27.cell? ⟨gb150, 5, none⟩ = some (.int .i64 ((rd_T49 l0 ((rd_T49 l0 0).f4)).f5)) := (blk_cell BK150.out 5).trans rfl
        have hfz28_0 := blk_frozen BK150.out 0
        have hfz28_1 := blk_frozen BK150.out 1
        have hfz28_2 := blk_frozen BK150.out 2
        have hfz28_3 := blk_frozen BK150.out 3
        have hfz28_4 := blk_frozen BK150.out 4
        have hfz28_5 := blk_frozen BK150.out 5
        try go_wp2_with (first | ((with_reducible refine gate_callee (f := 68) rfl ?_); refine goesL_ (some 31) rfl rfl Try.func68 (by kernel_rfl) rfl #[.slice (some ad146) l0.length c0, .agg #[.int .i64 ((rd_T49 l0 ((rd_T49 l0 0).f4)).f0), .int .i64 ((rd_T49 l0 ((rd_T49 l0 0).f4)).f1), .int .i64 ((rd_T49 l0 ((rd_T49 l0 0).f4)).f2), .int .i64 ((rd_T49 l0 ((rd_T49 l0 0).f4)).f3), .int .i64 ((rd_T49 l0 ((rd_T49 l0 0).f4)).f4), .int .i64 ((rd_T49 l0 ((rd_T49 l0 0).f4)).f5)]] rfl (by (try simp only [List.map_toArray, List.map_cons, List.map_nil]); first | done | rfl | (simp only [List.length_drop, List.length_take]; rfl)) ?_; (with_reducible refine (table_crowned.calls _ _ l0 ((rd_T49 l0 ((rd_T49 l0 0).f4)).f0) ((rd_T49 l0 ((rd_T49 l0 0).f4)).f1) ((rd_T49 l0 ((rd_T49 l0 0).f4)).f2) ((rd_T49 l0 ((rd_T49 l0 0).f4)).f3) ((rd_T49 l0 ((rd_T49 l0 0).f4)).f4) ((rd_T49 l0 ((rd_T49 l0 0).f4)).f5) true _ ?side1 ?side2 A18.out).mono ?_); (case side1 => repeat (first | exact (Kd.C_below HR0.out HB.out) | (with_reducible refine Kd.C_alloc ?_ _) | (with_reducible refine Kd.C_drewN ?_ _) | (with_reducible refine Kd.C_drew ?_))); (case side2 => exact HC0.out); rintro e w29 ⟨rfl, hb⟩; refine ⟨_, rfl, ?_⟩; have n0_ := Aside0.mk (blk_below (g := gb150) (o := .cells #[.int .i64 ((rd_T49 l0 ((rd_T49 l0 0).f4)).f0), .int .i64 ((rd_T49 l0 ((rd_T49 l0 0).f4)).f1), .int .i64 ((rd_T49 l0 ((rd_T49 l0 0).f4)).f2), .int .i64 ((rd_T49 l0 ((rd_T49 l0 0).f4)).f3), .int .i64 ((rd_T49 l0 ((rd_T49 l0 0).f4)).f4), .int .i64 ((rd_T49 l0 ((rd_T49 l0 0).f4)).f5)] 49 (0, 0)) (by (with_reducible repeat (first | refine blk_drewN ?_ _ | refine blk_drew ?_ | refine blk_alloc ?_ _)); exact BK150.out) hb); have n1_ := Aside0.mk (below_step (by repeat (first | (with_reducible first | exact HB.out | apply below_alloc | apply pw_below_drewN | apply below_drew1 | refine below_set ?_ GE150.out) | exact HB.out)) hb); clear BK150; clear HB; have BK150 := n0_; have HB := n1_; clear n0_ n1_; (try clear hb); (try clear hb2); (try clear hk); (try clear hi); have hcz30_0 : w29.cell? ⟨gb150, 0, none⟩ = some (.int .i64 ((rd_T49 l0 ((rd_T49 l0 0).f4)).f0)) := (blk_cell BK150.out 0).trans rfl; have hcz30_1 : w29.cell? ⟨gb150, 1, none⟩ = some (.int .i64 ((rd_T49 l0 ((rd_T49 l0 0).f4)).f1)) := (blk_cell BK150.out 1).trans rfl; have hcz30_2 : w29.cell? ⟨gb150, 2, none⟩ = some (.int .i64 ((rd_T49 l0 ((rd_T49 l0 0).f4)).f2)) := (blk_cell BK150.out 2).trans rfl; have hcz30_3 : w29.cell? ⟨gb150, 3, none⟩ = some (.int .i64 ((rd_T49 l0 ((rd_T49 l0 0).f4)).f3)) := (blk_cell BK150.out 3).trans rfl; have hcz30_4 : w29.cell? ⟨gb150, 4, none⟩ = some (.int .i64 ((rd_T49 l0 ((rd_T49 l0 0).f4)).f4)) := (blk_cell BK150.out 4).trans rfl; have hcz30_5 : w29.cell? ⟨gb150, 5, none⟩ = some (.int .i64 ((rd_T49 l0 ((rd_T49 l0 0).f4)).f5)) := (blk_cell BK150.out 5).trans rfl; have hfz30_0 := blk_frozen BK150.out 0; have hfz30_1 := blk_frozen BK150.out 1; have hfz30_2 := blk_frozen BK150.out 2; have hfz30_3 := blk_frozen BK150.out 3; have hfz30_4 := blk_frozen BK150.out 4; have hfz30_5 := blk_frozen BK150.out 5) | ((with_reducible refine gate_callee (f := 65) rfl ?_); refine goesL_ (some 36) rfl rfl Try.func65 (by kernel_rfl) rfl #[.slice (some ad146) l0.length c0, .int .i64 ((rd_T49 l0 ((rd_T49 l0 0).f4)).f4)] rfl (by (try simp only [List.map_toArray, List.map_cons, List.map_nil]); first | done | rfl | (simp only [List.length_drop, List.length_take]; rfl)) ?_; (with_reducible refine (table_order.calls k _ _ l0 ((rd_T49 l0 ((rd_T49 l0 0).f4)).f4) t158 _ ?side1 ?side2 A20.out).mono ?_); (case side1 => repeat (first | exact (Kd.C_below HR0.out HB.out) | (with_reducible refine Kd.C_alloc ?_ _) | (with_reducible refine Kd.C_drewN ?_ _) | (with_reducible refine Kd.C_drew ?_))); (case side2 => exact HC0.out); rintro e w31 ⟨v159, rfl, ho0, hb⟩; refine ⟨_, rfl, ?_⟩; have n0_ := Aside0.mk (Kd.R_lower ho0 (below_size (by repeat (first | (with_reducible first | exact HB.out | apply below_alloc | apply pw_below_drewN | apply below_drew1 | refine below_set ?_ GE150.out) | exact HB.out)))); have n1_ := Aside0.mk (blk_below (g := gb150) (o := .cells #[.int .i64 ((rd_T49 l0 ((rd_T49 l0 0).f4)).f0), .int .i64 ((rd_T49 l0 ((rd_T49 l0 0).f4)).f1), .int .i64 ((rd_T49 l0 ((rd_T49 l0 0).f4)).f2), .int .i64 ((rd_T49 l0 ((rd_T49 l0 0).f4)).f3), .int .i64 ((rd_T49 l0 ((rd_T49 l0 0).f4)).f4), .int .i64 ((rd_T49 l0 ((rd_T49 l0 0).f4)).f5)] 49 (0, 0)) (by (with_reducible repeat (first | refine blk_drewN ?_ _ | refine blk_drew ?_ | refine blk_alloc ?_ _)); exact BK150.out) hb); have n2_ := Aside0.mk (below_step (by repeat (first | (with_reducible first | exact HB.out | apply below_alloc | apply pw_below_drewN | apply below_drew1 | refine below_set ?_ GE150.out) | exact HB.out)) hb); clear BK150; clear HB; have HO160 := n0_; have BK150 := n1_; have HB := n2_; clear n0_ n1_ n2_; (try clear hb); (try clear hb2); (try clear hk); (try clear hi); (try clear ho0); obtain ⟨Ao32, co32, eo32⟩ := Kd.R_slice HO160.out; subst eo32))
        go_loopg [38] k (fun kq v38 w' => ∃ (x38_1 : Int), v38 = .int .i64 x38_1 ∧ Aside0 (table_Root.l0 kq l0 t158 (t158.length : Int) x38_1 ((rd_T49 l0 ((rd_T49 l0 0).f4)).f0) ((rd_T49 l0 ((rd_T49 l0 0).f4)).f1) ((rd_T49 l0 ((rd_T49 l0 0).f4)).f2) ((rd_T49 l0 ((rd_T49 l0 0).f4)).f3) ((rd_T49 l0 ((rd_T49 l0 0).f4)).f4) ((rd_T49 l0 ((rd_T49 l0 0).f4)).f5) = some (r1, r2)) ∧ Aside0 (kq ≤ k) ∧ Aside0 (Kd.R (Kd.int .i64) 3 w' w.heap.size (fun _ => True) (.slice Ao32 t158.length co32) t158) ∧ Aside0 (w'.heap[gb150]? = some (.cells #[.int .i64 ((rd_T49 l0 ((rd_T49 l0 0).f4)).f0), .int .i64 ((rd_T49 l0 ((rd_T49 l0 0).f4)).f1), .int .i64 ((rd_T49 l0 ((rd_T49 l0 0).f4)).f2), .int .i64 ((rd_T49 l0 ((rd_T49 l0 0).f4)).f3), .int .i64 ((rd_T49 l0 ((rd_T49 l0 0).f4)).f4), .int .i64 ((rd_T49 l0 ((rd_T49 l0 0).f4)).f5)] 49 (0, 0))) ∧ Aside0 (Below w.heap.size w w'))
        case atStart => exact ⟨(0), (by first | rfl | (simp; done) | (simp [*]; done)), H', ⟨Nat.le_refl _⟩, ⟨by (with_reducible repeat (first | apply Kd.R_alloc | apply Kd.R_drewN | apply Kd.R_drew)); exact HO160.out⟩, ⟨by (with_reducible repeat (first | refine blk_drewN ?_ _ | refine blk_drew ?_ | refine blk_alloc ?_ _)); exact BK150.out⟩, ⟨by repeat (first | (with_reducible first | exact HB.out | apply below_alloc | apply pw_below_drewN | apply below_drew1 | refine below_set ?_ GE150.out) | exact HB.out)⟩⟩
        case round =>
         clear H'
         try clear c1
         try clear p1
         try clear q1
         try clear hx1
         try clear qi1
         try clear p2
         try clear c3
         try clear c3b0
         try clear c3b1
         try clear c4
         try clear c4b0
         try clear c4b1
         try clear c6
         try clear c7
         try clear c7b0
         try clear c8
         try clear c8b0
         try clear c10
         try clear c10b0
         try clear c10b1
         try clear c10b2
         try clear p14
         try clear q14
         try clear hx14
         try clear qi14
         try clear c19
         try clear hcz14_0
         try clear hcz14_1
         try clear hcz14_2
         try clear hcz14_3
         try clear hcz14_4
         try clear hcz14_5
         try clear hcz24_0
         try clear hcz24_1
         try clear hcz24_2
         try clear hcz24_3
         try clear hcz24_4
         try clear hcz24_5
         try clear hcz28_0
         try clear hcz28_1
         try clear hcz28_2
         try clear hcz28_3
         try clear hcz28_4
         try clear hcz28_5
         try clear hcz30_0
         try clear hcz30_1
         try clear hcz30_2
         try clear hcz30_3
         try clear hcz30_4
         try clear hcz30_5
         try clear hfz14_0
         try clear hfz14_1
         try clear hfz14_2
         try clear hfz14_3
         try clear hfz14_4
         try clear hfz14_5
         try clear hfz24_0
         try clear hfz24_1
         try clear hfz24_2
         try clear hfz24_3
         try clear hfz24_4
         try clear hfz24_5
         try clear hfz28_0
         try clear hfz28_1
         try clear hfz28_2
         try clear hfz28_3
         try clear hfz28_4
         try clear hfz28_5
         try clear hfz30_0
         try clear hfz30_1
         try clear hfz30_2
         try clear hfz30_3
         try clear hfz30_4
         try clear hfz30_5
         try clear hx146_0
         try clear hx146_1
         try clear hx146_2
         try clear hx146_3
         try clear hx146_4
         try clear hx146_5
         try clear hx148_0
         try clear hx148_1
         try clear hx148_2
         try clear hx148_3
         try clear hx148_4
         try clear hx148_5
         try clear hx149_0
         try clear hx149_1
         try clear hx149_2
         try clear hx149_3
         try clear hx149_4
         try clear hx149_5
         try clear p146
         try clear p148
         try clear p149
         try clear q146
         try clear q148
         try clear q149
         obtain ⟨x38_1, rfl, HA, HK1, HO_36, BK150, HB⟩ := hrel
         cases gk with
         | zero => exact absurd HA.out (by simp [table_Root.l0])
         | succ k1 =>
          have H := HA.out
          clear HA
          simp only [table_Root.l0] at H
          by_cases c33 : x38_1 < (t158.length : Int)
          ·
           rw [if_pos c33] at H
           have c33b0 : decide (x38_1 < (t158.length : Int)) = true := decide_eq_true c33
           clear c33
           by_cases c34 : 0 ≤ x38_1
           ·
            rw [if_pos c34] at H
            have c34b0 : decide (0 ≤ x38_1) = true := decide_eq_true c34
            clear c34
            by_cases c35 : x38_1 < (t158.length : Int)
            ·
             rw [if_pos c35] at H
             have c35b0 : decide (x38_1 < (t158.length : Int)) = true := decide_eq_true c35
             clear c35
             by_cases c36 : 0 ≤ (rd t158 x38_1)
             ·
              rw [if_pos c36] at H
              have c36b0 : decide (0 ≤ (rd t158 x38_1)) = true := decide_eq_true c36
              clear c36
              by_cases c37 : (rd t158 x38_1) < (l0.length : Int)
              ·
               rw [if_pos c37] at H
               have c37b0 : decide ((rd t158 x38_1) < (l0.length : Int)) = true := decide_eq_true c37
               clear c37
               by_cases c38 : ((rd_T49 l0 (rd t158 x38_1)).f1) = 0
               ·
                rw [if_pos c38] at H
                have c38b0 : (((rd_T49 l0 (rd t158 x38_1)).f1) == 0) = true := beq_iff_eq.mpr c38
                have c38b1 : (((rd_T49 l0 (rd t158 x38_1)).f1) != 0) = false := bne_eq_false_iff_eq.mpr c38
                clear c38
                have H' := Aside0.mk H
                clear H
                have p161 : 0 ≤ (x38_1 : Int) := of_decide_eq_true (by first | (with_reducible assumption) | assumption)
                have q161 : x38_1 < (t158.length : Int) := of_decide_eq_true (by first | (with_reducible assumption) | assumption)
                obtain ⟨ad161, e161, hx161_0⟩ := Kd.at_int (Kd.R_reads' HO_36.out).2.2 x38_1 p161 q161
                cases e161
                replace p161 := eq_true p161
                replace q161 := eq_true q161
                have p162 : 0 ≤ ((rd t158 x38_1) : Int) := of_decide_eq_true (by first | (with_reducible assumption) | assumption)
                have q162 : (rd t158 x38_1) < (l0.length : Int) := of_decide_eq_true (by first | (with_reducible assumption) | assumption)
                obtain ⟨ad162, e162, hx162_0, hx162_1, hx162_2, hx162_3, hx162_4, hx162_5⟩ := at_T49 HR0.out (rd t158 x38_1) p162 q162
                obtain rfl : ad146 = ad162 := (by injection e162)
                replace hx162_0 := (HB.out.cell (World.block_lt_of_cell? w _ hx162_0)).trans hx162_0
                replace hx162_1 := (HB.out.cell (World.block_lt_of_cell? w _ hx162_1)).trans hx162_1
                replace hx162_2 := (HB.out.cell (World.block_lt_of_cell? w _ hx162_2)).trans hx162_2
                replace hx162_3 := (HB.out.cell (World.block_lt_of_cell? w _ hx162_3)).trans hx162_3
                replace hx162_4 := (HB.out.cell (World.block_lt_of_cell? w _ hx162_4)).trans hx162_4
                replace hx162_5 := (HB.out.cell (World.block_lt_of_cell? w _ hx162_5)).trans hx162_5
                replace p162 := eq_true p162
                replace q162 := eq_true q162
                go_wp2
                go_roundg k1
                case measure => have := HK1.out; omega
                case rel => exact ⟨(wrap64 (x38_1 + 1)), (by first | rfl | (simp; done) | (simp [*]; done)), H', ⟨by have := HK1.out; omega⟩, ⟨by (with_reducible repeat (first | apply Kd.R_alloc | apply Kd.R_drewN | apply Kd.R_drew)); exact HO_36.out⟩, ⟨by (with_reducible repeat (first | refine blk_drewN ?_ _ | refine blk_drew ?_ | refine blk_alloc ?_ _)); exact BK150.out⟩, ⟨by repeat (first | (with_reducible first | exact HB.out | apply below_alloc | apply pw_below_drewN | apply below_drew1 | refine below_set ?_ GE150.out) | exact HB.out)⟩⟩
               ·
                rw [if_neg c38] at H
                have c38b0 : (((rd_T49 l0 (rd t158 x38_1)).f1) == 0) = false := beq_eq_false_iff_ne.mpr c38
                have c38b1 : (((rd_T49 l0 (rd t158 x38_1)).f1) != 0) = true := bne_iff_ne.mpr c38
                simp only [Option.some.injEq, Prod.mk.injEq] at H
                obtain ⟨rfl, rfl⟩ := H
                have p161 : 0 ≤ (x38_1 : Int) := of_decide_eq_true (by first | (with_reducible assumption) | assumption)
                have q161 : x38_1 < (t158.length : Int) := of_decide_eq_true (by first | (with_reducible assumption) | assumption)
                obtain ⟨ad161, e161, hx161_0⟩ := Kd.at_int (Kd.R_reads' HO_36.out).2.2 x38_1 p161 q161
                cases e161
                replace p161 := eq_true p161
                replace q161 := eq_true q161
                have p162 : 0 ≤ ((rd t158 x38_1) : Int) := of_decide_eq_true (by first | (with_reducible assumption) | assumption)
                have q162 : (rd t158 x38_1) < (l0.length : Int) := of_decide_eq_true (by first | (with_reducible assumption) | assumption)
                obtain ⟨ad162, e162, hx162_0, hx162_1, hx162_2, hx162_3, hx162_4, hx162_5⟩ := at_T49 HR0.out (rd t158 x38_1) p162 q162
                obtain rfl : ad146 = ad162 := (by injection e162)
                replace hx162_0 := (HB.out.cell (World.block_lt_of_cell? w _ hx162_0)).trans hx162_0
                replace hx162_1 := (HB.out.cell (World.block_lt_of_cell? w _ hx162_1)).trans hx162_1
                replace hx162_2 := (HB.out.cell (World.block_lt_of_cell? w _ hx162_2)).trans hx162_2
                replace hx162_3 := (HB.out.cell (World.block_lt_of_cell? w _ hx162_3)).trans hx162_3
                replace hx162_4 := (HB.out.cell (World.block_lt_of_cell? w _ hx162_4)).trans hx162_4
                replace hx162_5 := (HB.out.cell (World.block_lt_of_cell? w _ hx162_5)).trans hx162_5
                replace p162 := eq_true p162
                replace q162 := eq_true q162
                go_wp2
                go_ret2
                exact ⟨by first | rfl | (simp [errW_none, errW_some] <;> rfl) | (simp [*, errW_none, errW_some] <;> rfl), by repeat (first | (with_reducible first | exact HB.out | apply below_alloc | apply pw_below_drewN | apply below_drew1 | refine below_set ?_ GE150.out) | exact HB.out)⟩
              ·
               rw [if_neg c37] at H
               exact absurd H (by simp)
             ·
              rw [if_neg c36] at H
              exact absurd H (by simp)
            ·
             rw [if_neg c35] at H
             exact absurd H (by simp)
           ·
            rw [if_neg c34] at H
            exact absurd H (by simp)
          ·
           rw [if_neg c33] at H
           have c33b0 : decide (x38_1 < (t158.length : Int)) = false := decide_eq_false c33
           clear c33
           simp only [Option.some.injEq, Prod.mk.injEq] at H
           obtain ⟨rfl, rfl⟩ := H
           have hcz39_0 : wr.cell? ⟨gb150, 0, none⟩ = some (.int .i64 ((rd_T49 l0 ((rd_T49 l0 0).f4)).f0)) := (blk_cell BK150.out 0).trans rfl
           have hcz39_1 : wr.cell? ⟨gb150, 1, none⟩ = some (.int .i64 ((rd_T49 l0 ((rd_T49 l0 0).f4)).f1)) := (blk_cell BK150.out 1).trans rfl
           have hcz39_2 : wr.cell? ⟨gb150, 2, none⟩ = some (.int .i64 ((rd_T49 l0 ((rd_T49 l0 0).f4)).f2)) := (blk_cell BK150.out 2).trans rfl
           have hcz39_3 : wr.cell? ⟨gb150, 3, none⟩ = some (.int .i64 ((rd_T49 l0 ((rd_T49 l0 0).f4)).f3)) := (blk_cell BK150.out 3).trans rfl
           have hcz39_4 : wr.cell? ⟨gb150, 4, none⟩ = some (.int .i64 ((rd_T49 l0 ((rd_T49 l0 0).f4)).f4)) := (blk_cell BK150.out 4).trans rfl
           have hcz39_5 : wr.cell? ⟨gb150, 5, none⟩ = some (.int .i64 ((rd_T49 l0 ((rd_T49 l0 0).f4)).f5)) := (blk_cell BK150.out 5).trans rfl
           have hfz39_0 := blk_frozen BK150.out 0
           have hfz39_1 := blk_frozen BK150.out 1
           have hfz39_2 := blk_frozen BK150.out 2
           have hfz39_3 := blk_frozen BK150.out 3
           have hfz39_4 := blk_frozen BK150.out 4
           have hfz39_5 := blk_frozen BK150.out 5
           go_wp2
           go_ret2
           exact ⟨by first | rfl | (simp [errW_none, errW_some] <;> rfl) | (simp [*, errW_none, errW_some] <;> rfl), by repeat (first | (with_reducible first | exact HB.out | apply below_alloc | apply pw_below_drewN | apply below_drew1 | refine below_set ?_ GE150.out) | exact HB.out)⟩
       ·
        replace c19 := Bool.eq_false_iff.mpr c19
        subst c19
        have H1 : (some (0, 3)) = some (r1, r2) := by rw [if_neg (show ¬ (false = true) by decide)] at H; exact H
        clear H
        have H := H1
        clear H1
        simp only [Option.some.injEq, Prod.mk.injEq] at H
        obtain ⟨rfl, rfl⟩ := H
        go_enter Try.func62, Try.ntmps62
        try go_wp2_with (first | ((with_reducible refine gate_callee (f := 60) rfl ?_); refine goesL_ (some 9) rfl rfl Try.func60 (by kernel_rfl) rfl #[.slice A0 l0.length c0] rfl (by (try simp only [List.map_toArray, List.map_cons, List.map_nil]); first | done | rfl | (simp only [List.length_drop, List.length_take]; rfl)) ?_; (with_reducible refine (table_Check.calls k _ _ l0 t145 _ ?side1 ?side2 A2.out).mono ?_); (case side1 => repeat (first | exact HR0.out | (with_reducible refine Kd.C_alloc ?_ _) | (with_reducible refine Kd.C_drewN ?_ _) | (with_reducible refine Kd.C_drew ?_))); (case side2 => exact HC0.out); rintro e w40 ⟨rfl, hb⟩; refine ⟨_, rfl, ?_⟩; have n0_ := Aside0.mk (below_step (by repeat (first | (with_reducible first | exact HB.out | apply below_alloc | apply pw_below_drewN | apply below_drew1) | exact HB.out)) hb); clear HB; have HB := n0_; clear n0_; (try clear hb); (try clear hb2); (try clear hk); (try clear hi); have p146 : 0 ≤ (0 : Int) := (by omega); have q146 : 0 < (l0.length : Int) := of_decide_eq_true (by first | (with_reducible assumption) | assumption); obtain ⟨ad146, e146, hx146_0, hx146_1, hx146_2, hx146_3, hx146_4, hx146_5⟩ := at_T49 HR0.out 0 p146 q146; cases e146; have qi146 : (0 < l0.length) = True := eq_true (by omega); (try rw [show ((0 : Int)).toNat = 0 from rfl] at hx146_0); (try rw [show 0 * 6 = 0 from rfl] at hx146_0); (try rw [Addr.add_zero'] at hx146_0); (try rw [show ((0 : Int)).toNat = 0 from rfl] at hx146_1); (try rw [show 0 * 6 = 0 from rfl] at hx146_1); (try rw [Addr.add_zero'] at hx146_1); (try rw [show ((0 : Int)).toNat = 0 from rfl] at hx146_2); (try rw [show 0 * 6 = 0 from rfl] at hx146_2); (try rw [Addr.add_zero'] at hx146_2); (try rw [show ((0 : Int)).toNat = 0 from rfl] at hx146_3); (try rw [show 0 * 6 = 0 from rfl] at hx146_3); (try rw [Addr.add_zero'] at hx146_3); (try rw [show ((0 : Int)).toNat = 0 from rfl] at hx146_4); (try rw [show 0 * 6 = 0 from rfl] at hx146_4); (try rw [Addr.add_zero'] at hx146_4); (try rw [show ((0 : Int)).toNat = 0 from rfl] at hx146_5); (try rw [show 0 * 6 = 0 from rfl] at hx146_5); (try rw [Addr.add_zero'] at hx146_5); replace hx146_0 := (HB.out.cell (World.block_lt_of_cell? w _ hx146_0)).trans hx146_0; replace hx146_1 := (HB.out.cell (World.block_lt_of_cell? w _ hx146_1)).trans hx146_1; replace hx146_2 := (HB.out.cell (World.block_lt_of_cell? w _ hx146_2)).trans hx146_2; replace hx146_3 := (HB.out.cell (World.block_lt_of_cell? w _ hx146_3)).trans hx146_3; replace hx146_4 := (HB.out.cell (World.block_lt_of_cell? w _ hx146_4)).trans hx146_4; replace hx146_5 := (HB.out.cell (World.block_lt_of_cell? w _ hx146_5)).trans hx146_5; replace p146 := eq_true p146; replace q146 := eq_true q146) | ((with_reducible refine gate_callee (f := 68) rfl ?_); refine goesL_ (some 17) rfl rfl Try.func68 (by kernel_rfl) rfl #[.slice (some ad146) l0.length c0, .agg #[.int .i64 ((rd_T49 l0 0).f0), .int .i64 ((rd_T49 l0 0).f1), .int .i64 ((rd_T49 l0 0).f2), .int .i64 ((rd_T49 l0 0).f3), .int .i64 ((rd_T49 l0 0).f4), .int .i64 ((rd_T49 l0 0).f5)]] rfl (by (try simp only [List.map_toArray, List.map_cons, List.map_nil]); first | done | rfl | (simp only [List.length_drop, List.length_take]; rfl)) ?_; (with_reducible refine (table_crowned.calls _ _ l0 ((rd_T49 l0 0).f0) ((rd_T49 l0 0).f1) ((rd_T49 l0 0).f2) ((rd_T49 l0 0).f3) ((rd_T49 l0 0).f4) ((rd_T49 l0 0).f5) true _ ?side1 ?side2 A5.out).mono ?_); (case side1 => repeat (first | exact (Kd.C_below HR0.out HB.out) | (with_reducible refine Kd.C_alloc ?_ _) | (with_reducible refine Kd.C_drewN ?_ _) | (with_reducible refine Kd.C_drew ?_))); (case side2 => exact HC0.out); rintro e w41 ⟨rfl, hb⟩; refine ⟨_, rfl, ?_⟩; have n0_ := Aside0.mk (below_step (by repeat (first | (with_reducible first | exact HB.out | apply below_alloc | apply pw_below_drewN | apply below_drew1) | exact HB.out)) hb); clear HB; have HB := n0_; clear n0_; (try clear hb); (try clear hb2); (try clear hk); (try clear hi); have p148 : 0 ≤ (0 : Int) := (by omega); have q148 : 0 < (l0.length : Int) := of_decide_eq_true (by first | (with_reducible assumption) | assumption); obtain ⟨ad148, e148, hx148_0, hx148_1, hx148_2, hx148_3, hx148_4, hx148_5⟩ := at_T49 HR0.out 0 p148 q148; obtain rfl : ad146 = ad148 := (by injection e148); have qi148 : (0 < l0.length) = True := eq_true (by omega); (try rw [show ((0 : Int)).toNat = 0 from rfl] at hx148_0); (try rw [show 0 * 6 = 0 from rfl] at hx148_0); (try rw [Addr.add_zero'] at hx148_0); (try rw [show ((0 : Int)).toNat = 0 from rfl] at hx148_1); (try rw [show 0 * 6 = 0 from rfl] at hx148_1); (try rw [Addr.add_zero'] at hx148_1); (try rw [show ((0 : Int)).toNat = 0 from rfl] at hx148_2); (try rw [show 0 * 6 = 0 from rfl] at hx148_2); (try rw [Addr.add_zero'] at hx148_2); (try rw [show ((0 : Int)).toNat = 0 from rfl] at hx148_3); (try rw [show 0 * 6 = 0 from rfl] at hx148_3); (try rw [Addr.add_zero'] at hx148_3); (try rw [show ((0 : Int)).toNat = 0 from rfl] at hx148_4); (try rw [show 0 * 6 = 0 from rfl] at hx148_4); (try rw [Addr.add_zero'] at hx148_4); (try rw [show ((0 : Int)).toNat = 0 from rfl] at hx148_5); (try rw [show 0 * 6 = 0 from rfl] at hx148_5); (try rw [Addr.add_zero'] at hx148_5); replace hx148_0 := (HB.out.cell (World.block_lt_of_cell? w _ hx148_0)).trans hx148_0; replace hx148_1 := (HB.out.cell (World.block_lt_of_cell? w _ hx148_1)).trans hx148_1; replace hx148_2 := (HB.out.cell (World.block_lt_of_cell? w _ hx148_2)).trans hx148_2; replace hx148_3 := (HB.out.cell (World.block_lt_of_cell? w _ hx148_3)).trans hx148_3; replace hx148_4 := (HB.out.cell (World.block_lt_of_cell? w _ hx148_4)).trans hx148_4; replace hx148_5 := (HB.out.cell (World.block_lt_of_cell? w _ hx148_5)).trans hx148_5; replace p148 := eq_true p148; replace q148 := eq_true q148; have p149 : 0 ≤ (((rd_T49 l0 0).f4) : Int) := of_decide_eq_true (by first | (with_reducible assumption) | assumption); have q149 : ((rd_T49 l0 0).f4) < (l0.length : Int) := of_decide_eq_true (by first | (with_reducible assumption) | assumption); obtain ⟨ad149, e149, hx149_0, hx149_1, hx149_2, hx149_3, hx149_4, hx149_5⟩ := at_T49 HR0.out ((rd_T49 l0 0).f4) p149 q149; obtain rfl : ad146 = ad149 := (by injection e149); replace hx149_0 := (HB.out.cell (World.block_lt_of_cell? w _ hx149_0)).trans hx149_0; replace hx149_1 := (HB.out.cell (World.block_lt_of_cell? w _ hx149_1)).trans hx149_1; replace hx149_2 := (HB.out.cell (World.block_lt_of_cell? w _ hx149_2)).trans hx149_2; replace hx149_3 := (HB.out.cell (World.block_lt_of_cell? w _ hx149_3)).trans hx149_3; replace hx149_4 := (HB.out.cell (World.block_lt_of_cell? w _ hx149_4)).trans hx149_4; replace hx149_5 := (HB.out.cell (World.block_lt_of_cell? w _ hx149_5)).trans hx149_5; replace p149 := eq_true p149; replace q149 := eq_true q149) | ((with_reducible refine gate_dst (N := 5) rfl ?_); refine box_event ?hg (N := 5) ?hd (cs := #[.int .i64 0, .int .i64 0, .int .i64 0, .int .i64 0, .int .i64 0, .int .i64 0]) (t := 49) ?hr ?_; (case hd => rfl); (case hg => rfl); (case hr => first | (go_simp; done) | (go_simp; rfl)); intro gb150 hg w42 hbox hb; have n0_ := Aside0.mk (below_step (by repeat (first | (with_reducible first | exact HB.out | apply below_alloc | apply pw_below_drewN | apply below_drew1) | exact HB.out)) hb); have n1_ := Aside0.mk (hbox); have n2_ := Aside0.mk ((by rw [hg]; exact (below_size (by repeat (first | (with_reducible first | exact HB.out | apply below_alloc | apply pw_below_drewN | apply below_drew1) | exact HB.out))) : w.heap.size ≤ gb150)); have n3_ := Aside0.mk ((by rw [hg]; exact (below_size (by repeat (first | (with_reducible first | exact HB.out | apply below_alloc | apply pw_below_drewN | apply below_drew1) | exact HB.out))) : w.heap.size ≤ gb150)); clear HB; have HB := n0_; have BK150 := n1_; have GW150 := n2_; have GE150 := n3_; clear n0_ n1_ n2_ n3_; clear hb hbox hg; have hcz43_0 : w42.cell? ⟨gb150, 0, none⟩ = some (.int .i64 0) := (blk_cell BK150.out 0).trans rfl; have hcz43_1 : w42.cell? ⟨gb150, 1, none⟩ = some (.int .i64 0) := (blk_cell BK150.out 1).trans rfl; have hcz43_2 : w42.cell? ⟨gb150, 2, none⟩ = some (.int .i64 0) := (blk_cell BK150.out 2).trans rfl; have hcz43_3 : w42.cell? ⟨gb150, 3, none⟩ = some (.int .i64 0) := (blk_cell BK150.out 3).trans rfl; have hcz43_4 : w42.cell? ⟨gb150, 4, none⟩ = some (.int .i64 0) := (blk_cell BK150.out 4).trans rfl; have hcz43_5 : w42.cell? ⟨gb150, 5, none⟩ = some (.int .i64 0) := (blk_cell BK150.out 5).trans rfl; have hfz43_0 := blk_frozen BK150.out 0; have hfz43_1 := blk_frozen BK150.out 1; have hfz43_2 := blk_frozen BK150.out 2; have hfz43_3 := blk_frozen BK150.out 3; have hfz43_4 := blk_frozen BK150.out 4; have hfz43_5 := blk_frozen BK150.out 5))
        have n0_ : Aside0 (((((((w42.setCell ⟨gb150, 0, none⟩ (.int .i64 ((rd_T49 l0 ((rd_T49 l0 0).f4)).f0))).setCell ⟨gb150, 1, none⟩ (.int .i64 ((rd_T49 l0 ((rd_T49 l0 0).f4)).f1))).setCell ⟨gb150, 2, none⟩ (.int .i64 ((rd_T49 l0 ((rd_T49 l0 0).f4)).f2))).setCell ⟨gb150, 3, none⟩ (.int .i64 ((rd_T49 l0 ((rd_T49 l0 0).f4)).f3))).setCell ⟨gb150, 4, none⟩ (.int .i64 ((rd_T49 l0 ((rd_T49 l0 0).f4)).f4))).setCell ⟨gb150, 5, none⟩ (.int .i64 ((rd_T49 l0 ((rd_T49 l0 0).f4)).f5))).heap[gb150]? = some (.cells #[.int .i64 ((rd_T49 l0 ((rd_T49 l0 0).f4)).f0), .int .i64 ((rd_T49 l0 ((rd_T49 l0 0).f4)).f1), .int .i64 ((rd_T49 l0 ((rd_T49 l0 0).f4)).f2), .int .i64 ((rd_T49 l0 ((rd_T49 l0 0).f4)).f3), .int .i64 ((rd_T49 l0 ((rd_T49 l0 0).f4)).f4), .int .i64 ((rd_T49 l0 ((rd_T49 l0 0).f4)).f5)] 49 (0, 0))) := ⟨by (with_reducible repeat (first | refine blk_drewN ?_ _ | refine blk_drew ?_ | refine blk_alloc ?_ _)); refine blk_put (cs := #[.int .i64 ((rd_T49 l0 ((rd_T49 l0 0).f4)).f0), .int .i64 ((rd_T49 l0 ((rd_T49 l0 0).f4)).f1), .int .i64 ((rd_T49 l0 ((rd_T49 l0 0).f4)).f2), .int .i64 ((rd_T49 l0 ((rd_T49 l0 0).f4)).f3), .int .i64 ((rd_T49 l0 ((rd_T49 l0 0).f4)).f4), .int .i64 0]) ?_ 5 _ rfl; (with_reducible repeat (first | refine blk_drewN ?_ _ | refine blk_drew ?_ | refine blk_alloc ?_ _)); refine blk_put (cs := #[.int .i64 ((rd_T49 l0 ((rd_T49 l0 0).f4)).f0), .int .i64 ((rd_T49 l0 ((rd_T49 l0 0).f4)).f1), .int .i64 ((rd_T49 l0 ((rd_T49 l0 0).f4)).f2), .int .i64 ((rd_T49 l0 ((rd_T49 l0 0).f4)).f3), .int .i64 0, .int .i64 0]) ?_ 4 _ rfl; (with_reducible repeat (first | refine blk_drewN ?_ _ | refine blk_drew ?_ | refine blk_alloc ?_ _)); refine blk_put (cs := #[.int .i64 ((rd_T49 l0 ((rd_T49 l0 0).f4)).f0), .int .i64 ((rd_T49 l0 ((rd_T49 l0 0).f4)).f1), .int .i64 ((rd_T49 l0 ((rd_T49 l0 0).f4)).f2), .int .i64 0, .int .i64 0, .int .i64 0]) ?_ 3 _ rfl; (with_reducible repeat (first | refine blk_drewN ?_ _ | refine blk_drew ?_ | refine blk_alloc ?_ _)); refine blk_put (cs := #[.int .i64 ((rd_T49 l0 ((rd_T49 l0 0).f4)).f0), .int .i64 ((rd_T49 l0 ((rd_T49 l0 0).f4)).f1), .int .i64 0, .int .i64 0, .int .i64 0, .int .i64 0]) ?_ 2 _ rfl; (with_reducible repeat (first | refine blk_drewN ?_ _ | refine blk_drew ?_ | refine blk_alloc ?_ _)); refine blk_put (cs := #[.int .i64 ((rd_T49 l0 ((rd_T49 l0 0).f4)).f0), .int .i64 0, .int .i64 0, .int .i64 0, .int .i64 0, .int .i64 0]) ?_ 1 _ rfl; (with_reducible repeat (first | refine blk_drewN ?_ _ | refine blk_drew ?_ | refine blk_alloc ?_ _)); refine blk_put (cs := #[.int .i64 0, .int .i64 0, .int .i64 0, .int .i64 0, .int .i64 0, .int .i64 0]) ?_ 0 _ rfl; (with_reducible repeat (first | refine blk_drewN ?_ _ | refine blk_drew ?_ | refine blk_alloc ?_ _)); exact BK150.out⟩
        have n1_ : Aside0 (Below w.heap.size w ((((((w42.setCell ⟨gb150, 0, none⟩ (.int .i64 ((rd_T49 l0 ((rd_T49 l0 0).f4)).f0))).setCell ⟨gb150, 1, none⟩ (.int .i64 ((rd_T49 l0 ((rd_T49 l0 0).f4)).f1))).setCell ⟨gb150, 2, none⟩ (.int .i64 ((rd_T49 l0 ((rd_T49 l0 0).f4)).f2))).setCell ⟨gb150, 3, none⟩ (.int .i64 ((rd_T49 l0 ((rd_T49 l0 0).f4)).f3))).setCell ⟨gb150, 4, none⟩ (.int .i64 ((rd_T49 l0 ((rd_T49 l0 0).f4)).f4))).setCell ⟨gb150, 5, none⟩ (.int .i64 ((rd_T49 l0 ((rd_T49 l0 0).f4)).f5)))) := ⟨by repeat (first | (with_reducible first | exact HB.out | apply below_alloc | apply pw_below_drewN | apply below_drew1 | refine below_set ?_ GE150.out) | exact HB.out)⟩
        (try clear BK150)
        (try clear HB)
        generalize ((((((w42.setCell ⟨gb150, 0, none⟩ (.int .i64 ((rd_T49 l0 ((rd_T49 l0 0).f4)).f0))).setCell ⟨gb150, 1, none⟩ (.int .i64 ((rd_T49 l0 ((rd_T49 l0 0).f4)).f1))).setCell ⟨gb150, 2, none⟩ (.int .i64 ((rd_T49 l0 ((rd_T49 l0 0).f4)).f2))).setCell ⟨gb150, 3, none⟩ (.int .i64 ((rd_T49 l0 ((rd_T49 l0 0).f4)).f3))).setCell ⟨gb150, 4, none⟩ (.int .i64 ((rd_T49 l0 ((rd_T49 l0 0).f4)).f4))).setCell ⟨gb150, 5, none⟩ (.int .i64 ((rd_T49 l0 ((rd_T49 l0 0).f4)).f5))) = w44 at n0_ n1_ ⊢
        have BK150 := n0_
        have HB := n1_
        clear n0_ n1_
        have n0_ := Aside0.mk (blk_drew BK150.out)
        have n1_ := Aside0.mk (below_drew1 HB.out)
        clear BK150
        clear HB
        have BK150 := n0_
        have HB := n1_
        clear n0_ n1_
        refine start_ (n := 3) (S := fun w' => w'.cell? ⟨gb150, 0, none⟩ = some (.int .i64 ((rd_T49 l0 ((rd_T49 l0 0).f4)).f0)) ∧ w'.cell? ⟨gb150, 1, none⟩ = some (.int .i64 ((rd_T49 l0 ((rd_T49 l0 0).f4)).f1)) ∧ w'.cell? ⟨gb150, 2, none⟩ = some (.int .i64 ((rd_T49 l0 ((rd_T49 l0 0).f4)).f2)) ∧ w'.cell? ⟨gb150, 3, none⟩ = some (.int .i64 ((rd_T49 l0 ((rd_T49 l0 0).f4)).f3)) ∧ w'.cell? ⟨gb150, 4, none⟩ = some (.int .i64 ((rd_T49 l0 ((rd_T49 l0 0).f4)).f4)) ∧ w'.cell? ⟨gb150, 5, none⟩ = some (.int .i64 ((rd_T49 l0 ((rd_T49 l0 0).f4)).f5))) (ds := []) #[false, false, false] (by kernel_rfl) rfl rfl ⟨(blk_cell BK150.out 0).trans rfl, (blk_cell BK150.out 1).trans rfl, (blk_cell BK150.out 2).trans rfl, (blk_cell BK150.out 3).trans rfl, (blk_cell BK150.out 4).trans rfl, (blk_cell BK150.out 5).trans rfl⟩ (fun hHeld => ?_)
        generalize w44.drew = w45 at BK150 HB hHeld ⊢
        refine take_ (i := 0) (N := some 26) (v := ?_) (a' := ?_) #[true, false, false] rfl rfl (by kernel_rfl) (fun _ _ _ h => h) (Or.inl ⟨by rfl, ?_⟩) hHeld ?_ ?_
        rotate_left
        ·
         rintro w' ⟨s0, s1, s2, s3, s4, s5⟩
         go_simp
         with_reducible rfl
        rotate_left
        ·
         simp only [Act.put, List.setIfInBounds_toArray, List.set_cons_zero, List.set_cons_succ, i64_w, i32_w]
         rfl
        refine one_ (i := 1) (N := some 27) #[true, true, false] rfl rfl (by kernel_rfl) (by decide) (fun K hK => ?_)
        refine goes_ Try.func69 (by kernel_rfl) rfl #[] (by rfl) rfl rfl (by (try simp only [List.map_toArray, List.map_cons, List.map_nil]); first | done | rfl | (simp only [List.length_drop, List.length_take]; rfl)) ?_
        with_reducible refine (table_sentinel.calls  t151 t152 t153 t154 t155 t156 _ A9.out).mono ?_
        rintro e w46 ⟨rfl, hb⟩
        refine ⟨_, rfl, ?_⟩
        have n0_ := Aside0.mk (blk_below (g := gb150) (o := .cells #[.int .i64 ((rd_T49 l0 ((rd_T49 l0 0).f4)).f0), .int .i64 ((rd_T49 l0 ((rd_T49 l0 0).f4)).f1), .int .i64 ((rd_T49 l0 ((rd_T49 l0 0).f4)).f2), .int .i64 ((rd_T49 l0 ((rd_T49 l0 0).f4)).f3), .int .i64 ((rd_T49 l0 ((rd_T49 l0 0).f4)).f4), .int .i64 ((rd_T49 l0 ((rd_T49 l0 0).f4)).f5)] 49 (0, 0)) (by (with_reducible repeat (first | refine blk_drewN ?_ _ | refine blk_drew ?_ | refine blk_alloc ?_ _)); exact BK150.out) hb)
        have n1_ := Aside0.mk (below_step (by repeat (first | (with_reducible first | exact HB.out | apply below_alloc | apply pw_below_drewN | apply below_drew1 | refine below_set ?_ GE150.out) | exact HB.out)) hb)
        clear BK150
        clear HB
        have BK150 := n0_
        have HB := n1_
        clear n0_ n1_
        (try clear hb)
        (try clear hb2)
        (try clear hk)
        (try clear hi)
        refine hK.out _ _ ⟨(blk_cell BK150.out 0).trans rfl, (blk_cell BK150.out 1).trans rfl, (blk_cell BK150.out 2).trans rfl, (blk_cell BK150.out 3).trans rfl, (blk_cell BK150.out 4).trans rfl, (blk_cell BK150.out 5).trans rfl⟩ (fun hHeld => ?_)
        clear hK K
        refine norm_ (a' := ?_) ?_ ?_
        rotate_left
        ·
         show Act.put _ (some 27) _ = _
         simp only [Act.put, List.setIfInBounds_toArray, List.set_cons_zero, List.set_cons_succ, i64_w, i32_w]
         rfl
        refine pure_ (i := 2) (N := some 28) (v := ?_) (a' := ?_) #[true, true, true] rfl rfl (by kernel_rfl) (fun _ _ _ h => h) (Or.inl ⟨by rfl, ?_⟩) ?_ ?_
        rotate_left
        ·
         intro w'
         go_simp
         with_reducible rfl
        rotate_left
        ·
         simp only [Act.put, List.setIfInBounds_toArray, List.set_cons_zero, List.set_cons_succ, i64_w, i32_w]
         rfl
        refine done_ (by kernel_rfl) ?_
        have hcz47_0 : w46.cell? ⟨gb150, 0, none⟩ = some (.int .i64 ((rd_T49 l0 ((rd_T49 l0 0).f4)).f0)) := (blk_cell BK150.out 0).trans rfl
        have hcz47_1 : w46.cell? ⟨gb150, 1, none⟩ = some (.int .i64 ((rd_T49 l0 ((rd_T49 l0 0).f4)).f1)) := (blk_cell BK150.out 1).trans rfl
        have hcz47_2 : w46.cell? ⟨gb150, 2, none⟩ = some (.int .i64 ((rd_T49 l0 ((rd_T49 l0 0).f4)).f2)) := (blk_cell BK150.out 2).trans rfl
        have hcz47_3 : w46.cell? ⟨gb150, 3, none⟩ = some (.int .i64 ((rd_T49 l0 ((rd_T49 l0 0).f4)).f3)) := (blk_cell BK150.out 3).trans rfl
        have hcz47_4 : w46.cell? ⟨gb150, 4, none⟩ = some (.int .i64 ((rd_T49 l0 ((rd_T49 l0 0).f4)).f4)) := (blk_cell BK150.out 4).trans rfl
        have hcz47_5 : w46.cell? ⟨gb150, 5, none⟩ = some (.int .i64 ((rd_T49 l0 ((rd_T49 l0 0).f4)).f5)) := (blk_cell BK150.out 5).trans rfl
        have hfz47_0 := blk_frozen BK150.out 0
        have hfz47_1 := blk_frozen BK150.out 1
        have hfz47_2 := blk_frozen BK150.out 2
        have hfz47_3 := blk_frozen BK150.out 3
        have hfz47_4 := blk_frozen BK150.out 4
        have hfz47_5 := blk_frozen BK150.out 5
        try go_wp2_with (first | ((with_reducible refine gate_callee (f := 68) rfl ?_); refine goesL_ (some 31) rfl rfl Try.func68 (by kernel_rfl) rfl #[.slice (some ad146) l0.length c0, .agg #[.int .i64 ((rd_T49 l0 ((rd_T49 l0 0).f4)).f0), .int .i64 ((rd_T49 l0 ((rd_T49 l0 0).f4)).f1), .int .i64 ((rd_T49 l0 ((rd_T49 l0 0).f4)).f2), .int .i64 ((rd_T49 l0 ((rd_T49 l0 0).f4)).f3), .int .i64 ((rd_T49 l0 ((rd_T49 l0 0).f4)).f4), .int .i64 ((rd_T49 l0 ((rd_T49 l0 0).f4)).f5)]] rfl (by (try simp only [List.map_toArray, List.map_cons, List.map_nil]); first | done | rfl | (simp only [List.length_drop, List.length_take]; rfl)) ?_; (with_reducible refine (table_crowned.calls _ _ l0 ((rd_T49 l0 ((rd_T49 l0 0).f4)).f0) ((rd_T49 l0 ((rd_T49 l0 0).f4)).f1) ((rd_T49 l0 ((rd_T49 l0 0).f4)).f2) ((rd_T49 l0 ((rd_T49 l0 0).f4)).f3) ((rd_T49 l0 ((rd_T49 l0 0).f4)).f4) ((rd_T49 l0 ((rd_T49 l0 0).f4)).f5) false _ ?side1 ?side2 A18.out).mono ?_); (case side1 => repeat (first | exact (Kd.C_below HR0.out HB.out) | (with_reducible refine Kd.C_alloc ?_ _) | (with_reducible refine Kd.C_drewN ?_ _) | (with_reducible refine Kd.C_drew ?_))); (case side2 => exact HC0.out); rintro e w48 ⟨rfl, hb⟩; refine ⟨_, rfl, ?_⟩; have n0_ := Aside0.mk (blk_below (g := gb150) (o := .cells #[.int .i64 ((rd_T49 l0 ((rd_T49 l0 0).f4)).f0), .int .i64 ((rd_T49 l0 ((rd_T49 l0 0).f4)).f1), .int .i64 ((rd_T49 l0 ((rd_T49 l0 0).f4)).f2), .int .i64 ((rd_T49 l0 ((rd_T49 l0 0).f4)).f3), .int .i64 ((rd_T49 l0 ((rd_T49 l0 0).f4)).f4), .int .i64 ((rd_T49 l0 ((rd_T49 l0 0).f4)).f5)] 49 (0, 0)) (by (with_reducible repeat (first | refine blk_drewN ?_ _ | refine blk_drew ?_ | refine blk_alloc ?_ _)); exact BK150.out) hb); have n1_ := Aside0.mk (below_step (by repeat (first | (with_reducible first | exact HB.out | apply below_alloc | apply pw_below_drewN | apply below_drew1 | refine below_set ?_ GE150.out) | exact HB.out)) hb); clear BK150; clear HB; have BK150 := n0_; have HB := n1_; clear n0_ n1_; (try clear hb); (try clear hb2); (try clear hk); (try clear hi)))
        go_ret2
        exact ⟨by first | rfl | (simp [errW_none, errW_some] <;> rfl) | (simp [*, errW_none, errW_some] <;> rfl), by repeat (first | (with_reducible first | exact HB.out | apply below_alloc | apply pw_below_drewN | apply below_drew1 | refine below_set ?_ GE150.out) | exact HB.out)⟩
     ·
      rw [if_neg c8] at H
      exact absurd H (by simp)
    ·
     rw [if_neg c7] at H
     exact absurd H (by simp)
   ·
    replace c6 := Bool.eq_false_iff.mpr c6
    subst c6
    have H1 : (some (0, 3)) = some (r1, r2) := by rw [if_neg (show ¬ (false = true) by decide)] at H; exact H
    clear H
    have H := H1
    clear H1
    simp only [Option.some.injEq, Prod.mk.injEq] at H
    obtain ⟨rfl, rfl⟩ := H
    go_enter Try.func62, Try.ntmps62
    go_wp2_with (first | ((with_reducible refine gate_callee (f := 60) rfl ?_); refine goesL_ (some 9) rfl rfl Try.func60 (by kernel_rfl) rfl #[.slice A0 l0.length c0] rfl (by (try simp only [List.map_toArray, List.map_cons, List.map_nil]); first | done | rfl | (simp only [List.length_drop, List.length_take]; rfl)) ?_; (with_reducible refine (table_Check.calls k _ _ l0 t145 _ ?side1 ?side2 A2.out).mono ?_); (case side1 => repeat (first | exact HR0.out | (with_reducible refine Kd.C_alloc ?_ _) | (with_reducible refine Kd.C_drewN ?_ _) | (with_reducible refine Kd.C_drew ?_))); (case side2 => exact HC0.out); rintro e w49 ⟨rfl, hb⟩; refine ⟨_, rfl, ?_⟩; have n0_ := Aside0.mk (below_step (by repeat (first | (with_reducible first | exact HB.out | apply below_alloc | apply pw_below_drewN | apply below_drew1) | exact HB.out)) hb); clear HB; have HB := n0_; clear n0_; (try clear hb); (try clear hb2); (try clear hk); (try clear hi); have p146 : 0 ≤ (0 : Int) := (by omega); have q146 : 0 < (l0.length : Int) := of_decide_eq_true (by first | (with_reducible assumption) | assumption); obtain ⟨ad146, e146, hx146_0, hx146_1, hx146_2, hx146_3, hx146_4, hx146_5⟩ := at_T49 HR0.out 0 p146 q146; cases e146; have qi146 : (0 < l0.length) = True := eq_true (by omega); (try rw [show ((0 : Int)).toNat = 0 from rfl] at hx146_0); (try rw [show 0 * 6 = 0 from rfl] at hx146_0); (try rw [Addr.add_zero'] at hx146_0); (try rw [show ((0 : Int)).toNat = 0 from rfl] at hx146_1); (try rw [show 0 * 6 = 0 from rfl] at hx146_1); (try rw [Addr.add_zero'] at hx146_1); (try rw [show ((0 : Int)).toNat = 0 from rfl] at hx146_2); (try rw [show 0 * 6 = 0 from rfl] at hx146_2); (try rw [Addr.add_zero'] at hx146_2); (try rw [show ((0 : Int)).toNat = 0 from rfl] at hx146_3); (try rw [show 0 * 6 = 0 from rfl] at hx146_3); (try rw [Addr.add_zero'] at hx146_3); (try rw [show ((0 : Int)).toNat = 0 from rfl] at hx146_4); (try rw [show 0 * 6 = 0 from rfl] at hx146_4); (try rw [Addr.add_zero'] at hx146_4); (try rw [show ((0 : Int)).toNat = 0 from rfl] at hx146_5); (try rw [show 0 * 6 = 0 from rfl] at hx146_5); (try rw [Addr.add_zero'] at hx146_5); replace hx146_0 := (HB.out.cell (World.block_lt_of_cell? w _ hx146_0)).trans hx146_0; replace hx146_1 := (HB.out.cell (World.block_lt_of_cell? w _ hx146_1)).trans hx146_1; replace hx146_2 := (HB.out.cell (World.block_lt_of_cell? w _ hx146_2)).trans hx146_2; replace hx146_3 := (HB.out.cell (World.block_lt_of_cell? w _ hx146_3)).trans hx146_3; replace hx146_4 := (HB.out.cell (World.block_lt_of_cell? w _ hx146_4)).trans hx146_4; replace hx146_5 := (HB.out.cell (World.block_lt_of_cell? w _ hx146_5)).trans hx146_5; replace p146 := eq_true p146; replace q146 := eq_true q146) | ((with_reducible refine gate_callee (f := 68) rfl ?_); refine goesL_ (some 17) rfl rfl Try.func68 (by kernel_rfl) rfl #[.slice (some ad146) l0.length c0, .agg #[.int .i64 ((rd_T49 l0 0).f0), .int .i64 ((rd_T49 l0 0).f1), .int .i64 ((rd_T49 l0 0).f2), .int .i64 ((rd_T49 l0 0).f3), .int .i64 ((rd_T49 l0 0).f4), .int .i64 ((rd_T49 l0 0).f5)]] rfl (by (try simp only [List.map_toArray, List.map_cons, List.map_nil]); first | done | rfl | (simp only [List.length_drop, List.length_take]; rfl)) ?_; (with_reducible refine (table_crowned.calls _ _ l0 ((rd_T49 l0 0).f0) ((rd_T49 l0 0).f1) ((rd_T49 l0 0).f2) ((rd_T49 l0 0).f3) ((rd_T49 l0 0).f4) ((rd_T49 l0 0).f5) false _ ?side1 ?side2 A5.out).mono ?_); (case side1 => repeat (first | exact (Kd.C_below HR0.out HB.out) | (with_reducible refine Kd.C_alloc ?_ _) | (with_reducible refine Kd.C_drewN ?_ _) | (with_reducible refine Kd.C_drew ?_))); (case side2 => exact HC0.out); rintro e w50 ⟨rfl, hb⟩; refine ⟨_, rfl, ?_⟩; have n0_ := Aside0.mk (below_step (by repeat (first | (with_reducible first | exact HB.out | apply below_alloc | apply pw_below_drewN | apply below_drew1) | exact HB.out)) hb); clear HB; have HB := n0_; clear n0_; (try clear hb); (try clear hb2); (try clear hk); (try clear hi)))
    go_ret2
    exact ⟨by first | rfl | (simp [errW_none, errW_some] <;> rfl) | (simp [*, errW_none, errW_some] <;> rfl), by repeat (first | (with_reducible first | exact HB.out | apply below_alloc | apply pw_below_drewN | apply below_drew1) | exact HB.out)⟩
  ·
   rw [if_neg c4] at H
   exact absurd H (by simp)
 ·
  rw [if_neg c3] at H
  have c3b0 : (t145 == 0) = false := beq_eq_false_iff_ne.mpr c3
  have c3b1 : (t145 != 0) = true := bne_iff_ne.mpr c3
  simp only [Option.some.injEq, Prod.mk.injEq] at H
  obtain ⟨rfl, rfl⟩ := H
  go_enter Try.func62, Try.ntmps62
  go_wp2_with (first | ((with_reducible refine gate_callee (f := 60) rfl ?_); refine goesL_ (some 9) rfl rfl Try.func60 (by kernel_rfl) rfl #[.slice A0 l0.length c0] rfl (by (try simp only [List.map_toArray, List.map_cons, List.map_nil]); first | done | rfl | (simp only [List.length_drop, List.length_take]; rfl)) ?_; (with_reducible refine (table_Check.calls k _ _ l0 t145 _ ?side1 ?side2 A2.out).mono ?_); (case side1 => repeat (first | exact HR0.out | (with_reducible refine Kd.C_alloc ?_ _) | (with_reducible refine Kd.C_drewN ?_ _) | (with_reducible refine Kd.C_drew ?_))); (case side2 => exact HC0.out); rintro e w51 ⟨rfl, hb⟩; refine ⟨_, rfl, ?_⟩; have n0_ := Aside0.mk (below_step (by repeat (first | (with_reducible first | exact HB.out | apply below_alloc | apply pw_below_drewN | apply below_drew1) | exact HB.out)) hb); clear HB; have HB := n0_; clear n0_; (try clear hb); (try clear hb2); (try clear hk); (try clear hi)))
  go_ret2
  exact ⟨by first | rfl | (simp [errW_none, errW_some] <;> rfl) | (simp [*, errW_none, errW_some] <;> rfl), by repeat (first | (with_reducible first | exact HB.out | apply below_alloc | apply pw_below_drewN | apply below_drew1) | exact HB.out)⟩
end Go.Proofs.Ytmmjkebboonnkaa.P
/- F20 -/
namespace Go.Proofs.Ytmmjkebboonnkaa.P
open Go.RowKit Go.Proofs.YtmmjkebboonnkaaW.PrintWords Go.Proofs.YtmmjkebboonnkaaW.PrintLast Go.Proofs.YtmmjkebboonnkaaW.PrintMore
attribute [local go_sem] max2_int min2_int max_two min_two max_three min_three max_four min_four   -- for this text's walks alone
set_option linter.unusedVariables false
set_option linter.unusedSimpArgs false
def table_Norm.f (k : Nat) (l0 : List (S49)) : Option ((List (S49)) × Int) := (table_Check.f k l0).bind fun t221 => (if t221 = 0 then ((table_sub.f k l0 0).bind fun t222 => (some (t222, 0))) else (some (([] : List (S49)), t221)))
theorem table_Norm.mono : ∀ a0 k, LeO (table_Norm.f k a0) (table_Norm.f (k + 1) a0) := by
 intro a0 k
 unfold table_Norm.f
 repeat' first
   | (with_reducible exact table_Check.mono _ _)
   | (with_reducible exact table_sub.mono _ _ _)
   | (with_reducible exact LeO.refl _)
   | (with_reducible exact LeO.none _)
   | (with_reducible refine LeO.ite ?_ ?_)
   | (with_reducible refine LeO.bind ?_ (fun _ => ?_))
   | exact table_Check.mono _ _
   | exact table_sub.mono _ _ _
   | exact LeO.none _
   | refine LeO.ite ?_ ?_
   | refine LeO.bind ?_ (fun _ => ?_)
set_option maxHeartbeats 8000000 in
set_option maxRecDepth 100000 in
theorem table_Norm.calls (k : Nat) (A0 : Option Addr) (c0 : Nat) (l0 : List (S49)) (r1 : List (S49)) (r2 : Int) (w : World) (hr0 : Kd.C k49 w A0 l0.length l0) (hc0 : l0.length ≤ c0) (h : table_Norm.f k l0 = some (r1, r2)) :
  Calls Try.prog 52 #[.slice A0 l0.length c0] w fun e w' => ∃ v0_ : Value, e = .returned (.tuple #[v0_, .int .i64 r2]) ∧ Kd.R k49 49 w' w.heap.size (fun _ => True) v0_ r1 ∧ Below w.heap.size w w' := by
 have HR0 := Aside0.mk hr0
 have HC0 := Aside0.mk hc0
 clear hr0 hc0
 have HB := Aside0.mk (Below.refl w.heap.size w)
 have H : ((table_Check.f k l0).bind fun t221 => (if t221 = 0 then ((table_sub.f k l0 0).bind fun t222 => (some (t222, 0))) else (some (([] : List (S49)), t221)))) = some (r1, r2) := h
 clear h
 replace H := Option.bind_eq_some_iff.mp H
 obtain ⟨t221, A20, H⟩ := H
 replace H : (if t221 = 0 then ((table_sub.f k l0 0).bind fun t222 => (some (t222, 0))) else (some (([] : List (S49)), t221))) = some (r1, r2) := H
 have A2 := Aside0.mk A20
 clear A20
 by_cases c3 : t221 = 0
 ·
  rw [if_pos c3] at H
  have c3b0 : (t221 == 0) = true := beq_iff_eq.mpr c3
  have c3b1 : (t221 != 0) = false := bne_eq_false_iff_eq.mpr c3
  clear c3
  replace H := Option.bind_eq_some_iff.mp H
  obtain ⟨t222, A40, H⟩ := H
  replace H : (some (t222, 0)) = some (r1, r2) := H
  have A4 := Aside0.mk A40
  clear A40
  simp only [Option.some.injEq, Prod.mk.injEq] at H
  obtain ⟨rfl, rfl⟩ := H
  go_enter Try.func52, Try.ntmps52
  go_wp2_with (first | ((with_reducible refine gate_callee (f := 60) rfl ?_); refine goesL_ (some 6) rfl rfl Try.func60 (by kernel_rfl) rfl #[.slice A0 l0.length c0] rfl (by (try simp only [List.map_toArray, List.map_cons, List.map_nil]); first | done | rfl | (simp only [List.length_drop, List.length_take]; rfl)) ?_; (with_reducible refine (table_Check.calls k _ _ l0 t221 _ ?side1 ?side2 A2.out).mono ?_); (case side1 => repeat (first | exact HR0.out | (with_reducible refine Kd.C_alloc ?_ _) | (with_reducible refine Kd.C_drewN ?_ _) | (with_reducible refine Kd.C_drew ?_))); (case side2 => exact HC0.out); rintro e w5 ⟨rfl, hb⟩; refine ⟨_, rfl, ?_⟩; have n0_ := Aside0.mk (below_step (by repeat (first | (with_reducible first | exact HB.out | apply below_alloc | apply pw_below_drewN | apply below_drew1) | exact HB.out)) hb); clear HB; have HB := n0_; clear n0_; (try clear hb); (try clear hb2); (try clear hk); (try clear hi)) | ((with_reducible refine gate_callee (f := 64) rfl ?_); refine goesL_ (some 11) rfl rfl Try.func64 (by kernel_rfl) rfl #[.slice A0 l0.length c0, .int .i64 0] rfl (by (try simp only [List.map_toArray, List.map_cons, List.map_nil]); first | done | rfl | (simp only [List.length_drop, List.length_take]; rfl)) ?_; (with_reducible refine (table_sub.calls k _ _ l0 0 t222 _ ?side1 ?side2 A4.out).mono ?_); (case side1 => repeat (first | exact (Kd.C_below HR0.out HB.out) | (with_reducible refine Kd.C_alloc ?_ _) | (with_reducible refine Kd.C_drewN ?_ _) | (with_reducible refine Kd.C_drew ?_))); (case side2 => exact HC0.out); rintro e w6 ⟨v223, rfl, ho0, hb⟩; refine ⟨_, rfl, ?_⟩; have n0_ := Aside0.mk (Kd.R_lower ho0 (below_size (by repeat (first | (with_reducible first | exact HB.out | apply below_alloc | apply pw_below_drewN | apply below_drew1) | exact HB.out)))); have n1_ := Aside0.mk (below_step (by repeat (first | (with_reducible first | exact HB.out | apply below_alloc | apply pw_below_drewN | apply below_drew1) | exact HB.out)) hb); clear HB; have HO224 := n0_; have HB := n1_; clear n0_ n1_; (try clear hb); (try clear hb2); (try clear hk); (try clear hi); (try clear ho0)))
  go_ret2
  exact ⟨_, by first | rfl | (simp [errW_none, errW_some] <;> rfl) | (simp [*, errW_none, errW_some] <;> rfl), by (with_reducible repeat (first | apply Kd.R_alloc | apply Kd.R_drewN | apply Kd.R_drew)); exact HO224.out, by repeat (first | (with_reducible first | exact HB.out | apply below_alloc | apply pw_below_drewN | apply below_drew1) | exact HB.out)⟩
 ·
  rw [if_neg c3] at H
  have c3b0 : (t221 == 0) = false := beq_eq_false_iff_ne.mpr c3
  have c3b1 : (t221 != 0) = true := bne_iff_ne.mpr c3
  simp only [Option.some.injEq, Prod.mk.injEq] at H
  obtain ⟨rfl, rfl⟩ := H
  go_enter Try.func52, Try.ntmps52
  go_wp2_with (first | ((with_reducible refine gate_callee (f := 60) rfl ?_); refine goesL_ (some 6) rfl rfl Try.func60 (by kernel_rfl) rfl #[.slice A0 l0.length c0] rfl (by (try simp only [List.map_toArray, List.map_cons, List.map_nil]); first | done | rfl | (simp only [List.length_drop, List.length_take]; rfl)) ?_; (with_reducible refine (table_Check.calls k _ _ l0 t221 _ ?side1 ?side2 A2.out).mono ?_); (case side1 => repeat (first | exact HR0.out | (with_reducible refine Kd.C_alloc ?_ _) | (with_reducible refine Kd.C_drewN ?_ _) | (with_reducible refine Kd.C_drew ?_))); (case side2 => exact HC0.out); rintro e w7 ⟨rfl, hb⟩; refine ⟨_, rfl, ?_⟩; have n0_ := Aside0.mk (below_step (by repeat (first | (with_reducible first | exact HB.out | apply below_alloc | apply pw_below_drewN | apply below_drew1) | exact HB.out)) hb); clear HB; have HB := n0_; clear n0_; (try clear hb); (try clear hb2); (try clear hk); (try clear hi)))
  go_ret2
  exact ⟨_, by first | rfl | (simp [errW_none, errW_some] <;> rfl) | (simp [*, errW_none, errW_some] <;> rfl), by first | exact Kd.R_nil _ _ _ _ _ | exact Kd.N_nil _ _ _ _ _ | exact Kd.V_nil _ _ _ _ _ | exact Kd.Q_nil _ _ _ _ _ | exact Kd.S_nil _ _ _ _ _, by repeat (first | (with_reducible first | exact HB.out | apply below_alloc | apply pw_below_drewN | apply below_drew1) | exact HB.out)⟩
end Go.Proofs.Ytmmjkebboonnkaa.P
/- F24 -/
namespace Go.Proofs.Ytmmjkebboonnkaa.P
open Go.RowKit Go.Proofs.YtmmjkebboonnkaaW.PrintWords Go.Proofs.YtmmjkebboonnkaaW.PrintLast Go.Proofs.YtmmjkebboonnkaaW.PrintMore
attribute [local go_sem] max2_int min2_int max_two min_two max_three min_three max_four min_four   -- for this text's walks alone
set_option linter.unusedVariables false
set_option linter.unusedSimpArgs false
def weigh_Bound.f (a0 : Int) : Option (Int × Int) := if a0 < 0 then (some (0, 1)) else ((bits_Len64.f (IntKind.u64.wrap ((IntKind.u64.wrap (a0)) + 1))).bind fun t245 => (some (wrap64 ((wrap64 (2 * t245)) + 4), 0)))
set_option maxHeartbeats 8000000 in
set_option maxRecDepth 100000 in
theorem weigh_Bound.calls (a0 : Int) (r1 : Int) (r2 : Int) (w : World) (h : weigh_Bound.f a0 = some (r1, r2)) :
  Calls Try.prog 40 #[.int .i64 a0] w fun e w' => e = .returned (.tuple #[.int .i64 r1, .int .i64 r2]) ∧ Drawn0 w w' := by
 have H : (if a0 < 0 then (some (0, 1)) else ((bits_Len64.f (IntKind.u64.wrap ((IntKind.u64.wrap (a0)) + 1))).bind fun t245 => (some (wrap64 ((wrap64 (2 * t245)) + 4), 0)))) = some (r1, r2) := h
 clear h
 by_cases c2 : a0 < 0
 ·
  rw [if_pos c2] at H
  have c2b0 : decide (a0 < 0) = true := decide_eq_true c2
  clear c2
  simp only [Option.some.injEq, Prod.mk.injEq] at H
  obtain ⟨rfl, rfl⟩ := H
  go_enter Try.func40, Try.ntmps40
  go_wp2
  go_ret2
  exact ⟨by first | rfl | (simp; done) | (simp [*]; done), by repeat (first | exact Drawn0.refl _ | apply Drawn0.step)⟩
 ·
  rw [if_neg c2] at H
  have c2b0 : decide (a0 < 0) = false := decide_eq_false c2
  clear c2
  replace H := Option.bind_eq_some_iff.mp H
  obtain ⟨t245, A30, H⟩ := H
  replace H : (some (wrap64 ((wrap64 (2 * t245)) + 4), 0)) = some (r1, r2) := H
  have A3 := Aside0.mk A30
  clear A30
  simp only [Option.some.injEq, Prod.mk.injEq] at H
  obtain ⟨rfl, rfl⟩ := H
  go_enter Try.func40, Try.ntmps40
  go_wp2_with (first | ((with_reducible refine gate_callee (f := 58) rfl ?_); refine goesL_ (some 9) rfl rfl Try.func58 (by kernel_rfl) rfl #[.int .u64 (IntKind.u64.wrap ((IntKind.u64.wrap (a0)) + 1))] rfl (by (try simp only [List.map_toArray, List.map_cons, List.map_nil]); first | done | rfl | (simp only [List.length_drop, List.length_take]; rfl)) ?_; (with_reducible refine (bits_Len64.calls (IntKind.u64.wrap ((IntKind.u64.wrap (a0)) + 1)) t245 _ A3.out).mono ?_); rintro e w' ⟨rfl, ⟨nd, rfl⟩⟩; refine ⟨_, rfl, ?_⟩))
  go_ret2
  exact ⟨by first | rfl | (simp; done) | (simp [*]; done), by repeat (first | exact Drawn0.refl _ | apply Drawn0.step)⟩
end Go.Proofs.Ytmmjkebboonnkaa.P
/- F17 -/
namespace Go.Proofs.Ytmmjkebboonnkaa.P
open Go.RowKit Go.Proofs.YtmmjkebboonnkaaW.PrintWords Go.Proofs.YtmmjkebboonnkaaW.PrintLast Go.Proofs.YtmmjkebboonnkaaW.PrintMore
attribute [local go_sem] max2_int min2_int max_two min_two max_three min_three max_four min_four   -- for this text's walks alone
set_option linter.unusedVariables false
set_option linter.unusedSimpArgs false
def table_Search.f (k : Nat) (l0 : List (S49)) (a1 : Int) : Option (List Int × Int) := (table_Check.f k l0).bind fun t217 => (if t217 = 0 then ((table_path.f k l0 a1).bind fun t218 => (some (t218, 0))) else (some (([] : List Int), t217)))
theorem table_Search.mono : ∀ a0 a1 k, LeO (table_Search.f k a0 a1) (table_Search.f (k + 1) a0 a1) := by
 intro a0 a1 k
 unfold table_Search.f
 repeat' first
   | (with_reducible exact table_Check.mono _ _)
   | (with_reducible exact table_path.mono _ _ _)
   | (with_reducible exact LeO.refl _)
   | (with_reducible exact LeO.none _)
   | (with_reducible refine LeO.ite ?_ ?_)
   | (with_reducible refine LeO.bind ?_ (fun _ => ?_))
   | exact table_Check.mono _ _
   | exact table_path.mono _ _ _
   | exact LeO.none _
   | refine LeO.ite ?_ ?_
   | refine LeO.bind ?_ (fun _ => ?_)
set_option maxHeartbeats 8000000 in
set_option maxRecDepth 100000 in
theorem table_Search.calls (k : Nat) (A0 : Option Addr) (c0 : Nat) (l0 : List (S49)) (a1 : Int) (r1 : List Int) (r2 : Int) (w : World) (hr0 : Kd.C k49 w A0 l0.length l0) (hc0 : l0.length ≤ c0) (h : table_Search.f k l0 a1 = some (r1, r2)) :
  Calls Try.prog 49 #[.slice A0 l0.length c0, .int .i64 a1] w fun e w' => ∃ v0_ : Value, e = .returned (.tuple #[v0_, .int .i64 r2]) ∧ Kd.R (Kd.int .i64) 3 w' w.heap.size (fun _ => True) v0_ r1 ∧ Below w.heap.size w w' := by
 have HR0 := Aside0.mk hr0
 have HC0 := Aside0.mk hc0
 clear hr0 hc0
 have HB := Aside0.mk (Below.refl w.heap.size w)
 have H : ((table_Check.f k l0).bind fun t217 => (if t217 = 0 then ((table_path.f k l0 a1).bind fun t218 => (some (t218, 0))) else (some (([] : List Int), t217)))) = some (r1, r2) := h
 clear h
 replace H := Option.bind_eq_some_iff.mp H
 obtain ⟨t217, A30, H⟩ := H
 replace H : (if t217 = 0 then ((table_path.f k l0 a1).bind fun t218 => (some (t218, 0))) else (some (([] : List Int), t217))) = some (r1, r2) := H
 have A3 := Aside0.mk A30
 clear A30
 by_cases c4 : t217 = 0
 ·
  rw [if_pos c4] at H
  have c4b0 : (t217 == 0) = true := beq_iff_eq.mpr c4
  have c4b1 : (t217 != 0) = false := bne_eq_false_iff_eq.mpr c4
  clear c4
  replace H := Option.bind_eq_some_iff.mp H
  obtain ⟨t218, A50, H⟩ := H
  replace H : (some (t218, 0)) = some (r1, r2) := H
  have A5 := Aside0.mk A50
  clear A50
  simp only [Option.some.injEq, Prod.mk.injEq] at H
  obtain ⟨rfl, rfl⟩ := H
  go_enter Try.func49, Try.ntmps49
  go_wp2_with (first | ((with_reducible refine gate_callee (f := 60) rfl ?_); refine goesL_ (some 8) rfl rfl Try.func60 (by kernel_rfl) rfl #[.slice A0 l0.length c0] rfl (by (try simp only [List.map_toArray, List.map_cons, List.map_nil]); first | done | rfl | (simp only [List.length_drop, List.length_take]; rfl)) ?_; (with_reducible refine (table_Check.calls k _ _ l0 t217 _ ?side1 ?side2 A3.out).mono ?_); (case side1 => repeat (first | exact HR0.out | (with_reducible refine Kd.C_alloc ?_ _) | (with_reducible refine Kd.C_drewN ?_ _) | (with_reducible refine Kd.C_drew ?_))); (case side2 => exact HC0.out); rintro e w6 ⟨rfl, hb⟩; refine ⟨_, rfl, ?_⟩; have n0_ := Aside0.mk (below_step (by repeat (first | (with_reducible first | exact HB.out | apply below_alloc | apply pw_below_drewN | apply below_drew1) | exact HB.out)) hb); clear HB; have HB := n0_; clear n0_; (try clear hb); (try clear hb2); (try clear hk); (try clear hi)) | ((with_reducible refine gate_callee (f := 61) rfl ?_); refine goesL_ (some 14) rfl rfl Try.func61 (by kernel_rfl) rfl #[.slice A0 l0.length c0, .int .i64 a1] rfl (by (try simp only [List.map_toArray, List.map_cons, List.map_nil]); first | done | rfl | (simp only [List.length_drop, List.length_take]; rfl)) ?_; (with_reducible refine (table_path.calls k _ _ l0 a1 t218 _ ?side1 ?side2 A5.out).mono ?_); (case side1 => repeat (first | exact (Kd.C_below HR0.out HB.out) | (with_reducible refine Kd.C_alloc ?_ _) | (with_reducible refine Kd.C_drewN ?_ _) | (with_reducible refine Kd.C_drew ?_))); (case side2 => exact HC0.out); rintro e w7 ⟨v219, rfl, ho0, hb⟩; refine ⟨_, rfl, ?_⟩; have n0_ := Aside0.mk (Kd.R_lower ho0 (below_size (by repeat (first | (with_reducible first | exact HB.out | apply below_alloc | apply pw_below_drewN | apply below_drew1) | exact HB.out)))); have n1_ := Aside0.mk (below_step (by repeat (first | (with_reducible first | exact HB.out | apply below_alloc | apply pw_below_drewN | apply below_drew1) | exact HB.out)) hb); clear HB; have HO220 := n0_; have HB := n1_; clear n0_ n1_; (try clear hb); (try clear hb2); (try clear hk); (try clear hi); (try clear ho0)))
  go_ret2
  exact ⟨_, by first | rfl | (simp [errW_none, errW_some] <;> rfl) | (simp [*, errW_none, errW_some] <;> rfl), by (with_reducible repeat (first | apply Kd.R_alloc | apply Kd.R_drewN | apply Kd.R_drew)); exact HO220.out, by repeat (first | (with_reducible first | exact HB.out | apply below_alloc | apply pw_below_drewN | apply below_drew1) | exact HB.out)⟩
 ·
  rw [if_neg c4] at H
  have c4b0 : (t217 == 0) = false := beq_eq_false_iff_ne.mpr c4
  have c4b1 : (t217 != 0) = true := bne_iff_ne.mpr c4
  simp only [Option.some.injEq, Prod.mk.injEq] at H
  obtain ⟨rfl, rfl⟩ := H
  go_enter Try.func49, Try.ntmps49
  go_wp2_with (first | ((with_reducible refine gate_callee (f := 60) rfl ?_); refine goesL_ (some 8) rfl rfl Try.func60 (by kernel_rfl) rfl #[.slice A0 l0.length c0] rfl (by (try simp only [List.map_toArray, List.map_cons, List.map_nil]); first | done | rfl | (simp only [List.length_drop, List.length_take]; rfl)) ?_; (with_reducible refine (table_Check.calls k _ _ l0 t217 _ ?side1 ?side2 A3.out).mono ?_); (case side1 => repeat (first | exact HR0.out | (with_reducible refine Kd.C_alloc ?_ _) | (with_reducible refine Kd.C_drewN ?_ _) | (with_reducible refine Kd.C_drew ?_))); (case side2 => exact HC0.out); rintro e w8 ⟨rfl, hb⟩; refine ⟨_, rfl, ?_⟩; have n0_ := Aside0.mk (below_step (by repeat (first | (with_reducible first | exact HB.out | apply below_alloc | apply pw_below_drewN | apply below_drew1) | exact HB.out)) hb); clear HB; have HB := n0_; clear n0_; (try clear hb); (try clear hb2); (try clear hk); (try clear hi)))
  go_ret2
  exact ⟨_, by first | rfl | (simp [errW_none, errW_some] <;> rfl) | (simp [*, errW_none, errW_some] <;> rfl), by first | exact Kd.R_nil _ _ _ _ _ | exact Kd.N_nil _ _ _ _ _ | exact Kd.V_nil _ _ _ _ _ | exact Kd.Q_nil _ _ _ _ _ | exact Kd.S_nil _ _ _ _ _, by repeat (first | (with_reducible first | exact HB.out | apply below_alloc | apply pw_below_drewN | apply below_drew1) | exact HB.out)⟩
end Go.Proofs.Ytmmjkebboonnkaa.P
/- F46 -/
namespace Go.Proofs.Ytmmjkebboonnkaa.P
open Go.RowKit Go.Proofs.YtmmjkebboonnkaaW.PrintWords Go.Proofs.YtmmjkebboonnkaaW.PrintLast Go.Proofs.YtmmjkebboonnkaaW.PrintMore
attribute [local go_sem] max2_int min2_int max_two min_two max_three min_three max_four min_four   -- for this text's walks alone
set_option linter.unusedVariables false
set_option linter.unusedSimpArgs false
def larchref17_Norm.f (k : Nat) (l0 : List (S49)) : Option ((List (S49))) := (larchref17_Sub.f k l0 0).bind fun t517 => (some t517)
theorem larchref17_Norm.mono : ∀ a0 k, LeO (larchref17_Norm.f k a0) (larchref17_Norm.f (k + 1) a0) := by
 intro a0 k
 unfold larchref17_Norm.f
 repeat' first
   | (with_reducible exact larchref17_Sub.mono _ _ _)
   | (with_reducible exact LeO.refl _)
   | (with_reducible exact LeO.none _)
   | (with_reducible refine LeO.ite ?_ ?_)
   | (with_reducible refine LeO.bind ?_ (fun _ => ?_))
   | exact larchref17_Sub.mono _ _ _
   | exact LeO.none _
   | refine LeO.ite ?_ ?_
   | refine LeO.bind ?_ (fun _ => ?_)
set_option maxHeartbeats 8000000 in
set_option maxRecDepth 100000 in
theorem larchref17_Norm.calls (k : Nat) (A0 : Option Addr) (c0 : Nat) (l0 : List (S49)) (r : List (S49)) (w : World) (hr0 : Kd.C k49 w A0 l0.length l0) (hc0 : l0.length ≤ c0) (h : larchref17_Norm.f k l0 = some r) :
  Calls Try.prog 28 #[.slice A0 l0.length c0] w fun e w' => ∃ v0_ : Value, e = .returned (v0_) ∧ Kd.R k49 49 w' w.heap.size (fun _ => True) v0_ r ∧ Below w.heap.size w w' := by
 have HR0 := Aside0.mk hr0
 have HC0 := Aside0.mk hc0
 clear hr0 hc0
 have HB := Aside0.mk (Below.refl w.heap.size w)
 have H : ((larchref17_Sub.f k l0 0).bind fun t517 => (some t517)) = some r := h
 clear h
 replace H := Option.bind_eq_some_iff.mp H
 obtain ⟨t517, A20, H⟩ := H
 replace H : (some t517) = some r := H
 have A2 := Aside0.mk A20
 clear A20
 obtain rfl := Option.some.inj H
 go_enter Try.func28, Try.ntmps28
 go_wp2_with (first | ((with_reducible refine gate_callee (f := 55) rfl ?_); refine goesL_ (some 4) rfl rfl Try.func55 (by kernel_rfl) rfl #[.slice A0 l0.length c0, .int .i64 0] rfl (by (try simp only [List.map_toArray, List.map_cons, List.map_nil]); first | done | rfl | (simp only [List.length_drop, List.length_take]; rfl)) ?_; (with_reducible refine (larchref17_Sub.calls k _ _ l0 0 t517 _ ?side1 ?side2 A2.out).mono ?_); (case side1 => repeat (first | exact HR0.out | (with_reducible refine Kd.C_alloc ?_ _) | (with_reducible refine Kd.C_drewN ?_ _) | (with_reducible refine Kd.C_drew ?_))); (case side2 => exact HC0.out); rintro e w3 ⟨v518, rfl, ho0, hb⟩; refine ⟨_, rfl, ?_⟩; have n0_ := Aside0.mk (Kd.R_lower ho0 (below_size (by repeat (first | (with_reducible first | exact HB.out | apply below_alloc | apply pw_below_drewN | apply below_drew1) | exact HB.out)))); have n1_ := Aside0.mk (below_step (by repeat (first | (with_reducible first | exact HB.out | apply below_alloc | apply pw_below_drewN | apply below_drew1) | exact HB.out)) hb); clear HB; have HO519 := n0_; have HB := n1_; clear n0_ n1_; (try clear hb); (try clear hb2); (try clear hk); (try clear hi); (try clear ho0)))
 go_ret
 exact ⟨_, by first | rfl | (simp [errW_none, errW_some] <;> rfl) | (simp [*, errW_none, errW_some] <;> rfl), by (with_reducible repeat (first | apply Kd.R_alloc | apply Kd.R_drewN | apply Kd.R_drew)); exact HO519.out, by repeat (first | (with_reducible first | exact HB.out | apply below_alloc | apply pw_below_drewN | apply below_drew1) | exact HB.out)⟩
end Go.Proofs.Ytmmjkebboonnkaa.P
/- F47 -/
namespace Go.Proofs.Ytmmjkebboonnkaa.P
open Go.RowKit Go.Proofs.YtmmjkebboonnkaaW.PrintWords Go.Proofs.YtmmjkebboonnkaaW.PrintLast Go.Proofs.YtmmjkebboonnkaaW.PrintMore
attribute [local go_sem] max2_int min2_int max_two min_two max_three min_three max_four min_four   -- for this text's walks alone
set_option linter.unusedVariables false
set_option linter.unusedSimpArgs false
mutual
def larchref17_Heavy.l0 : Nat → List (S49) → List Int → List Int → Bool → Int → Option ((List (S49)) × Int)
 | 0, _, _, _, _, _ => none
 | k + 1, x0, x1, x6, x8, x9 => if x9 < (x1.length : Int) then (if x8 = true then (larchref17_Heavy.l0 k x0 x1 x6 true (wrap64 (x9 + 1))) else (if 0 ≤ x9 then (if (rd x1 x9) < 0 then (larchref17_Heavy.l0 k x0 x1 x6 true (wrap64 (x9 + 1))) else (larchref17_Heavy.l0 k x0 x1 x6 (decide ((rd x1 x9) > 1000000)) (wrap64 (x9 + 1)))) else (none))) else (if x8 = true then (some (([] : List (S49)), 1)) else ((some (([] : List (S49)) : List (S49))).bind fun y526 => (if y526.length + x0.length < 2932031007402 then (larchref17_Heavy.l1 k x1 x6 (y526 ++ x0) 0) else (none))))
def larchref17_Heavy.l1 : Nat → List Int → List Int → List (S49) → Int → Option ((List (S49)) × Int)
 | 0, _, _, _, _ => none
 | k + 1, x1, x6, x10, x11 => if x11 < (x6.length : Int) then (if 0 ≤ x11 then (if x11 < (x1.length : Int) then (if 0 ≤ (rd x6 x11) then (if (rd x6 x11) < (x10.length : Int) then (larchref17_Heavy.l1 k x1 x6 (x10.set ((rd x6 x11) : Int).toNat (⟨(rd_T49 x10 (rd x6 x11)).f0, (rd_T49 x10 (rd x6 x11)).f1, rd x1 x11, (rd_T49 x10 (rd x6 x11)).f3, (rd_T49 x10 (rd x6 x11)).f4, (rd_T49 x10 (rd x6 x11)).f5⟩ : S49)) (wrap64 (x11 + 1))) else (none)) else (none)) else (none)) else (none)) else ((larchref17_Norm.f k x10).bind fun t535 => (some (t535, 0)))
end
def larchref17_Heavy.f (k : Nat) (l0 : List (S49)) (l1 : List Int) : Option ((List (S49)) × Int) := (larchref17_keys.f k l0).bind fun bt520 => (if bt520.2 = 0 then (larchref17_Heavy.l0 k l0 l1 bt520.1 ((l1.length : Int) != (bt520.1.length : Int)) 0) else (some (([] : List (S49)), bt520.2)))
theorem larchref17_Heavy.mono_l : ∀ k, (∀ y0 y1 y2 y3 y4, LeO (larchref17_Heavy.l0 k y0 y1 y2 y3 y4) (larchref17_Heavy.l0 (k + 1) y0 y1 y2 y3 y4)) ∧ (∀ y0 y1 y2 y3, LeO (larchref17_Heavy.l1 k y0 y1 y2 y3) (larchref17_Heavy.l1 (k + 1) y0 y1 y2 y3))
 | 0 => ⟨fun _ _ _ _ _ r h => by simp [larchref17_Heavy.l0] at h, fun _ _ _ _ r h => by simp [larchref17_Heavy.l1] at h⟩
 | k + 1 => by
  obtain ⟨ih0, ih1⟩ := larchref17_Heavy.mono_l k
  refine ⟨?_, ?_⟩
  ·
   intro y0 y1 y2 y3 y4
   unfold larchref17_Heavy.l0
   repeat' first
   | (with_reducible exact ih0 _ _ _ _ _)
   | (with_reducible exact ih1 _ _ _ _)
   | (with_reducible exact larchref17_Norm.mono _ _)
   | (with_reducible exact larchref17_keys.mono _ _)
   | (with_reducible exact LeO.refl _)
   | (with_reducible exact LeO.none _)
   | (with_reducible refine LeO.ite ?_ ?_)
   | (with_reducible refine LeO.bind ?_ (fun _ => ?_))
   | exact ih0 _ _ _ _ _
   | exact ih1 _ _ _ _
   | exact larchref17_Norm.mono _ _
   | exact larchref17_keys.mono _ _
   | exact LeO.none _
   | refine LeO.ite ?_ ?_
   | refine LeO.bind ?_ (fun _ => ?_)
  ·
   intro y0 y1 y2 y3
   unfold larchref17_Heavy.l1
   repeat' first
   | (with_reducible exact ih0 _ _ _ _ _)
   | (with_reducible exact ih1 _ _ _ _)
   | (with_reducible exact larchref17_Norm.mono _ _)
   | (with_reducible exact larchref17_keys.mono _ _)
   | (with_reducible exact LeO.refl _)
   | (with_reducible exact LeO.none _)
   | (with_reducible refine LeO.ite ?_ ?_)
   | (with_reducible refine LeO.bind ?_ (fun _ => ?_))
   | exact ih0 _ _ _ _ _
   | exact ih1 _ _ _ _
   | exact larchref17_Norm.mono _ _
   | exact larchref17_keys.mono _ _
   | exact LeO.none _
   | refine LeO.ite ?_ ?_
   | refine LeO.bind ?_ (fun _ => ?_)
theorem larchref17_Heavy.mono : ∀ a0 a1 k, LeO (larchref17_Heavy.f k a0 a1) (larchref17_Heavy.f (k + 1) a0 a1) := by
 intro a0 a1 k
 obtain ⟨ih0, ih1⟩ := larchref17_Heavy.mono_l k
 unfold larchref17_Heavy.f
 repeat' first
   | (with_reducible exact ih0 _ _ _ _ _)
   | (with_reducible exact ih1 _ _ _ _)
   | (with_reducible exact larchref17_Norm.mono _ _)
   | (with_reducible exact larchref17_keys.mono _ _)
   | (with_reducible exact LeO.refl _)
   | (with_reducible exact LeO.none _)
   | (with_reducible refine LeO.ite ?_ ?_)
   | (with_reducible refine LeO.bind ?_ (fun _ => ?_))
   | exact ih0 _ _ _ _ _
   | exact ih1 _ _ _ _
   | exact larchref17_Norm.mono _ _
   | exact larchref17_keys.mono _ _
   | exact LeO.none _
   | refine LeO.ite ?_ ?_
   | refine LeO.bind ?_ (fun _ => ?_)
def larchref17_Heavy.T15 : Bool × List (List Nat × List Nat) := (true, [([], []), ([], []), ([], []), ([1, 2], [1, 2]), ([3], [3]), ([], []), ([], []), ([5, 6], [5, 6]), ([7], [7]), ([0, 4, 0, 1, 2, 3, 4, 5, 6, 7, 8], [0, 4]), ([9, 0, 1, 2, 3, 4, 5, 6, 7, 8], [9]), ([10, 8, 0, 1, 2, 3, 4, 5, 6, 7, 8], [8, 10])])
def larchref17_Heavy.B15 : List Nat := [0, 0, 0, 6, 14, 0, 0, 96, 224, 511, 1023, 2047]
theorem larchref17_Heavy.tab15 : rtab .any (opsOf Try.f23 15) = larchref17_Heavy.T15 := by kernel_rfl
theorem larchref17_Heavy.bits15 : waitsOk larchref17_Heavy.T15.2 larchref17_Heavy.B15 = true := by kernel_rfl
set_option maxHeartbeats 8000000 in
set_option maxRecDepth 100000 in
theorem larchref17_Heavy.calls (k : Nat) (A0 : Option Addr) (c0 : Nat) (l0 : List (S49)) (A1 : Option Addr) (c1 : Nat) (l1 : List Int) (r1 : List (S49)) (r2 : Int) (w : World) (hr0 : Kd.C k49 w A0 l0.length l0) (hc0 : l0.length ≤ c0) (hr1 : Kd.C (Kd.int .i64) w A1 l1.length l1) (hc1 : l1.length ≤ c1) (h : larchref17_Heavy.f k l0 l1 = some (r1, r2)) :
  Calls Try.prog 23 #[.slice A0 l0.length c0, .slice A1 l1.length c1] w fun e w' => ∃ v0_ : Value, e = .returned (.tuple #[v0_, .int .i64 r2]) ∧ Kd.R k49 49 w' w.heap.size (fun _ => True) v0_ r1 ∧ Below w.heap.size w w' := by
 have HR0 := Aside0.mk hr0
 have HC0 := Aside0.mk hc0
 clear hr0 hc0
 have HR1 := Aside0.mk hr1
 have HC1 := Aside0.mk hc1
 clear hr1 hc1
 have HB := Aside0.mk (Below.refl w.heap.size w)
 have H : ((larchref17_keys.f k l0).bind fun bt520 => (if bt520.2 = 0 then (larchref17_Heavy.l0 k l0 l1 bt520.1 ((l1.length : Int) != (bt520.1.length : Int)) 0) else (some (([] : List (S49)), bt520.2)))) = some (r1, r2) := h
 clear h
 replace H := Option.bind_eq_some_iff.mp H
 obtain ⟨⟨t520, t521⟩, A30, H⟩ := H
 replace H : (if t521 = 0 then (larchref17_Heavy.l0 k l0 l1 t520 ((l1.length : Int) != (t520.length : Int)) 0) else (some (([] : List (S49)), t521))) = some (r1, r2) := H
 have A3 := Aside0.mk A30
 clear A30
 by_cases c4 : t521 = 0
 ·
  rw [if_pos c4] at H
  have c4b0 : (t521 == 0) = true := beq_iff_eq.mpr c4
  have c4b1 : (t521 != 0) = false := bne_eq_false_iff_eq.mpr c4
  clear c4
  have H' := Aside0.mk H
  clear H
  go_enter Try.func23, Try.ntmps23
  go_wp2_with (first | ((with_reducible refine gate_callee (f := 46) rfl ?_); refine goesL_ (some 14) rfl rfl Try.func46 (by kernel_rfl) rfl #[.slice A0 l0.length c0] rfl (by (try simp only [List.map_toArray, List.map_cons, List.map_nil]); first | done | rfl | (simp only [List.length_drop, List.length_take]; rfl)) ?_; (with_reducible refine (larchref17_keys.calls k _ _ l0 t520 t521 _ ?side1 ?side2 A3.out).mono ?_); (case side1 => repeat (first | exact HR0.out | (with_reducible refine Kd.C_alloc ?_ _) | (with_reducible refine Kd.C_drewN ?_ _) | (with_reducible refine Kd.C_drew ?_))); (case side2 => exact HC0.out); rintro e w5 ⟨v522, rfl, ho0, hb⟩; refine ⟨_, rfl, ?_⟩; have n0_ := Aside0.mk (Kd.R_lower ho0 (below_size (by repeat (first | (with_reducible first | exact HB.out | apply below_alloc | apply pw_below_drewN | apply below_drew1) | exact HB.out)))); have n1_ := Aside0.mk (below_step (by repeat (first | (with_reducible first | exact HB.out | apply below_alloc | apply pw_below_drewN | apply below_drew1) | exact HB.out)) hb); clear HB; have HO523 := n0_; have HB := n1_; clear n0_ n1_; (try clear hb); (try clear hb2); (try clear hk); (try clear hi); (try clear ho0); obtain ⟨Ao6, co6, eo6⟩ := Kd.R_slice HO523.out; subst eo6))
  go_loopg [8, 9] k (fun kq v8 v9 w' => ∃ (x8_1 : Bool) (x9_1 : Int), v8 = .bool x8_1 ∧ v9 = .int .i64 x9_1 ∧ Aside0 (larchref17_Heavy.l0 kq l0 l1 t520 x8_1 x9_1 = some (r1, r2)) ∧ Aside0 (kq ≤ k) ∧ Aside0 (Kd.R (Kd.int .i64) 3 w' w.heap.size (fun _ => True) (.slice Ao6 t520.length co6) t520) ∧ Aside0 (Below w.heap.size w w'))
  case atStart => exact ⟨(((l1.length : Int) != (t520.length : Int))), (0), (by first | rfl | (simp; done) | (simp [*]; done)), (by first | rfl | (simp; done) | (simp [*]; done)), H', ⟨Nat.le_refl _⟩, ⟨by (with_reducible repeat (first | apply Kd.R_alloc | apply Kd.R_drewN | apply Kd.R_drew)); exact HO523.out⟩, ⟨by repeat (first | (with_reducible first | exact HB.out | apply below_alloc | apply pw_below_drewN | apply below_drew1) | exact HB.out)⟩⟩
  case round =>
   clear H'
   try clear c1
   try clear c2
   try clear p2
   try clear c4
   try clear c4b0
   try clear c4b1
   obtain ⟨x8_1, x9_1, rfl, rfl, HA, HK1, HO_6, HB⟩ := hrel
   cases gk with
   | zero => exact absurd HA.out (by simp [larchref17_Heavy.l0])
   | succ k1 =>
    have H := HA.out
    clear HA
    simp only [larchref17_Heavy.l0] at H
    by_cases c7 : x9_1 < (l1.length : Int)
    ·
     rw [if_pos c7] at H
     have c7b0 : decide (x9_1 < (l1.length : Int)) = true := decide_eq_true c7
     clear c7
     by_cases c8 : x8_1 = true
     ·
      subst c8
      have H1 : (larchref17_Heavy.l0 k1 l0 l1 t520 true (wrap64 (x9_1 + 1))) = some (r1, r2) := by rw [if_pos rfl] at H; exact H
      clear H
      have H := H1
      clear H1
      have H' := Aside0.mk H
      clear H
      go_wp2
      go_roundg k1
      case measure => have := HK1.out; omega
      case rel => exact ⟨(true), (wrap64 (x9_1 + 1)), (by first | rfl | (simp; done) | (simp [*]; done)), (by first | rfl | (simp; done) | (simp [*]; done)), H', ⟨by have := HK1.out; omega⟩, ⟨by (with_reducible repeat (first | apply Kd.R_alloc | apply Kd.R_drewN | apply Kd.R_drew)); exact HO_6.out⟩, ⟨by repeat (first | (with_reducible first | exact HB.out | apply below_alloc | apply pw_below_drewN | apply below_drew1) | exact HB.out)⟩⟩
     ·
      replace c8 := Bool.eq_false_iff.mpr c8
      subst c8
      have H1 : (if 0 ≤ x9_1 then (if (rd l1 x9_1) < 0 then (larchref17_Heavy.l0 k1 l0 l1 t520 true (wrap64 (x9_1 + 1))) else (larchref17_Heavy.l0 k1 l0 l1 t520 (decide ((rd l1 x9_1) > 1000000)) (wrap64 (x9_1 + 1)))) else (none)) = some (r1, r2) := by rw [if_neg (show ¬ (false = true) by decide)] at H; exact H
      clear H
      have H := H1
      clear H1
      by_cases c9 : 0 ≤ x9_1
      ·
       rw [if_pos c9] at H
       have c9b0 : decide (0 ≤ x9_1) = true := decide_eq_true c9
       clear c9
       by_cases c10 : (rd l1 x9_1) < 0
       ·
        rw [if_pos c10] at H
        have c10b0 : decide ((rd l1 x9_1) < 0) = true := decide_eq_true c10
        clear c10
        have H' := Aside0.mk H
        clear H
        have p524 : 0 ≤ (x9_1 : Int) := of_decide_eq_true (by first | (with_reducible assumption) | assumption)
        have q524 : x9_1 < (l1.length : Int) := of_decide_eq_true (by first | (with_reducible assumption) | assumption)
        obtain ⟨ad524, e524, hx524_0⟩ := Kd.at_int HR1.out x9_1 p524 q524
        cases e524
        replace hx524_0 := (HB.out.cell (World.block_lt_of_cell? w _ hx524_0)).trans hx524_0
        replace p524 := eq_true p524
        replace q524 := eq_true q524
        go_wp2
        go_roundg k1
        case measure => have := HK1.out; omega
        case rel => exact ⟨(true), (wrap64 (x9_1 + 1)), (by first | rfl | (simp; done) | (simp [*]; done)), (by first | rfl | (simp; done) | (simp [*]; done)), H', ⟨by have := HK1.out; omega⟩, ⟨by (with_reducible repeat (first | apply Kd.R_alloc | apply Kd.R_drewN | apply Kd.R_drew)); exact HO_6.out⟩, ⟨by repeat (first | (with_reducible first | exact HB.out | apply below_alloc | apply pw_below_drewN | apply below_drew1) | exact HB.out)⟩⟩
       ·
        rw [if_neg c10] at H
        have c10b0 : decide ((rd l1 x9_1) < 0) = false := decide_eq_false c10
        clear c10
        have H' := Aside0.mk H
        clear H
        have p524 : 0 ≤ (x9_1 : Int) := of_decide_eq_true (by first | (with_reducible assumption) | assumption)
        have q524 : x9_1 < (l1.length : Int) := of_decide_eq_true (by first | (with_reducible assumption) | assumption)
        obtain ⟨ad524, e524, hx524_0⟩ := Kd.at_int HR1.out x9_1 p524 q524
        cases e524
        replace hx524_0 := (HB.out.cell (World.block_lt_of_cell? w _ hx524_0)).trans hx524_0
        replace p524 := eq_true p524
        replace q524 := eq_true q524
        have p525 : 0 ≤ (x9_1 : Int) := of_decide_eq_true (by first | (with_reducible assumption) | assumption)
        have q525 : x9_1 < (l1.length : Int) := of_decide_eq_true (by first | (with_reducible assumption) | assumption)
        obtain ⟨ad525, e525, hx525_0⟩ := Kd.at_int HR1.out x9_1 p525 q525
        obtain rfl : ad524 = ad525 := (by injection e525)
        replace hx525_0 := (HB.out.cell (World.block_lt_of_cell? w _ hx525_0)).trans hx525_0
        replace p525 := eq_true p525
        replace q525 := eq_true q525
        go_wp2
        go_roundg k1
        case measure => have := HK1.out; omega
        case rel => exact ⟨(decide ((rd l1 x9_1) > 1000000)), (wrap64 (x9_1 + 1)), (by first | rfl | (simp; done) | (simp [*]; done)), (by first | rfl | (simp; done) | (simp [*]; done)), H', ⟨by have := HK1.out; omega⟩, ⟨by (with_reducible repeat (first | apply Kd.R_alloc | apply Kd.R_drewN | apply Kd.R_drew)); exact HO_6.out⟩, ⟨by repeat (first | (with_reducible first | exact HB.out | apply below_alloc | apply pw_below_drewN | apply below_drew1) | exact HB.out)⟩⟩
      ·
       rw [if_neg c9] at H
       exact absurd H (by simp)
    ·
     rw [if_neg c7] at H
     have c7b0 : decide (x9_1 < (l1.length : Int)) = false := decide_eq_false c7
     clear c7
     by_cases c11 : x8_1 = true
     ·
      subst c11
      have H1 : (some (([] : List (S49)), 1)) = some (r1, r2) := by rw [if_pos rfl] at H; exact H
      clear H
      have H := H1
      clear H1
      simp only [Option.some.injEq, Prod.mk.injEq] at H
      obtain ⟨rfl, rfl⟩ := H
      go_wp2
      go_ret2
      exact ⟨_, by first | rfl | (simp [errW_none, errW_some] <;> rfl) | (simp [*, errW_none, errW_some] <;> rfl), by first | exact Kd.R_nil _ _ _ _ _ | exact Kd.N_nil _ _ _ _ _ | exact Kd.V_nil _ _ _ _ _ | exact Kd.Q_nil _ _ _ _ _ | exact Kd.S_nil _ _ _ _ _, by repeat (first | (with_reducible first | exact HB.out | apply below_alloc | apply pw_below_drewN | apply below_drew1) | exact HB.out)⟩
     ·
      replace c11 := Bool.eq_false_iff.mpr c11
      subst c11
      have H1 : ((some (([] : List (S49)) : List (S49))).bind fun y526 => (if y526.length + l0.length < 2932031007402 then (larchref17_Heavy.l1 k1 l1 t520 (y526 ++ l0) 0) else (none))) = some (r1, r2) := by rw [if_neg (show ¬ (false = true) by decide)] at H; exact H
      clear H
      have H := H1
      clear H1
      obtain ⟨y526, hy526⟩ : ∃ y_ : List (S49), y_ = (([] : List (S49))) := ⟨_, rfl⟩
      replace H : (if y526.length + l0.length < 2932031007402 then (larchref17_Heavy.l1 k1 l1 t520 (y526 ++ l0) 0) else (none)) = some (r1, r2) := by first | (rw [hy526]; with_reducible exact H) | (have H2_ := (Option.bind_some _ _).symm.trans H; rw [hy526]; with_reducible exact H2_) | (have H2_ := (Option.bind_some _ _).symm.trans H; with_reducible exact H2_) | with_reducible exact H | (rw [hy526]; exact H) | exact H
      have Ny526 := Aside0.mk hy526
      clear hy526
      by_cases c12 : y526.length + l0.length < 2932031007402
      ·
       rw [if_pos c12] at H
       have LMc12 := Aside0.mk c12
       clear c12
       obtain ⟨y529, hy529⟩ : ∃ y_ : List (S49), y_ = (y526 ++ l0) := ⟨_, rfl⟩
       replace H : (larchref17_Heavy.l1 k1 l1 t520 y529 0) = some (r1, r2) := by first | (rw [hy529]; with_reducible exact H) | (have H2_ := (Option.bind_some _ _).symm.trans H; rw [hy529]; with_reducible exact H2_) | (have H2_ := (Option.bind_some _ _).symm.trans H; with_reducible exact H2_) | with_reducible exact H | (rw [hy529]; exact H) | exact H
       have Ny529 := Aside0.mk hy529
       clear hy529
       have H' := Aside0.mk H
       clear H
       go_wp2_with (first | ((with_reducible refine gate_dst (N := 47) rfl ?_); refine Kd.R_lit k49 _ 49 ?hg (N := 47) ?hd (xs := ([] : List (S49))) (inner := []) (ok := fun _ => True) (okp := fun _ => True) ?hr ?hp (fun _ hk => hk) trivial (Below.refl _ _) (Nat.le_refl _) (by simp) ?_; (case hd => rfl); (case hg => rfl); (case hr => first | (go_simp; done) | (go_simp; rfl)); (case hp => exact (Reps.none _ _)); intro v527 w13 ho14 hb hg_ hnew_; clear hg_ hnew_; (first | rw [← Ny526.out] at ho14 | (simp only [Int.reduceToNat] at ho14; rw [← Ny526.out] at ho14)); have n0_ := Aside0.mk (Kd.R_below (by (with_reducible repeat (first | apply Kd.R_alloc | apply Kd.R_drewN | apply Kd.R_drew)); exact HO_6.out) hb); have n1_ := Aside0.mk (Kd.R_lower ho14 (below_size (by repeat (first | (with_reducible first | exact HB.out | apply below_alloc | apply pw_below_drewN | apply below_drew1) | exact HB.out)))); have n2_ := Aside0.mk (below_step (by repeat (first | (with_reducible first | exact HB.out | apply below_alloc | apply pw_below_drewN | apply below_drew1) | exact HB.out)) hb); clear HO_6; clear HB; have HO_6 := n0_; have HO528 := n1_; have HB := n2_; clear n0_ n1_ n2_; clear hb ho14) | ((with_reducible refine gate_builtin (b := .append) (xs := #[.tmp 47, .tmp 48]) rfl ?_); at_builtin; refine Kd.R_append_rows k49 (w0 := w) w.heap.size rfl (.tmp 47) (.tmp 48) 22 49 (.agg #[(.int .i64 0), (.int .i64 0), (.int .i64 0), (.int .i64 0), (.int .i64 0), (.int .i64 0)]) 48 rfl Try.underlying22 info49 rfl (by decide) (by omega) v527 y526 l0 _ _ _ (fun _ => True) (fun _ => False) rfl rfl ?aO ?aR (fun _ _ h => h) (fun _ h => h.elim) ?aF ?aB ?aS ?aL ?_; (case aR => repeat (first | exact (Kd.C_below HR0.out HB.out) | (with_reducible refine Kd.C_alloc ?_ _) | (with_reducible refine Kd.C_drewN ?_ _) | (with_reducible refine Kd.C_drew ?_))); (case aB => exact (by repeat (first | (with_reducible first | exact HB.out | apply below_alloc | apply pw_below_drewN | apply below_drew1) | exact HB.out))); (case aF => exact (fun _ _ => trivial)); (case aO => exact (by (with_reducible repeat (first | apply Kd.R_alloc | apply Kd.R_drewN | apply Kd.R_drew)); exact HO528.out)); (case aS => exact (below_size (by repeat (first | (with_reducible first | exact HB.out | apply below_alloc | apply pw_below_drewN | apply below_drew1) | exact HB.out)))); (case aL => have := LMc12.out; omega); intro v530 w15 ho hb hg hat; rw [← Ny529.out] at ho; have n0_ := Aside0.mk (Kd.R_over' (by (with_reducible repeat (first | apply Kd.R_alloc | apply Kd.R_drewN | apply Kd.R_drew)); exact HO_6.out) (Kd.R_typed (by (with_reducible repeat (first | apply Kd.R_alloc | apply Kd.R_drewN | apply Kd.R_drew)); exact HO528.out)) (by decide) hg); have n1_ := Aside0.mk (hb); have n2_ := Aside0.mk (ho); clear HO_6; clear HB; clear HO528; have HO_6 := n0_; have HB := n1_; have HO531 := n2_; clear n0_ n1_ n2_; clear ho hb hg hat))
       go_loopg [11] k1 (fun kq v11 w' => ∃ (x10_2 : List (S49)) (x11_2 : Int), v11 = .int .i64 x11_2 ∧ Aside0 (larchref17_Heavy.l1 kq l1 t520 x10_2 x11_2 = some (r1, r2)) ∧ Aside0 (kq ≤ k1) ∧ Aside0 (Kd.R (Kd.int .i64) 3 w' w.heap.size (fun _ => True) (.slice Ao6 t520.length co6) t520) ∧ Aside0 (Kd.R k49 49 w' w.heap.size (fun _ => True) v530 x10_2) ∧ Aside0 (Below w.heap.size w w'))
       case atStart => exact ⟨(y529), (0), (by first | rfl | (simp; done) | (simp [*]; done)), H', ⟨Nat.le_refl _⟩, ⟨by (with_reducible repeat (first | apply Kd.R_alloc | apply Kd.R_drewN | apply Kd.R_drew)); exact HO_6.out⟩, ⟨by (with_reducible repeat (first | apply Kd.R_alloc | apply Kd.R_drewN | apply Kd.R_drew)); exact HO531.out⟩, ⟨by repeat (first | (with_reducible first | exact HB.out | apply below_alloc | apply pw_below_drewN | apply below_drew1) | exact HB.out)⟩⟩
       case round =>
        clear H'
        try clear c1
        try clear c2
        try clear p2
        try clear c4
        try clear c4b0
        try clear c4b1
        try clear p5
        try clear q5
        try clear hx5
        try clear p6
        try clear c7
        try clear c7b0
        try clear c8
        try clear c9
        try clear c9b0
        try clear c10
        try clear c10b0
        try clear c11
        try clear c12
        try clear hx524_0
        try clear hx525_0
        try clear p2
        try clear p524
        try clear p525
        try clear q524
        try clear q525
        obtain ⟨x10_2, x11_2, rfl, HA, HK2, HO_6, HO_10, HB⟩ := hrel
        cases gk with
        | zero => exact absurd HA.out (by simp [larchref17_Heavy.l1])
        | succ k2 =>
         have H := HA.out
         clear HA
         simp only [larchref17_Heavy.l1] at H
         by_cases c16 : x11_2 < (t520.length : Int)
         ·
          rw [if_pos c16] at H
          have c16b0 : decide (x11_2 < (t520.length : Int)) = true := decide_eq_true c16
          clear c16
          by_cases c17 : 0 ≤ x11_2
          ·
           rw [if_pos c17] at H
           have c17b0 : decide (0 ≤ x11_2) = true := decide_eq_true c17
           clear c17
           by_cases c18 : x11_2 < (l1.length : Int)
           ·
            rw [if_pos c18] at H
            have c18b0 : decide (x11_2 < (l1.length : Int)) = true := decide_eq_true c18
            clear c18
            by_cases c19 : 0 ≤ (rd t520 x11_2)
            ·
             rw [if_pos c19] at H
             have c19b0 : decide (0 ≤ (rd t520 x11_2)) = true := decide_eq_true c19
             clear c19
             by_cases c20 : (rd t520 x11_2) < (x10_2.length : Int)
             ·
              rw [if_pos c20] at H
              have c20b0 : decide ((rd t520 x11_2) < (x10_2.length : Int)) = true := decide_eq_true c20
              clear c20
              obtain ⟨y534, hy534⟩ : ∃ y_ : List (S49), y_ = (x10_2.set ((rd t520 x11_2) : Int).toNat (⟨(rd_T49 x10_2 (rd t520 x11_2)).f0, (rd_T49 x10_2 (rd t520 x11_2)).f1, rd l1 x11_2, (rd_T49 x10_2 (rd t520 x11_2)).f3, (rd_T49 x10_2 (rd t520 x11_2)).f4, (rd_T49 x10_2 (rd t520 x11_2)).f5⟩ : S49)) := ⟨_, rfl⟩
              replace H : (larchref17_Heavy.l1 k2 l1 t520 y534 (wrap64 (x11_2 + 1))) = some (r1, r2) := by first | (rw [hy534]; with_reducible exact H) | (have H2_ := (Option.bind_some _ _).symm.trans H; rw [hy534]; with_reducible exact H2_) | (have H2_ := (Option.bind_some _ _).symm.trans H; with_reducible exact H2_) | with_reducible exact H | (rw [hy534]; exact H) | exact H
              have Ny534 := Aside0.mk hy534
              clear hy534
              have H' := Aside0.mk H
              clear H
              try go_wp2
              have n0_ := Aside0.mk (Kd.R_drew HO_6.out)
              have n1_ := Aside0.mk (Kd.R_drew HO_10.out)
              have n2_ := Aside0.mk (below_drew1 HB.out)
              clear HO_6
              clear HO_10
              clear HB
              have HO_6 := n0_
              have HO_10 := n1_
              have HB := n2_
              clear n0_ n1_ n2_
              have p532 : 0 ≤ (x11_2 : Int) := of_decide_eq_true (by first | (with_reducible assumption) | assumption)
              have q532 : x11_2 < (t520.length : Int) := of_decide_eq_true (by first | (with_reducible assumption) | assumption)
              obtain ⟨ad532, e532, hx532_0⟩ := Kd.at_int (Kd.R_reads' HO_6.out).2.2 x11_2 p532 q532
              cases e532
              replace p532 := eq_true p532
              replace q532 := eq_true q532
              have p533 : 0 ≤ (x11_2 : Int) := of_decide_eq_true (by first | (with_reducible assumption) | assumption)
              have q533 : x11_2 < (l1.length : Int) := of_decide_eq_true (by first | (with_reducible assumption) | assumption)
              obtain ⟨ad533, e533, hx533_0⟩ := Kd.at_int HR1.out x11_2 p533 q533
              have hw533_0 := hx533_0
              cases e533
              replace hx533_0 := (HB.out.cell (World.block_lt_of_cell? w _ hx533_0)).trans hx533_0
              replace p533 := eq_true p533
              replace q533 := eq_true q533
              have p21 : 0 ≤ ((rd t520 x11_2) : Int) := of_decide_eq_true (by first | (with_reducible assumption) | assumption)
              have q21 : ((rd t520 x11_2) : Int) < ((x10_2.length : Int) : Int) := of_decide_eq_true (by first | (with_reducible assumption) | assumption)
              obtain ⟨go21, co21, eo21, gb21, gl21, cl21, HG21⟩ := Kd.R_form HO_10.out (by omega)
              (first | cases eo21 | (injection eo21 with ea_ en_ ec_; (first | subst ea_ | (injection ea_ with ea_; subst ea_)); subst ec_; clear en_))
              have GB21 := Aside0.mk gb21
              have GG21 := Aside0.mk HG21
              clear gb21 gl21 HG21
              obtain ⟨ce21, hcl21, hM21, hcc21, hfr21⟩ := Kd.R_elem HO_10.out z49 ((rd t520 x11_2) : Int) p21 q21
              obtain rfl := k49_openM hM21
              have hx21_0 : World.cell? _ ⟨go21, ((rd t520 x11_2) : Int).toNat * 6, none⟩ = some (.int .i64 ((rd_T49 x10_2 (rd t520 x11_2)).f0)) := hcc21 0 _ rfl
              have hx21_1 : World.cell? _ ⟨go21, ((rd t520 x11_2) : Int).toNat * 6 + 1, none⟩ = some (.int .i64 ((rd_T49 x10_2 (rd t520 x11_2)).f1)) := hcc21 1 _ rfl
              have hx21_2 : World.cell? _ ⟨go21, ((rd t520 x11_2) : Int).toNat * 6 + 2, none⟩ = some (.int .i64 ((rd_T49 x10_2 (rd t520 x11_2)).f2)) := hcc21 2 _ rfl
              have hx21_3 : World.cell? _ ⟨go21, ((rd t520 x11_2) : Int).toNat * 6 + 3, none⟩ = some (.int .i64 ((rd_T49 x10_2 (rd t520 x11_2)).f3)) := hcc21 3 _ rfl
              have hx21_4 : World.cell? _ ⟨go21, ((rd t520 x11_2) : Int).toNat * 6 + 4, none⟩ = some (.int .i64 ((rd_T49 x10_2 (rd t520 x11_2)).f4)) := hcc21 4 _ rfl
              have hx21_5 : World.cell? _ ⟨go21, ((rd t520 x11_2) : Int).toNat * 6 + 5, none⟩ = some (.int .i64 ((rd_T49 x10_2 (rd t520 x11_2)).f5)) := hcc21 5 _ rfl
              have hf21_0 : World.frozen? _ ⟨go21, ((rd t520 x11_2) : Int).toNat * 6, none⟩ = false := hfr21 0
              have hf21_1 : World.frozen? _ ⟨go21, ((rd t520 x11_2) : Int).toNat * 6 + 1, none⟩ = false := hfr21 1
              have hf21_2 : World.frozen? _ ⟨go21, ((rd t520 x11_2) : Int).toNat * 6 + 2, none⟩ = false := hfr21 2
              have hf21_3 : World.frozen? _ ⟨go21, ((rd t520 x11_2) : Int).toNat * 6 + 3, none⟩ = false := hfr21 3
              have hf21_4 : World.frozen? _ ⟨go21, ((rd t520 x11_2) : Int).toNat * 6 + 4, none⟩ = false := hfr21 4
              have hf21_5 : World.frozen? _ ⟨go21, ((rd t520 x11_2) : Int).toNat * 6 + 5, none⟩ = false := hfr21 5
              clear hcl21 hcc21 hfr21 hM21
              replace p21 := eq_true p21
              replace q21 := eq_true q21
              obtain ⟨ce23, hcl23, hM23, hcc23, hfr23⟩ := Kd.R_elem HO_10.out z49 ((rd t520 x11_2) : Int) (of_decide_eq_true (by first | (with_reducible assumption) | assumption)) (by have h_ : ((rd t520 x11_2) : Int) < ((x10_2.length : Int) : Int) := of_decide_eq_true (by first | (with_reducible assumption) | assumption); first | exact h_ | (have e_ := (Kd.R_reads' HO_10.out).1; omega) | simpa using h_)
              obtain rfl := k49_openM hM23
              have HP23 := (Kd.R_seg HO_10.out ((rd t520 x11_2) : Int) (of_decide_eq_true (by first | (with_reducible assumption) | assumption)) (by have h_ : ((rd t520 x11_2) : Int) < ((x10_2.length : Int) : Int) := of_decide_eq_true (by first | (with_reducible assumption) | assumption); first | exact h_ | (have e_ := (Kd.R_reads' HO_10.out).1; omega) | simpa using h_) (seg := [.int .i64 (rd l1 x11_2)]) (j := 2) hcl23 hcc23 (show 3 ≤ 6 from by decide) (x' := (⟨(rd_T49 x10_2 (rd t520 x11_2)).f0, (rd_T49 x10_2 (rd t520 x11_2)).f1, rd l1 x11_2, (rd_T49 x10_2 (rd t520 x11_2)).f3, (rd_T49 x10_2 (rd t520 x11_2)).f4, (rd_T49 x10_2 (rd t520 x11_2)).f5⟩ : S49)) (k49_mkM _ _ _ (⟨(rd_T49 x10_2 (rd t520 x11_2)).f0, (rd_T49 x10_2 (rd t520 x11_2)).f1, rd l1 x11_2, (rd_T49 x10_2 (rd t520 x11_2)).f3, (rd_T49 x10_2 (rd t520 x11_2)).f4, (rd_T49 x10_2 (rd t520 x11_2)).f5⟩ : S49) ) (fun _ hk => hk)).1
              rw [← Ny534.out] at HP23
              have HQ23 := Aside0.mk HP23
              clear hcl23 hcc23 hfr23 hM23 HP23
              refine start_ (n := 12) (S := fun w' => w'.cell? (ad532.add (x11_2).toNat) = some (.int .i64 (rd t520 x11_2)) ∧ w'.cell? (ad533.add (x11_2).toNat) = some (.int .i64 (rd l1 x11_2))) (ds := [11]) #[false, false, false, false, false, false, false, false, false, false, false, false] (by kernel_rfl) rfl rfl ⟨hx532_0, ((HB.out.cell (World.block_lt_of_cell? w _ hw533_0)).trans hw533_0)⟩ (fun hHeld => ?_); refine with_tabW larchref17_Heavy.tab15 larchref17_Heavy.bits15 (fun HT_ HW_ => ?_)
              generalize wr.drew = w22 at HO_6 HO_10 HB GG21 HQ23 hf21_0 hf21_1 hf21_2 hf21_3 hf21_4 hf21_5 hx21_0 hx21_1 hx21_2 hx21_3 hx21_4 hx21_5 hx532_0 hx533_0 hHeld ⊢
              refine pure_ (i := 0) (N := some 56) (v := ?_) (a' := ?_) #[true, false, false, false, false, false, false, false, false, false, false, false] rfl rfl (any_of HT_.out (by kernel_rfl)) (fun _ _ _ h => h) (Or.inl ⟨by rfl, ?_⟩) ?_ ?_
              rotate_left
              ·
               intro w'
               go_simp
               with_reducible rfl
              rotate_left
              ·
               simp only [Act.put, List.setIfInBounds_toArray, List.set_cons_zero, List.set_cons_succ, i64_w, i32_w]
               rfl
              refine pure_ (i := 1) (N := some 57) (v := ?_) (a' := ?_) #[true, true, false, false, false, false, false, false, false, false, false, false] rfl rfl (any_of HT_.out (by kernel_rfl)) (fun _ _ _ h => h) (Or.inl ⟨by rfl, ?_⟩) ?_ ?_
              rotate_left
              ·
               intro w'
               go_simp
               with_reducible rfl
              rotate_left
              ·
               simp only [Act.put, List.setIfInBounds_toArray, List.set_cons_zero, List.set_cons_succ, i64_w, i32_w]
               rfl
              refine pure_ (i := 2) (N := some 58) (v := ?_) (a' := ?_) #[true, true, true, false, false, false, false, false, false, false, false, false] rfl rfl (any_of HT_.out (by kernel_rfl)) (fun _ _ _ h => h) (Or.inl ⟨by rfl, ?_⟩) ?_ ?_
              rotate_left
              ·
               intro w'
               go_simp
               with_reducible rfl
              rotate_left
              ·
               simp only [Act.put, List.setIfInBounds_toArray, List.set_cons_zero, List.set_cons_succ, i64_w, i32_w]
               rfl
              refine pure_ (i := 3) (N := some 59) (v := ?_) (a' := ?_) #[true, true, true, true, false, false, false, false, false, false, false, false] rfl rfl (any_of HT_.out (by kernel_rfl)) (fun _ _ _ h => h) (Or.inl ⟨by rfl, ?_⟩) ?_ ?_
              rotate_left
              ·
               intro w'
               go_simp
               with_reducible rfl
              rotate_left
              ·
               simp only [Act.put, List.setIfInBounds_toArray, List.set_cons_zero, List.set_cons_succ, i64_w, i32_w]
               rfl
              refine pure_ (i := 5) (N := some 61) (v := ?_) (a' := ?_) #[true, true, true, true, false, true, false, false, false, false, false, false] rfl rfl (any_of HT_.out (by kernel_rfl)) (fun _ _ _ h => h) (Or.inl ⟨by rfl, ?_⟩) ?_ ?_
              rotate_left
              ·
               intro w'
               go_simp
               with_reducible rfl
              rotate_left
              ·
               simp only [Act.put, List.setIfInBounds_toArray, List.set_cons_zero, List.set_cons_succ, i64_w, i32_w]
               rfl
              refine pure_ (i := 6) (N := some 62) (v := ?_) (a' := ?_) #[true, true, true, true, false, true, true, false, false, false, false, false] rfl rfl (any_of HT_.out (by kernel_rfl)) (fun _ _ _ h => h) (Or.inl ⟨by rfl, ?_⟩) ?_ ?_
              rotate_left
              ·
               intro w'
               go_simp
               with_reducible rfl
              rotate_left
              ·
               simp only [Act.put, List.setIfInBounds_toArray, List.set_cons_zero, List.set_cons_succ, i64_w, i32_w]
               rfl
              refine pure_ (i := 7) (N := some 63) (v := ?_) (a' := ?_) #[true, true, true, true, false, true, true, true, false, false, false, false] rfl rfl (any_of HT_.out (by kernel_rfl)) (fun _ _ _ h => h) (Or.inl ⟨by rfl, ?_⟩) ?_ ?_
              rotate_left
              ·
               intro w'
               go_simp
               with_reducible rfl
              rotate_left
              ·
               simp only [Act.put, List.setIfInBounds_toArray, List.set_cons_zero, List.set_cons_succ, i64_w, i32_w]
               rfl
              refine take_ (i := 4) (N := some 60) (v := ?_) (a' := ?_) #[true, true, true, true, true, true, true, true, false, false, false, false] rfl rfl (take_ofW HT_.out HW_.out (by kernel_rfl)) (fun _ _ _ h => h) (Or.inl ⟨by rfl, ?_⟩) hHeld ?_ ?_
              rotate_left
              ·
               rintro w' ⟨s0, s1⟩
               go_simp
               with_reducible rfl
              rotate_left
              ·
               simp only [Act.put, List.setIfInBounds_toArray, List.set_cons_zero, List.set_cons_succ, i64_w, i32_w]
               rfl
              refine take_ (i := 8) (N := some 64) (v := ?_) (a' := ?_) #[true, true, true, true, true, true, true, true, true, false, false, false] rfl rfl (take_ofW HT_.out HW_.out (by kernel_rfl)) (fun _ _ _ h => h) (Or.inl ⟨by rfl, ?_⟩) hHeld ?_ ?_
              rotate_left
              ·
               rintro w' ⟨s0, s1⟩
               go_simp
               with_reducible rfl
              rotate_left
              ·
               simp only [Act.put, List.setIfInBounds_toArray, List.set_cons_zero, List.set_cons_succ, i64_w, i32_w]
               rfl
              refine pure_ (i := 9) (N := some 65) (v := ?_) (a' := ?_) #[true, true, true, true, true, true, true, true, true, true, false, false] rfl rfl (any_of HT_.out (by kernel_rfl)) (fun _ _ _ h => h) (Or.inl ⟨by rfl, ?_⟩) ?_ ?_
              rotate_left
              ·
               intro w'
               go_simp
               with_reducible rfl
              rotate_left
              ·
               simp only [Act.put, List.setIfInBounds_toArray, List.set_cons_zero, List.set_cons_succ, i64_w, i32_w]
               rfl
              refine pure_ (i := 10) (N := some 66) (v := ?_) (a' := ?_) #[true, true, true, true, true, true, true, true, true, true, true, false] rfl rfl (any_of HT_.out (by kernel_rfl)) (fun _ _ _ h => h) (Or.inl ⟨by rfl, ?_⟩) ?_ ?_
              rotate_left
              ·
               intro w'
               go_simp
               with_reducible rfl
              rotate_left
              ·
               simp only [Act.put, List.setIfInBounds_toArray, List.set_cons_zero, List.set_cons_succ, i64_w, i32_w]
               rfl
              refine last_ (i := 11) (N := none) #[true, true, true, true, true, true, true, true, true, true, true, true] rfl rfl (one_of HT_.out (by kernel_rfl)) (by decide) (fun K hK => ?_)
              refine skip_ (w1 := ?_) (by rfl) rfl ?_ ?_
              rotate_left
              ·
               go_simp
               rfl
              refine hK.out _ _ ?_
              clear hK K
              refine done_ (done_of HT_.out (by kernel_rfl)) ?_
              try go_wp2
              go_roundg k2
              case measure => have := HK1.out; have := HK2.out; omega
              case rel => exact ⟨(y534), (wrap64 (x11_2 + 1)), (by first | rfl | (simp; done) | (simp [*]; done)), H', ⟨by have := HK1.out; have := HK2.out; omega⟩, ⟨by (with_reducible repeat (first | apply Kd.R_alloc | apply Kd.R_drewN | apply Kd.R_drew)); exact Kd.R_mono (Kd.R_far (p := ⟨go21, ((rd t520 x11_2) : Int).toNat * 6 + 2, none⟩) (Kd.R_types HO_6.out GG21.out (by decide)) (fun _ hk => hk.2) (.int .i64 (rd l1 x11_2))) (fun _ hk => trivial)⟩, ⟨by (with_reducible repeat (first | apply Kd.R_alloc | apply Kd.R_drewN | apply Kd.R_drew)); exact HQ23.out⟩, ⟨by repeat (first | (with_reducible first | exact HB.out | apply below_alloc | apply pw_below_drewN | apply below_drew1 | refine below_set ?_ GB21.out) | exact HB.out)⟩⟩
             ·
              rw [if_neg c20] at H
              exact absurd H (by simp)
            ·
             rw [if_neg c19] at H
             exact absurd H (by simp)
           ·
            rw [if_neg c18] at H
            exact absurd H (by simp)
          ·
           rw [if_neg c17] at H
           exact absurd H (by simp)
         ·
          rw [if_neg c16] at H
          have c16b0 : decide (x11_2 < (t520.length : Int)) = false := decide_eq_false c16
          clear c16
          replace H := Option.bind_eq_some_iff.mp H
          obtain ⟨t535, A240, H⟩ := H
          replace H : (some (t535, 0)) = some (r1, r2) := H
          have A24 := Aside0.mk A240
          clear A240
          simp only [Option.some.injEq, Prod.mk.injEq] at H
          obtain ⟨rfl, rfl⟩ := H
          obtain ⟨Ao25, co25, eo25⟩ := Kd.R_slice HO_10.out
          subst eo25
          go_wp2_with (first | ((with_reducible refine gate_callee (f := 28) rfl ?_); refine goesL_ (some 68) rfl rfl Try.func28 (by kernel_rfl) rfl #[.slice Ao25 x10_2.length co25] rfl (by (try simp only [List.map_toArray, List.map_cons, List.map_nil]); first | done | rfl | (simp only [List.length_drop, List.length_take]; rfl)) ?_; (with_reducible refine (larchref17_Norm.calls k2 _ _ x10_2 t535 _ ?side1 ?side2 A24.out).mono ?_); (case side1 => repeat (first | exact (Kd.R_reads' HO_10.out).2.2 | (with_reducible refine Kd.C_alloc ?_ _) | (with_reducible refine Kd.C_drewN ?_ _) | (with_reducible refine Kd.C_drew ?_))); (case side2 => exact (Kd.R_reads' HO_10.out).2.1); rintro e w26 ⟨v536, rfl, ho0, hb⟩; refine ⟨_, rfl, ?_⟩; have n0_ := Aside0.mk (Kd.R_below (by (with_reducible repeat (first | apply Kd.R_alloc | apply Kd.R_drewN | apply Kd.R_drew)); exact HO_6.out) hb); have n1_ := Aside0.mk (Kd.R_elder' (by (with_reducible repeat (first | apply Kd.R_alloc | apply Kd.R_drewN | apply Kd.R_drew)); exact HO_10.out) (Kd.R_base ho0) hb); have n2_ := Aside0.mk (Kd.R_lower (Kd.R_new' ho0 (Kd.R_lt (by (with_reducible repeat (first | apply Kd.R_alloc | apply Kd.R_drewN | apply Kd.R_drew)); exact HO_10.out))) (below_size (by repeat (first | (with_reducible first | exact HB.out | apply below_alloc | apply pw_below_drewN | apply below_drew1) | exact HB.out)))); have n3_ := Aside0.mk (below_step (by repeat (first | (with_reducible first | exact HB.out | apply below_alloc | apply pw_below_drewN | apply below_drew1) | exact HB.out)) hb); clear HO_6; clear HO_10; clear HB; have HO_6 := n0_; have HO_10 := n1_; have HO537 := n2_; have HB := n3_; clear n0_ n1_ n2_ n3_; (try clear hb); (try clear hb2); (try clear hk); (try clear hi); (try clear ho0)))
          go_ret2
          exact ⟨_, by first | rfl | (simp [errW_none, errW_some] <;> rfl) | (simp [*, errW_none, errW_some] <;> rfl), by (with_reducible repeat (first | apply Kd.R_alloc | apply Kd.R_drewN | apply Kd.R_drew)); exact Kd.R_mono HO537.out (fun _ hk => trivial), by repeat (first | (with_reducible first | exact HB.out | apply below_alloc | apply pw_below_drewN | apply below_drew1) | exact HB.out)⟩
      ·
       rw [if_neg c12] at H
       exact absurd H (by simp)
 ·
  rw [if_neg c4] at H
  have c4b0 : (t521 == 0) = false := beq_eq_false_iff_ne.mpr c4
  have c4b1 : (t521 != 0) = true := bne_iff_ne.mpr c4
  simp only [Option.some.injEq, Prod.mk.injEq] at H
  obtain ⟨rfl, rfl⟩ := H
  go_enter Try.func23, Try.ntmps23
  go_wp2_with (first | ((with_reducible refine gate_callee (f := 46) rfl ?_); refine goesL_ (some 14) rfl rfl Try.func46 (by kernel_rfl) rfl #[.slice A0 l0.length c0] rfl (by (try simp only [List.map_toArray, List.map_cons, List.map_nil]); first | done | rfl | (simp only [List.length_drop, List.length_take]; rfl)) ?_; (with_reducible refine (larchref17_keys.calls k _ _ l0 t520 t521 _ ?side1 ?side2 A3.out).mono ?_); (case side1 => repeat (first | exact HR0.out | (with_reducible refine Kd.C_alloc ?_ _) | (with_reducible refine Kd.C_drewN ?_ _) | (with_reducible refine Kd.C_drew ?_))); (case side2 => exact HC0.out); rintro e w27 ⟨v522, rfl, ho0, hb⟩; refine ⟨_, rfl, ?_⟩; have n0_ := Aside0.mk (Kd.R_lower ho0 (below_size (by repeat (first | (with_reducible first | exact HB.out | apply below_alloc | apply pw_below_drewN | apply below_drew1) | exact HB.out)))); have n1_ := Aside0.mk (below_step (by repeat (first | (with_reducible first | exact HB.out | apply below_alloc | apply pw_below_drewN | apply below_drew1) | exact HB.out)) hb); clear HB; have HO523 := n0_; have HB := n1_; clear n0_ n1_; (try clear hb); (try clear hb2); (try clear hk); (try clear hi); (try clear ho0)))
  go_ret2
  exact ⟨_, by first | rfl | (simp [errW_none, errW_some] <;> rfl) | (simp [*, errW_none, errW_some] <;> rfl), by first | exact Kd.R_nil _ _ _ _ _ | exact Kd.N_nil _ _ _ _ _ | exact Kd.V_nil _ _ _ _ _ | exact Kd.Q_nil _ _ _ _ _ | exact Kd.S_nil _ _ _ _ _, by repeat (first | (with_reducible first | exact HB.out | apply below_alloc | apply pw_below_drewN | apply below_drew1) | exact HB.out)⟩
end Go.Proofs.Ytmmjkebboonnkaa.P
