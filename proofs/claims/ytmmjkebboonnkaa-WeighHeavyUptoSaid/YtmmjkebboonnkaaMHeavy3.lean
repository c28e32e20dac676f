/- P.weighHeavy_holds, part 4 of 22: the contracts of the Go functions that the law calls, its own walk, and its plain law, for every input that the statement speaks of. -/
import Derived.Test.YtmmjkebboonnkaaMHeavy1
import Derived.Test.YtmmjkebboonnkaaMHeavy2
/- F31 -/
namespace Go.Proofs.Ytmmjkebboonnkaa.P
open Go.RowKit Go.Proofs.YtmmjkebboonnkaaW.PrintWords Go.Proofs.YtmmjkebboonnkaaW.PrintLast Go.Proofs.YtmmjkebboonnkaaW.PrintMore
attribute [local go_sem] max2_int min2_int max_two min_two max_three min_three max_four min_four   -- for this text's walks alone
set_option linter.unusedVariables false
set_option linter.unusedSimpArgs false
mutual
def larchref17_Root.j0 : Nat → List (S49) → Bool → Int → Int → Int → Int → Int → Int → Option (Int × Bool)
 | 0, _, _, _, _, _, _, _, _ => none
 | k + 1, x0, x31, x307000, x307001, x307002, x307003, x307004, x307005 => if x31 = true then (some ((-1), false)) else (if 0 ≤ x307004 then (if x307004 < (x0.length : Int) then ((larchref17_sentinel.f ((rd_T49 x0 x307004).f0) ((rd_T49 x0 x307004).f1) ((rd_T49 x0 x307004).f2) ((rd_T49 x0 x307004).f3) ((rd_T49 x0 x307004).f4) ((rd_T49 x0 x307004).f5)).bind fun t311 => (if t311 = true then (some ((-1), true)) else ((larchref17_leaf.f ((rd_T49 x0 x307004).f0) ((rd_T49 x0 x307004).f1) ((rd_T49 x0 x307004).f2) ((rd_T49 x0 x307004).f3) ((rd_T49 x0 x307004).f4) ((rd_T49 x0 x307004).f5)).bind fun t314 => (if t314 = true then (larchref17_Root.j1 k x0 true ((rd_T49 x0 x307004).f0) ((rd_T49 x0 x307004).f1) ((rd_T49 x0 x307004).f2) ((rd_T49 x0 x307004).f3) ((rd_T49 x0 x307004).f4) ((rd_T49 x0 x307004).f5)) else (if ((rd_T49 x0 x307004).f1) = 1 then (if ((rd_T49 x0 x307004).f2) = 1 then (if 0 ≤ ((rd_T49 x0 x307004).f5) then (if ((rd_T49 x0 x307004).f5) < (x0.length : Int) then ((larchref17_sentinel.f ((rd_T49 x0 ((rd_T49 x0 x307004).f5)).f0) ((rd_T49 x0 ((rd_T49 x0 x307004).f5)).f1) ((rd_T49 x0 ((rd_T49 x0 x307004).f5)).f2) ((rd_T49 x0 ((rd_T49 x0 x307004).f5)).f3) ((rd_T49 x0 ((rd_T49 x0 x307004).f5)).f4) ((rd_T49 x0 ((rd_T49 x0 x307004).f5)).f5)).bind fun t316 => (larchref17_Root.j1 k x0 (!t316) ((rd_T49 x0 x307004).f0) ((rd_T49 x0 x307004).f1) ((rd_T49 x0 x307004).f2) ((rd_T49 x0 x307004).f3) ((rd_T49 x0 x307004).f4) ((rd_T49 x0 x307004).f5))) else (none)) else (none)) else (larchref17_Root.j1 k x0 true ((rd_T49 x0 x307004).f0) ((rd_T49 x0 x307004).f1) ((rd_T49 x0 x307004).f2) ((rd_T49 x0 x307004).f3) ((rd_T49 x0 x307004).f4) ((rd_T49 x0 x307004).f5))) else (larchref17_Root.j1 k x0 true ((rd_T49 x0 x307004).f0) ((rd_T49 x0 x307004).f1) ((rd_T49 x0 x307004).f2) ((rd_T49 x0 x307004).f3) ((rd_T49 x0 x307004).f4) ((rd_T49 x0 x307004).f5))))))) else (none)) else (none))
def larchref17_Root.j1 : Nat → List (S49) → Bool → Int → Int → Int → Int → Int → Int → Option (Int × Bool)
 | 0, _, _, _, _, _, _, _, _ => none
 | k + 1, x0, x63, x314000, x314001, x314002, x314003, x314004, x314005 => if x63 = true then (some ((-1), false)) else ((larchref17_Order.f k x0 x314004).bind fun t317 => (larchref17_Root.l0 k x0 t317 0 x314000 x314001 x314002 x314003 x314004 x314005))
def larchref17_Root.l0 : Nat → List (S49) → List Int → Int → Int → Int → Int → Int → Int → Int → Option (Int × Bool)
 | 0, _, _, _, _, _, _, _, _, _ => none
 | k + 1, x0, x6, x7, x314000, x314001, x314002, x314003, x314004, x314005 => if x7 < (x6.length : Int) then (if 0 ≤ x7 then (if 0 ≤ (rd x6 x7) then (if (rd x6 x7) < (x0.length : Int) then (if ((rd_T49 x0 (rd x6 x7)).f1) = 0 then (larchref17_Root.l0 k x0 x6 (wrap64 (x7 + 1)) x314000 x314001 x314002 x314003 x314004 x314005) else (some ((-1), false))) else (none)) else (none)) else (none)) else (some (x314004, true))
end
def larchref17_Root.f (k : Nat) (l0 : List (S49)) : Option (Int × Bool) := if 0 < (l0.length : Int) then ((larchref17_leaf.f ((rd_T49 l0 0).f0) ((rd_T49 l0 0).f1) ((rd_T49 l0 0).f2) ((rd_T49 l0 0).f3) ((rd_T49 l0 0).f4) ((rd_T49 l0 0).f5)).bind fun t307 => (if t307 = true then (larchref17_Root.j0 k l0 true ((rd_T49 l0 0).f0) ((rd_T49 l0 0).f1) ((rd_T49 l0 0).f2) ((rd_T49 l0 0).f3) ((rd_T49 l0 0).f4) ((rd_T49 l0 0).f5)) else (if ((rd_T49 l0 0).f1) = 1 then (if ((rd_T49 l0 0).f2) = 1 then (if 0 ≤ ((rd_T49 l0 0).f5) then (if ((rd_T49 l0 0).f5) < (l0.length : Int) then ((larchref17_sentinel.f ((rd_T49 l0 ((rd_T49 l0 0).f5)).f0) ((rd_T49 l0 ((rd_T49 l0 0).f5)).f1) ((rd_T49 l0 ((rd_T49 l0 0).f5)).f2) ((rd_T49 l0 ((rd_T49 l0 0).f5)).f3) ((rd_T49 l0 ((rd_T49 l0 0).f5)).f4) ((rd_T49 l0 ((rd_T49 l0 0).f5)).f5)).bind fun t309 => (larchref17_Root.j0 k l0 (!t309) ((rd_T49 l0 0).f0) ((rd_T49 l0 0).f1) ((rd_T49 l0 0).f2) ((rd_T49 l0 0).f3) ((rd_T49 l0 0).f4) ((rd_T49 l0 0).f5))) else (none)) else (none)) else (larchref17_Root.j0 k l0 true ((rd_T49 l0 0).f0) ((rd_T49 l0 0).f1) ((rd_T49 l0 0).f2) ((rd_T49 l0 0).f3) ((rd_T49 l0 0).f4) ((rd_T49 l0 0).f5))) else (larchref17_Root.j0 k l0 true ((rd_T49 l0 0).f0) ((rd_T49 l0 0).f1) ((rd_T49 l0 0).f2) ((rd_T49 l0 0).f3) ((rd_T49 l0 0).f4) ((rd_T49 l0 0).f5))))) else (none)
theorem larchref17_Root.mono_l : ∀ k, (∀ y0 y1 y2 y3 y4 y5 y6 y7, LeO (larchref17_Root.j0 k y0 y1 y2 y3 y4 y5 y6 y7) (larchref17_Root.j0 (k + 1) y0 y1 y2 y3 y4 y5 y6 y7)) ∧ (∀ y0 y1 y2 y3 y4 y5 y6 y7, LeO (larchref17_Root.j1 k y0 y1 y2 y3 y4 y5 y6 y7) (larchref17_Root.j1 (k + 1) y0 y1 y2 y3 y4 y5 y6 y7)) ∧ (∀ y0 y1 y2 y3 y4 y5 y6 y7 y8, LeO (larchref17_Root.l0 k y0 y1 y2 y3 y4 y5 y6 y7 y8) (larchref17_Root.l0 (k + 1) y0 y1 y2 y3 y4 y5 y6 y7 y8))
 | 0 => ⟨fun _ _ _ _ _ _ _ _ r h => by simp [larchref17_Root.j0] at h, fun _ _ _ _ _ _ _ _ r h => by simp [larchref17_Root.j1] at h, fun _ _ _ _ _ _ _ _ _ r h => by simp [larchref17_Root.l0] at h⟩
 | k + 1 => by
  obtain ⟨ih0, ih1, ih2⟩ := larchref17_Root.mono_l k
  refine ⟨?_, ?_, ?_⟩
  ·
   intro y0 y1 y2 y3 y4 y5 y6 y7
   unfold larchref17_Root.j0
   repeat' first
   | (with_reducible exact ih0 _ _ _ _ _ _ _ _)
   | (with_reducible exact ih1 _ _ _ _ _ _ _ _)
   | (with_reducible exact ih2 _ _ _ _ _ _ _ _ _)
   | (with_reducible exact larchref17_Order.mono _ _ _)
   | (with_reducible exact LeO.refl _)
   | (with_reducible exact LeO.none _)
   | (with_reducible refine LeO.ite ?_ ?_)
   | (with_reducible refine LeO.bind ?_ (fun _ => ?_))
   | exact ih0 _ _ _ _ _ _ _ _
   | exact ih1 _ _ _ _ _ _ _ _
   | exact ih2 _ _ _ _ _ _ _ _ _
   | exact larchref17_Order.mono _ _ _
   | exact LeO.none _
   | refine LeO.ite ?_ ?_
   | refine LeO.bind ?_ (fun _ => ?_)
  ·
   intro y0 y1 y2 y3 y4 y5 y6 y7
   unfold larchref17_Root.j1
   repeat' first
   | (with_reducible exact ih0 _ _ _ _ _ _ _ _)
   | (with_reducible exact ih1 _ _ _ _ _ _ _ _)
   | (with_reducible exact ih2 _ _ _ _ _ _ _ _ _)
   | (with_reducible exact larchref17_Order.mono _ _ _)
   | (with_reducible exact LeO.refl _)
   | (with_reducible exact LeO.none _)
   | (with_reducible refine LeO.ite ?_ ?_)
   | (with_reducible refine LeO.bind ?_ (fun _ => ?_))
   | exact ih0 _ _ _ _ _ _ _ _
   | exact ih1 _ _ _ _ _ _ _ _
   | exact ih2 _ _ _ _ _ _ _ _ _
   | exact larchref17_Order.mono _ _ _
   | exact LeO.none _
   | refine LeO.ite ?_ ?_
   | refine LeO.bind ?_ (fun _ => ?_)
  ·
   intro y0 y1 y2 y3 y4 y5 y6 y7 y8
   unfold larchref17_Root.l0
   repeat' first
   | (with_reducible exact ih0 _ _ _ _ _ _ _ _)
   | (with_reducible exact ih1 _ _ _ _ _ _ _ _)
   | (with_reducible exact ih2 _ _ _ _ _ _ _ _ _)
   | (with_reducible exact larchref17_Order.mono _ _ _)
   | (with_reducible exact LeO.refl _)
   | (with_reducible exact LeO.none _)
   | (with_reducible refine LeO.ite ?_ ?_)
   | (with_reducible refine LeO.bind ?_ (fun _ => ?_))
   | exact ih0 _ _ _ _ _ _ _ _
   | exact ih1 _ _ _ _ _ _ _ _
   | exact ih2 _ _ _ _ _ _ _ _ _
   | exact larchref17_Order.mono _ _ _
   | exact LeO.none _
   | refine LeO.ite ?_ ?_
   | refine LeO.bind ?_ (fun _ => ?_)
theorem larchref17_Root.mono : ∀ a0 k, LeO (larchref17_Root.f k a0) (larchref17_Root.f (k + 1) a0) := by
 intro a0 k
 obtain ⟨ih0, ih1, ih2⟩ := larchref17_Root.mono_l k
 unfold larchref17_Root.f
 repeat' first
   | (with_reducible exact ih0 _ _ _ _ _ _ _ _)
   | (with_reducible exact ih1 _ _ _ _ _ _ _ _)
   | (with_reducible exact ih2 _ _ _ _ _ _ _ _ _)
   | (with_reducible exact larchref17_Order.mono _ _ _)
   | (with_reducible exact LeO.refl _)
   | (with_reducible exact LeO.none _)
   | (with_reducible refine LeO.ite ?_ ?_)
   | (with_reducible refine LeO.bind ?_ (fun _ => ?_))
   | exact ih0 _ _ _ _ _ _ _ _
   | exact ih1 _ _ _ _ _ _ _ _
   | exact ih2 _ _ _ _ _ _ _ _ _
   | exact larchref17_Order.mono _ _ _
   | exact LeO.none _
   | refine LeO.ite ?_ ?_
   | refine LeO.bind ?_ (fun _ => ?_)
set_option maxHeartbeats 8000000 in
set_option maxRecDepth 100000 in
theorem larchref17_Root.calls (k : Nat) (A0 : Option Addr) (c0 : Nat) (l0 : List (S49)) (r1 : Int) (r2 : Bool) (w : World) (hr0 : Kd.C k49 w A0 l0.length l0) (hc0 : l0.length ≤ c0) (h : larchref17_Root.f k l0 = some (r1, r2)) :
  Calls Try.prog 26 #[.slice A0 l0.length c0] w fun e w' => e = .returned (.tuple #[.int .i64 r1, .bool r2]) ∧ Below w.heap.size w w' := by
 have hu49 := Try.underlying49
 have HR0 := Aside0.mk hr0
 have HC0 := Aside0.mk hc0
 clear hr0 hc0
 have HB := Aside0.mk (Below.refl w.heap.size w)
 have H : (if 0 < (l0.length : Int) then ((larchref17_leaf.f ((rd_T49 l0 0).f0) ((rd_T49 l0 0).f1) ((rd_T49 l0 0).f2) ((rd_T49 l0 0).f3) ((rd_T49 l0 0).f4) ((rd_T49 l0 0).f5)).bind fun t307 => (if t307 = true then (larchref17_Root.j0 k l0 true ((rd_T49 l0 0).f0) ((rd_T49 l0 0).f1) ((rd_T49 l0 0).f2) ((rd_T49 l0 0).f3) ((rd_T49 l0 0).f4) ((rd_T49 l0 0).f5)) else (if ((rd_T49 l0 0).f1) = 1 then (if ((rd_T49 l0 0).f2) = 1 then (if 0 ≤ ((rd_T49 l0 0).f5) then (if ((rd_T49 l0 0).f5) < (l0.length : Int) then ((larchref17_sentinel.f ((rd_T49 l0 ((rd_T49 l0 0).f5)).f0) ((rd_T49 l0 ((rd_T49 l0 0).f5)).f1) ((rd_T49 l0 ((rd_T49 l0 0).f5)).f2) ((rd_T49 l0 ((rd_T49 l0 0).f5)).f3) ((rd_T49 l0 ((rd_T49 l0 0).f5)).f4) ((rd_T49 l0 ((rd_T49 l0 0).f5)).f5)).bind fun t309 => (larchref17_Root.j0 k l0 (!t309) ((rd_T49 l0 0).f0) ((rd_T49 l0 0).f1) ((rd_T49 l0 0).f2) ((rd_T49 l0 0).f3) ((rd_T49 l0 0).f4) ((rd_T49 l0 0).f5))) else (none)) else (none)) else (larchref17_Root.j0 k l0 true ((rd_T49 l0 0).f0) ((rd_T49 l0 0).f1) ((rd_T49 l0 0).f2) ((rd_T49 l0 0).f3) ((rd_T49 l0 0).f4) ((rd_T49 l0 0).f5))) else (larchref17_Root.j0 k l0 true ((rd_T49 l0 0).f0) ((rd_T49 l0 0).f1) ((rd_T49 l0 0).f2) ((rd_T49 l0 0).f3) ((rd_T49 l0 0).f4) ((rd_T49 l0 0).f5))))) else (none)) = some (r1, r2) := h
 clear h
 by_cases c2 : 0 < (l0.length : Int)
 ·
  rw [if_pos c2] at H
  have c2b0 : decide (0 < (l0.length : Int)) = true := decide_eq_true c2
  have c2b1 : decide (0 < l0.length) = true := decide_eq_true (by omega)
  clear c2
  have HC3 := Aside0.mk H
  clear H
  have p305 : 0 ≤ (0 : Int) := (by omega)
  have q305 : 0 < (l0.length : Int) := of_decide_eq_true (by first | (with_reducible assumption) | assumption)
  obtain ⟨ad305, e305, hx305_0, hx305_1, hx305_2, hx305_3, hx305_4, hx305_5⟩ := at_T49 HR0.out 0 p305 q305
  cases e305
  have qi305 : (0 < l0.length) = True := eq_true (by omega)
  (try rw [show ((0 : Int)).toNat = 0 from rfl] at hx305_0)
  (try rw [show 0 * 6 = 0 from rfl] at hx305_0)
  (try rw [Addr.add_zero'] at hx305_0)
  (try rw [show ((0 : Int)).toNat = 0 from rfl] at hx305_1)
  (try rw [show 0 * 6 = 0 from rfl] at hx305_1)
  (try rw [Addr.add_zero'] at hx305_1)
  (try rw [show ((0 : Int)).toNat = 0 from rfl] at hx305_2)
  (try rw [show 0 * 6 = 0 from rfl] at hx305_2)
  (try rw [Addr.add_zero'] at hx305_2)
  (try rw [show ((0 : Int)).toNat = 0 from rfl] at hx305_3)
  (try rw [show 0 * 6 = 0 from rfl] at hx305_3)
  (try rw [Addr.add_zero'] at hx305_3)
  (try rw [show ((0 : Int)).toNat = 0 from rfl] at hx305_4)
  (try rw [show 0 * 6 = 0 from rfl] at hx305_4)
  (try rw [Addr.add_zero'] at hx305_4)
  (try rw [show ((0 : Int)).toNat = 0 from rfl] at hx305_5)
  (try rw [show 0 * 6 = 0 from rfl] at hx305_5)
  (try rw [Addr.add_zero'] at hx305_5)
  replace p305 := eq_true p305
  replace q305 := eq_true q305
  go_enter Try.func26, Try.ntmps26
  go_upto_region 2 with (first | ((with_reducible refine gate_dst (N := 4) rfl ?_); refine box_event ?hg (N := 4) ?hd (cs := #[.int .i64 0, .int .i64 0, .int .i64 0, .int .i64 0, .int .i64 0, .int .i64 0]) (t := 49) ?hr ?_; (case hd => rfl); (case hg => rfl); (case hr => first | (go_simp; done) | (go_simp; rfl)); intro gb306 hg w4 hbox hb; have n0_ := Aside0.mk (below_step (by repeat (first | (with_reducible first | exact HB.out | apply below_alloc | apply pw_below_drewN | apply below_drew1) | exact HB.out)) hb); have n1_ := Aside0.mk (hbox); have n2_ := Aside0.mk ((by rw [hg]; exact (below_size (by repeat (first | (with_reducible first | exact HB.out | apply below_alloc | apply pw_below_drewN | apply below_drew1) | exact HB.out))) : w.heap.size ≤ gb306)); have n3_ := Aside0.mk ((by rw [hg]; exact (below_size (by repeat (first | (with_reducible first | exact HB.out | apply below_alloc | apply pw_below_drewN | apply below_drew1) | exact HB.out))) : w.heap.size ≤ gb306)); clear HB; have HB := n0_; have BK306 := n1_; have GW306 := n2_; have GE306 := n3_; clear n0_ n1_ n2_ n3_; clear hb hbox hg; have hcz5_0 : w4.cell? ⟨gb306, 0, none⟩ = some (.int .i64 0) := (blk_cell BK306.out 0).trans rfl; have hcz5_1 : w4.cell? ⟨gb306, 1, none⟩ = some (.int .i64 0) := (blk_cell BK306.out 1).trans rfl; have hcz5_2 : w4.cell? ⟨gb306, 2, none⟩ = some (.int .i64 0) := (blk_cell BK306.out 2).trans rfl; have hcz5_3 : w4.cell? ⟨gb306, 3, none⟩ = some (.int .i64 0) := (blk_cell BK306.out 3).trans rfl; have hcz5_4 : w4.cell? ⟨gb306, 4, none⟩ = some (.int .i64 0) := (blk_cell BK306.out 4).trans rfl; have hcz5_5 : w4.cell? ⟨gb306, 5, none⟩ = some (.int .i64 0) := (blk_cell BK306.out 5).trans rfl; have hfz5_0 := blk_frozen BK306.out 0; have hfz5_1 := blk_frozen BK306.out 1; have hfz5_2 := blk_frozen BK306.out 2; have hfz5_3 := blk_frozen BK306.out 3; have hfz5_4 := blk_frozen BK306.out 4; have hfz5_5 := blk_frozen BK306.out 5))
  (try simp only [Act.put, List.setIfInBounds_toArray, List.set_cons_zero, List.set_cons_succ])
  go_cut [31] (fun v31 wc => ∃ (kq : Nat) (x31_2 : Bool), v31 = .bool x31_2 ∧ Aside0 (larchref17_Root.j0 kq l0 x31_2 ((rd_T49 l0 0).f0) ((rd_T49 l0 0).f1) ((rd_T49 l0 0).f2) ((rd_T49 l0 0).f3) ((rd_T49 l0 0).f4) ((rd_T49 l0 0).f5) = some (r1, r2)) ∧ Aside0 (kq ≤ k) ∧ Aside0 (wc.heap[gb306]? = some (.cells #[.int .i64 ((rd_T49 l0 0).f0), .int .i64 ((rd_T49 l0 0).f1), .int .i64 ((rd_T49 l0 0).f2), .int .i64 ((rd_T49 l0 0).f3), .int .i64 ((rd_T49 l0 0).f4), .int .i64 ((rd_T49 l0 0).f5)] 49 (0, 0))) ∧ Aside0 (Below w.heap.size w wc))
  case first =>
   have H := HC3.out
   clear HC3
   replace H := Option.bind_eq_some_iff.mp H
   obtain ⟨t307, A60, H⟩ := H
   replace H : (if t307 = true then (larchref17_Root.j0 k l0 true ((rd_T49 l0 0).f0) ((rd_T49 l0 0).f1) ((rd_T49 l0 0).f2) ((rd_T49 l0 0).f3) ((rd_T49 l0 0).f4) ((rd_T49 l0 0).f5)) else (if ((rd_T49 l0 0).f1) = 1 then (if ((rd_T49 l0 0).f2) = 1 then (if 0 ≤ ((rd_T49 l0 0).f5) then (if ((rd_T49 l0 0).f5) < (l0.length : Int) then ((larchref17_sentinel.f ((rd_T49 l0 ((rd_T49 l0 0).f5)).f0) ((rd_T49 l0 ((rd_T49 l0 0).f5)).f1) ((rd_T49 l0 ((rd_T49 l0 0).f5)).f2) ((rd_T49 l0 ((rd_T49 l0 0).f5)).f3) ((rd_T49 l0 ((rd_T49 l0 0).f5)).f4) ((rd_T49 l0 ((rd_T49 l0 0).f5)).f5)).bind fun t309 => (larchref17_Root.j0 k l0 (!t309) ((rd_T49 l0 0).f0) ((rd_T49 l0 0).f1) ((rd_T49 l0 0).f2) ((rd_T49 l0 0).f3) ((rd_T49 l0 0).f4) ((rd_T49 l0 0).f5))) else (none)) else (none)) else (larchref17_Root.j0 k l0 true ((rd_T49 l0 0).f0) ((rd_T49 l0 0).f1) ((rd_T49 l0 0).f2) ((rd_T49 l0 0).f3) ((rd_T49 l0 0).f4) ((rd_T49 l0 0).f5))) else (larchref17_Root.j0 k l0 true ((rd_T49 l0 0).f0) ((rd_T49 l0 0).f1) ((rd_T49 l0 0).f2) ((rd_T49 l0 0).f3) ((rd_T49 l0 0).f4) ((rd_T49 l0 0).f5)))) = some (r1, r2) := H
   have A6 := Aside0.mk A60
   clear A60
   by_cases c7 : t307 = true
   ·
    subst c7
    have H1 : (larchref17_Root.j0 k l0 true ((rd_T49 l0 0).f0) ((rd_T49 l0 0).f1) ((rd_T49 l0 0).f2) ((rd_T49 l0 0).f3) ((rd_T49 l0 0).f4) ((rd_T49 l0 0).f5)) = some (r1, r2) := by rw [if_pos rfl] at H; exact H
    clear H
    have H := H1
    clear H1
    have H' := Aside0.mk H
    clear H
    have hcz8_0 : w4.cell? ⟨gb306, 0, none⟩ = some (.int .i64 0) := (blk_cell BK306.out 0).trans rfl
    have hcz8_1 : w4.cell? ⟨gb306, 1, none⟩ = some (.int .i64 0) := (blk_cell BK306.out 1).trans rfl
    have hcz8_2 : w4.cell? ⟨gb306, 2, none⟩ = some (.int .i64 0) := (blk_cell BK306.out 2).trans rfl
    have hcz8_3 : w4.cell? ⟨gb306, 3, none⟩ = some (.int .i64 0) := (blk_cell BK306.out 3).trans rfl
    have hcz8_4 : w4.cell? ⟨gb306, 4, none⟩ = some (.int .i64 0) := (blk_cell BK306.out 4).trans rfl
    have hcz8_5 : w4.cell? ⟨gb306, 5, none⟩ = some (.int .i64 0) := (blk_cell BK306.out 5).trans rfl
    have hfz8_0 := blk_frozen BK306.out 0
    have hfz8_1 := blk_frozen BK306.out 1
    have hfz8_2 := blk_frozen BK306.out 2
    have hfz8_3 := blk_frozen BK306.out 3
    have hfz8_4 := blk_frozen BK306.out 4
    have hfz8_5 := blk_frozen BK306.out 5
    go_wp2_with (first | ((with_reducible refine gate_callee (f := 53) rfl ?_); refine goesL_ (some 12) rfl rfl Try.func53 (by kernel_rfl) rfl #[.agg #[.int .i64 ((rd_T49 l0 0).f0), .int .i64 ((rd_T49 l0 0).f1), .int .i64 ((rd_T49 l0 0).f2), .int .i64 ((rd_T49 l0 0).f3), .int .i64 ((rd_T49 l0 0).f4), .int .i64 ((rd_T49 l0 0).f5)]] rfl (by (try simp only [List.map_toArray, List.map_cons, List.map_nil]); first | done | rfl | (simp only [List.length_drop, List.length_take]; rfl)) ?_; (with_reducible refine (larchref17_leaf.calls ((rd_T49 l0 0).f0) ((rd_T49 l0 0).f1) ((rd_T49 l0 0).f2) ((rd_T49 l0 0).f3) ((rd_T49 l0 0).f4) ((rd_T49 l0 0).f5) true _ A6.out).mono ?_); rintro e w9 ⟨rfl, hb⟩; refine ⟨_, rfl, ?_⟩; have n0_ := Aside0.mk (blk_below (g := gb306) (o := .cells #[.int .i64 ((rd_T49 l0 0).f0), .int .i64 ((rd_T49 l0 0).f1), .int .i64 ((rd_T49 l0 0).f2), .int .i64 ((rd_T49 l0 0).f3), .int .i64 ((rd_T49 l0 0).f4), .int .i64 ((rd_T49 l0 0).f5)] 49 (0, 0)) (by (with_reducible repeat (first | refine blk_drewN ?_ _ | refine blk_drew ?_ | refine blk_alloc ?_ _)); refine blk_put (cs := #[.int .i64 ((rd_T49 l0 0).f0), .int .i64 ((rd_T49 l0 0).f1), .int .i64 ((rd_T49 l0 0).f2), .int .i64 ((rd_T49 l0 0).f3), .int .i64 ((rd_T49 l0 0).f4), .int .i64 0]) ?_ 5 _ rfl; (with_reducible repeat (first | refine blk_drewN ?_ _ | refine blk_drew ?_ | refine blk_alloc ?_ _)); refine blk_put (cs := #[.int .i64 ((rd_T49 l0 0).f0), .int .i64 ((rd_T49 l0 0).f1), .int .i64 ((rd_T49 l0 0).f2), .int .i64 ((rd_T49 l0 0).f3), .int .i64 0, .int .i64 0]) ?_ 4 _ rfl; (with_reducible repeat (first | refine blk_drewN ?_ _ | refine blk_drew ?_ | refine blk_alloc ?_ _)); refine blk_put (cs := #[.int .i64 ((rd_T49 l0 0).f0), .int .i64 ((rd_T49 l0 0).f1), .int .i64 ((rd_T49 l0 0).f2), .int .i64 0, .int .i64 0, .int .i64 0]) ?_ 3 _ rfl; (with_reducible repeat (first | refine blk_drewN ?_ _ | refine blk_drew ?_ | refine blk_alloc ?_ _)); refine blk_put (cs := #[.int .i64 ((rd_T49 l0 0).f0), .int .i64 ((rd_T49 l0 0).f1), .int .i64 0, .int .i64 0, .int .i64 0, .int .i64 0]) ?_ 2 _ rfl; (with_reducible repeat (first | refine blk_drewN ?_ _ | refine blk_drew ?_ | refine blk_alloc ?_ _)); refine blk_put (cs := #[.int .i64 ((rd_T49 l0 0).f0), .int .i64 0, .int .i64 0, .int .i64 0, .int .i64 0, .int .i64 0]) ?_ 1 _ rfl; (with_reducible repeat (first | refine blk_drewN ?_ _ | refine blk_drew ?_ | refine blk_alloc ?_ _)); refine blk_put (cs := #[.int .i64 0, .int .i64 0, .int .i64 0, .int .i64 0, .int .i64 0, .int .i64 0]) ?_ 0 _ rfl; (with_reducible repeat (first | refine blk_drewN ?_ _ | refine blk_drew ?_ | refine blk_alloc ?_ _)); exact BK306.out) hb); have n1_ := Aside0.mk (below_step (by repeat (first | (with_reducible first | exact HB.out | apply below_alloc | apply pw_below_drewN | apply below_drew1 | refine below_set ?_ GE306.out) | exact HB.out)) hb); clear BK306; clear HB; have BK306 := n0_; have HB := n1_; clear n0_ n1_; (try clear hb); (try clear hb2); (try clear hk); (try clear hi)))
    go_meet
    case rel => exact ⟨_, (true), (by first | rfl | (simp; done) | (simp [*]; done)), H', ⟨by first | omega | exact Nat.le_refl _⟩, ⟨by (with_reducible repeat (first | refine blk_drewN ?_ _ | refine blk_drew ?_ | refine blk_alloc ?_ _)); exact BK306.out⟩, ⟨by repeat (first | (with_reducible first | exact HB.out | apply below_alloc | apply pw_below_drewN | apply below_drew1 | refine below_set ?_ GE306.out) | exact HB.out)⟩⟩
   ·
    replace c7 := Bool.eq_false_iff.mpr c7
    subst c7
    have H1 : (if ((rd_T49 l0 0).f1) = 1 then (if ((rd_T49 l0 0).f2) = 1 then (if 0 ≤ ((rd_T49 l0 0).f5) then (if ((rd_T49 l0 0).f5) < (l0.length : Int) then ((larchref17_sentinel.f ((rd_T49 l0 ((rd_T49 l0 0).f5)).f0) ((rd_T49 l0 ((rd_T49 l0 0).f5)).f1) ((rd_T49 l0 ((rd_T49 l0 0).f5)).f2) ((rd_T49 l0 ((rd_T49 l0 0).f5)).f3) ((rd_T49 l0 ((rd_T49 l0 0).f5)).f4) ((rd_T49 l0 ((rd_T49 l0 0).f5)).f5)).bind fun t309 => (larchref17_Root.j0 k l0 (!t309) ((rd_T49 l0 0).f0) ((rd_T49 l0 0).f1) ((rd_T49 l0 0).f2) ((rd_T49 l0 0).f3) ((rd_T49 l0 0).f4) ((rd_T49 l0 0).f5))) else (none)) else (none)) else (larchref17_Root.j0 k l0 true ((rd_T49 l0 0).f0) ((rd_T49 l0 0).f1) ((rd_T49 l0 0).f2) ((rd_T49 l0 0).f3) ((rd_T49 l0 0).f4) ((rd_T49 l0 0).f5))) else (larchref17_Root.j0 k l0 true ((rd_T49 l0 0).f0) ((rd_T49 l0 0).f1) ((rd_T49 l0 0).f2) ((rd_T49 l0 0).f3) ((rd_T49 l0 0).f4) ((rd_T49 l0 0).f5))) = some (r1, r2) := by rw [if_neg (show ¬ (false = true) by decide)] at H; exact H
    clear H
    have H := H1
    clear H1
    by_cases c10 : ((rd_T49 l0 0).f1) = 1
    ·
     rw [if_pos c10] at H
     have c10b0 : (((rd_T49 l0 0).f1) == 1) = true := beq_iff_eq.mpr c10
     have c10b1 : (((rd_T49 l0 0).f1) != 1) = false := bne_eq_false_iff_eq.mpr c10
     clear c10
     (first | rw [c10b0] | (simp only [i64_w, i32_w]; rw [c10b0]) | skip)
     by_cases c11 : ((rd_T49 l0 0).f2) = 1
     ·
      rw [if_pos c11] at H
      have c11b0 : (((rd_T49 l0 0).f2) == 1) = true := beq_iff_eq.mpr c11
      have c11b1 : (((rd_T49 l0 0).f2) != 1) = false := bne_eq_false_iff_eq.mpr c11
      clear c11
      by_cases c12 : 0 ≤ ((rd_T49 l0 0).f5)
      ·
       rw [if_pos c12] at H
       have c12b0 : decide (0 ≤ ((rd_T49 l0 0).f5)) = true := decide_eq_true c12
       clear c12
       by_cases c13 : ((rd_T49 l0 0).f5) < (l0.length : Int)
       ·
        rw [if_pos c13] at H
        have c13b0 : decide (((rd_T49 l0 0).f5) < (l0.length : Int)) = true := decide_eq_true c13
        clear c13
        replace H := Option.bind_eq_some_iff.mp H
        obtain ⟨t309, A140, H⟩ := H
        replace H : (larchref17_Root.j0 k l0 (!t309) ((rd_T49 l0 0).f0) ((rd_T49 l0 0).f1) ((rd_T49 l0 0).f2) ((rd_T49 l0 0).f3) ((rd_T49 l0 0).f4) ((rd_T49 l0 0).f5)) = some (r1, r2) := H
        have A14 := Aside0.mk A140
        clear A140
        have H' := Aside0.mk H
        clear H
        have hcz15_0 : w4.cell? ⟨gb306, 0, none⟩ = some (.int .i64 0) := (blk_cell BK306.out 0).trans rfl
        have hcz15_1 : w4.cell? ⟨gb306, 1, none⟩ = some (.int .i64 0) := (blk_cell BK306.out 1).trans rfl
        have hcz15_2 : w4.cell? ⟨gb306, 2, none⟩ = some (.int .i64 0) := (blk_cell BK306.out 2).trans rfl
        have hcz15_3 : w4.cell? ⟨gb306, 3, none⟩ = some (.int .i64 0) := (blk_cell BK306.out 3).trans rfl
        have hcz15_4 : w4.cell? ⟨gb306, 4, none⟩ = some (.int .i64 0) := (blk_cell BK306.out 4).trans rfl
        have hcz15_5 : w4.cell? ⟨gb306, 5, none⟩ = some (.int .i64 0) := (blk_cell BK306.out 5).trans rfl
        have hfz15_0 := blk_frozen BK306.out 0
        have hfz15_1 := blk_frozen BK306.out 1
        have hfz15_2 := blk_frozen BK306.out 2
        have hfz15_3 := blk_frozen BK306.out 3
        have hfz15_4 := blk_frozen BK306.out 4
        have hfz15_5 := blk_frozen BK306.out 5
        go_wp2_with (first | ((with_reducible refine gate_callee (f := 53) rfl ?_); refine goesL_ (some 12) rfl rfl Try.func53 (by kernel_rfl) rfl #[.agg #[.int .i64 ((rd_T49 l0 0).f0), .int .i64 ((rd_T49 l0 0).f1), .int .i64 ((rd_T49 l0 0).f2), .int .i64 ((rd_T49 l0 0).f3), .int .i64 ((rd_T49 l0 0).f4), .int .i64 ((rd_T49 l0 0).f5)]] rfl (by (try simp only [List.map_toArray, List.map_cons, List.map_nil]); first | done | rfl | (simp only [List.length_drop, List.length_take]; rfl)) ?_; (with_reducible refine (larchref17_leaf.calls ((rd_T49 l0 0).f0) ((rd_T49 l0 0).f1) ((rd_T49 l0 0).f2) ((rd_T49 l0 0).f3) ((rd_T49 l0 0).f4) ((rd_T49 l0 0).f5) false _ A6.out).mono ?_); rintro e w16 ⟨rfl, hb⟩; refine ⟨_, rfl, ?_⟩; have n0_ := Aside0.mk (blk_below (g := gb306) (o := .cells #[.int .i64 ((rd_T49 l0 0).f0), .int .i64 ((rd_T49 l0 0).f1), .int .i64 ((rd_T49 l0 0).f2), .int .i64 ((rd_T49 l0 0).f3), .int .i64 ((rd_T49 l0 0).f4), .int .i64 ((rd_T49 l0 0).f5)] 49 (0, 0)) (by (with_reducible repeat (first | refine blk_drewN ?_ _ | refine blk_drew ?_ | refine blk_alloc ?_ _)); refine blk_put (cs := #[.int .i64 ((rd_T49 l0 0).f0), .int .i64 ((rd_T49 l0 0).f1), .int .i64 ((rd_T49 l0 0).f2), .int .i64 ((rd_T49 l0 0).f3), .int .i64 ((rd_T49 l0 0).f4), .int .i64 0]) ?_ 5 _ rfl; (with_reducible repeat (first | refine blk_drewN ?_ _ | refine blk_drew ?_ | refine blk_alloc ?_ _)); refine blk_put (cs := #[.int .i64 ((rd_T49 l0 0).f0), .int .i64 ((rd_T49 l0 0).f1), .int .i64 ((rd_T49 l0 0).f2), .int .i64 ((rd_T49 l0 0).f3), .int .i64 0, .int .i64 0]) ?_ 4 _ rfl; (with_reducible repeat (first | refine blk_drewN ?_ _ | refine blk_drew ?_ | refine blk_alloc ?_ _)); refine blk_put (cs := #[.int .i64 ((rd_T49 l0 0).f0), .int .i64 ((rd_T49 l0 0).f1), .int .i64 ((rd_T49 l0 0).f2), .int .i64 0, .int .i64 0, .int .i64 0]) ?_ 3 _ rfl; (with_reducible repeat (first | refine blk_drewN ?_ _ | refine blk_drew ?_ | refine blk_alloc ?_ _)); refine blk_put (cs := #[.int .i64 ((rd_T49 l0 0).f0), .int .i64 ((rd_T49 l0 0).f1), .int .i64 0, .int .i64 0, .int .i64 0, .int .i64 0]) ?_ 2 _ rfl; (with_reducible repeat (first | refine blk_drewN ?_ _ | refine blk_drew ?_ | refine blk_alloc ?_ _)); refine blk_put (cs := #[.int .i64 ((rd_T49 l0 0).f0), .int .i64 0, .int .i64 0, .int .i64 0, .int .i64 0, .int .i64 0]) ?_ 1 _ rfl; (with_reducible repeat (first | refine blk_drewN ?_ _ | refine blk_drew ?_ | refine blk_alloc ?_ _)); refine blk_put (cs := #[.int .i64 0, .int .i64 0, .int .i64 0, .int .i64 0, .int .i64 0, .int .i64 0]) ?_ 0 _ rfl; (with_reducible repeat (first | refine blk_drewN ?_ _ | refine blk_drew ?_ | refine blk_alloc ?_ _)); exact BK306.out) hb); have n1_ := Aside0.mk (below_step (by repeat (first | (with_reducible first | exact HB.out | apply below_alloc | apply pw_below_drewN | apply below_drew1 | refine below_set ?_ GE306.out) | exact HB.out)) hb); clear BK306; clear HB; have BK306 := n0_; have HB := n1_; clear n0_ n1_; (try clear hb); (try clear hb2); (try clear hk); (try clear hi); have hcz17_0 : w16.cell? ⟨gb306, 0, none⟩ = some (.int .i64 ((rd_T49 l0 0).f0)) := (blk_cell BK306.out 0).trans rfl; have hcz17_1 : w16.cell? ⟨gb306, 1, none⟩ = some (.int .i64 ((rd_T49 l0 0).f1)) := (blk_cell BK306.out 1).trans rfl; have hcz17_2 : w16.cell? ⟨gb306, 2, none⟩ = some (.int .i64 ((rd_T49 l0 0).f2)) := (blk_cell BK306.out 2).trans rfl; have hcz17_3 : w16.cell? ⟨gb306, 3, none⟩ = some (.int .i64 ((rd_T49 l0 0).f3)) := (blk_cell BK306.out 3).trans rfl; have hcz17_4 : w16.cell? ⟨gb306, 4, none⟩ = some (.int .i64 ((rd_T49 l0 0).f4)) := (blk_cell BK306.out 4).trans rfl; have hcz17_5 : w16.cell? ⟨gb306, 5, none⟩ = some (.int .i64 ((rd_T49 l0 0).f5)) := (blk_cell BK306.out 5).trans rfl; have hfz17_0 := blk_frozen BK306.out 0; have hfz17_1 := blk_frozen BK306.out 1; have hfz17_2 := blk_frozen BK306.out 2; have hfz17_3 := blk_frozen BK306.out 3; have hfz17_4 := blk_frozen BK306.out 4; have hfz17_5 := blk_frozen BK306.out 5; have p308 : 0 ≤ (((rd_T49 l0 0).f5) : Int) := of_decide_eq_true (by first | (with_reducible assumption) | assumption); have q308 : ((rd_T49 l0 0).f5) < (l0.length : Int) := of_decide_eq_true (by first | (with_reducible assumption) | assumption); obtain ⟨ad308, e308, hx308_0, hx308_1, hx308_2, hx308_3, hx308_4, hx308_5⟩ := at_T49 HR0.out ((rd_T49 l0 0).f5) p308 q308; obtain rfl : ad305 = ad308 := (by injection e308); replace hx308_0 := (HB.out.cell (World.block_lt_of_cell? w _ hx308_0)).trans hx308_0; replace hx308_1 := (HB.out.cell (World.block_lt_of_cell? w _ hx308_1)).trans hx308_1; replace hx308_2 := (HB.out.cell (World.block_lt_of_cell? w _ hx308_2)).trans hx308_2; replace hx308_3 := (HB.out.cell (World.block_lt_of_cell? w _ hx308_3)).trans hx308_3; replace hx308_4 := (HB.out.cell (World.block_lt_of_cell? w _ hx308_4)).trans hx308_4; replace hx308_5 := (HB.out.cell (World.block_lt_of_cell? w _ hx308_5)).trans hx308_5; replace p308 := eq_true p308; replace q308 := eq_true q308) | (go_at_call 54; (with_reducible refine (larchref17_sentinel.calls ((rd_T49 l0 ((rd_T49 l0 0).f5)).f0) ((rd_T49 l0 ((rd_T49 l0 0).f5)).f1) ((rd_T49 l0 ((rd_T49 l0 0).f5)).f2) ((rd_T49 l0 ((rd_T49 l0 0).f5)).f3) ((rd_T49 l0 ((rd_T49 l0 0).f5)).f4) ((rd_T49 l0 ((rd_T49 l0 0).f5)).f5) t309 _ A14.out).mono ?_); rintro e w18 ⟨rfl, hb⟩; have n0_ := Aside0.mk (blk_below (g := gb306) (o := .cells #[.int .i64 ((rd_T49 l0 0).f0), .int .i64 ((rd_T49 l0 0).f1), .int .i64 ((rd_T49 l0 0).f2), .int .i64 ((rd_T49 l0 0).f3), .int .i64 ((rd_T49 l0 0).f4), .int .i64 ((rd_T49 l0 0).f5)] 49 (0, 0)) (by (with_reducible repeat (first | refine blk_drewN ?_ _ | refine blk_drew ?_ | refine blk_alloc ?_ _)); exact BK306.out) hb); have n1_ := Aside0.mk (below_step (by repeat (first | (with_reducible first | exact HB.out | apply below_alloc | apply pw_below_drewN | apply below_drew1 | refine below_set ?_ GE306.out) | exact HB.out)) hb); clear BK306; clear HB; have BK306 := n0_; have HB := n1_; clear n0_ n1_; (try clear hb); (try clear hb2); (try clear hk); (try clear hi)))
        go_meet
        case rel => exact ⟨_, (!t309), (by first | rfl | (simp; done) | (simp [*]; done)), H', ⟨by first | omega | exact Nat.le_refl _⟩, ⟨by (with_reducible repeat (first | refine blk_drewN ?_ _ | refine blk_drew ?_ | refine blk_alloc ?_ _)); exact BK306.out⟩, ⟨by repeat (first | (with_reducible first | exact HB.out | apply below_alloc | apply pw_below_drewN | apply below_drew1 | refine below_set ?_ GE306.out) | exact HB.out)⟩⟩
       ·
        rw [if_neg c13] at H
        exact absurd H (by simp)
      ·
       rw [if_neg c12] at H
       exact absurd H (by simp)
     ·
      rw [if_neg c11] at H
      have c11b0 : (((rd_T49 l0 0).f2) == 1) = false := beq_eq_false_iff_ne.mpr c11
      have c11b1 : (((rd_T49 l0 0).f2) != 1) = true := bne_iff_ne.mpr c11
      have H' := Aside0.mk H
      clear H
      have hcz19_0 : w4.cell? ⟨gb306, 0, none⟩ = some (.int .i64 0) := (blk_cell BK306.out 0).trans rfl
      have hcz19_1 : w4.cell? ⟨gb306, 1, none⟩ = some (.int .i64 0) := (blk_cell BK306.out 1).trans rfl
      have hcz19_2 : w4.cell? ⟨gb306, 2, none⟩ = some (.int .i64 0) := (blk_cell BK306.out 2).trans rfl
      have hcz19_3 : w4.cell? ⟨gb306, 3, none⟩ = some (.int .i64 0) := (blk_cell BK306.out 3).trans rfl
      have hcz19_4 : w4.cell? ⟨gb306, 4, none⟩ = some (.int .i64 0) := (blk_cell BK306.out 4).trans rfl
      have hcz19_5 : w4.cell? ⟨gb306, 5, none⟩ = some (.int .i64 0) := (blk_cell BK306.out 5).trans rfl
      have hfz19_0 := blk_frozen BK306.out 0
      have hfz19_1 := blk_frozen BK306.out 1
      have hfz19_2 := blk_frozen BK306.out 2
      have hfz19_3 := blk_frozen BK306.out 3
      have hfz19_4 := blk_frozen BK306.out 4
      have hfz19_5 := blk_frozen BK306.out 5
      go_wp2_with (first | ((with_reducible refine gate_callee (f := 53) rfl ?_); refine goesL_ (some 12) rfl rfl Try.func53 (by kernel_rfl) rfl #[.agg #[.int .i64 ((rd_T49 l0 0).f0), .int .i64 ((rd_T49 l0 0).f1), .int .i64 ((rd_T49 l0 0).f2), .int .i64 ((rd_T49 l0 0).f3), .int .i64 ((rd_T49 l0 0).f4), .int .i64 ((rd_T49 l0 0).f5)]] rfl (by (try simp only [List.map_toArray, List.map_cons, List.map_nil]); first | done | rfl | (simp only [List.length_drop, List.length_take]; rfl)) ?_; (with_reducible refine (larchref17_leaf.calls ((rd_T49 l0 0).f0) ((rd_T49 l0 0).f1) ((rd_T49 l0 0).f2) ((rd_T49 l0 0).f3) ((rd_T49 l0 0).f4) ((rd_T49 l0 0).f5) false _ A6.out).mono ?_); rintro e w20 ⟨rfl, hb⟩; refine ⟨_, rfl, ?_⟩; have n0_ := Aside0.mk (blk_below (g := gb306) (o := .cells #[.int .i64 ((rd_T49 l0 0).f0), .int .i64 ((rd_T49 l0 0).f1), .int .i64 ((rd_T49 l0 0).f2), .int .i64 ((rd_T49 l0 0).f3), .int .i64 ((rd_T49 l0 0).f4), .int .i64 ((rd_T49 l0 0).f5)] 49 (0, 0)) (by (with_reducible repeat (first | refine blk_drewN ?_ _ | refine blk_drew ?_ | refine blk_alloc ?_ _)); refine blk_put (cs := #[.int .i64 ((rd_T49 l0 0).f0), .int .i64 ((rd_T49 l0 0).f1), .int .i64 ((rd_T49 l0 0).f2), .int .i64 ((rd_T49 l0 0).f3), .int .i64 ((rd_T49 l0 0).f4), .int .i64 0]) ?_ 5 _ rfl; (with_reducible repeat (first | refine blk_drewN ?_ _ | refine blk_drew ?_ | refine blk_alloc ?_ _)); refine blk_put (cs := #[.int .i64 ((rd_T49 l0 0).f0), .int .i64 ((rd_T49 l0 0).f1), .int .i64 ((rd_T49 l0 0).f2), .int .i64 ((rd_T49 l0 0).f3), .int .i64 0, .int .i64 0]) ?_ 4 _ rfl; (with_reducible repeat (first | refine blk_drewN ?_ _ | refine blk_drew ?_ | refine blk_alloc ?_ _)); refine blk_put (cs := #[.int .i64 ((rd_T49 l0 0).f0), .int .i64 ((rd_T49 l0 0).f1), .int .i64 ((rd_T49 l0 0).f2), .int .i64 0, .int .i64 0, .int .i64 0]) ?_ 3 _ rfl; (with_reducible repeat (first | refine blk_drewN ?_ _ | refine blk_drew ?_ | refine blk_alloc ?_ _)); refine blk_put (cs := #[.int .i64 ((rd_T49 l0 0).f0), .int .i64 ((rd_T49 l0 0).f1), .int .i64 0, .int .i64 0, .int .i64 0, .int .i64 0]) ?_ 2 _ rfl; (with_reducible repeat (first | refine blk_drewN ?_ _ | refine blk_drew ?_ | refine blk_alloc ?_ _)); refine blk_put (cs := #[.int .i64 ((rd_T49 l0 0).f0), .int .i64 0, .int .i64 0, .int .i64 0, .int .i64 0, .int .i64 0]) ?_ 1 _ rfl; (with_reducible repeat (first | refine blk_drewN ?_ _ | refine blk_drew ?_ | refine blk_alloc ?_ _)); refine blk_put (cs := #[.int .i64 0, .int .i64 0, .int .i64 0, .int .i64 0, .int .i64 0, .int .i64 0]) ?_ 0 _ rfl; (with_reducible repeat (first | refine blk_drewN ?_ _ | refine blk_drew ?_ | refine blk_alloc ?_ _)); exact BK306.out) hb); have n1_ := Aside0.mk (below_step (by repeat (first | (with_reducible first | exact HB.out | apply below_alloc | apply pw_below_drewN | apply below_drew1 | refine below_set ?_ GE306.out) | exact HB.out)) hb); clear BK306; clear HB; have BK306 := n0_; have HB := n1_; clear n0_ n1_; (try clear hb); (try clear hb2); (try clear hk); (try clear hi); have hcz21_0 : w20.cell? ⟨gb306, 0, none⟩ = some (.int .i64 ((rd_T49 l0 0).f0)) := (blk_cell BK306.out 0).trans rfl; have hcz21_1 : w20.cell? ⟨gb306, 1, none⟩ = some (.int .i64 ((rd_T49 l0 0).f1)) := (blk_cell BK306.out 1).trans rfl; have hcz21_2 : w20.cell? ⟨gb306, 2, none⟩ = some (.int .i64 ((rd_T49 l0 0).f2)) := (blk_cell BK306.out 2).trans rfl; have hcz21_3 : w20.cell? ⟨gb306, 3, none⟩ = some (.int .i64 ((rd_T49 l0 0).f3)) := (blk_cell BK306.out 3).trans rfl; have hcz21_4 : w20.cell? ⟨gb306, 4, none⟩ = some (.int .i64 ((rd_T49 l0 0).f4)) := (blk_cell BK306.out 4).trans rfl; have hcz21_5 : w20.cell? ⟨gb306, 5, none⟩ = some (.int .i64 ((rd_T49 l0 0).f5)) := (blk_cell BK306.out 5).trans rfl; have hfz21_0 := blk_frozen BK306.out 0; have hfz21_1 := blk_frozen BK306.out 1; have hfz21_2 := blk_frozen BK306.out 2; have hfz21_3 := blk_frozen BK306.out 3; have hfz21_4 := blk_frozen BK306.out 4; have hfz21_5 := blk_frozen BK306.out 5))
      go_meet
      case rel => exact ⟨_, (true), (by first | rfl | (simp; done) | (simp [*]; done)), H', ⟨by first | omega | exact Nat.le_refl _⟩, ⟨by (with_reducible repeat (first | refine blk_drewN ?_ _ | refine blk_drew ?_ | refine blk_alloc ?_ _)); exact BK306.out⟩, ⟨by repeat (first | (with_reducible first | exact HB.out | apply below_alloc | apply pw_below_drewN | apply below_drew1 | refine below_set ?_ GE306.out) | exact HB.out)⟩⟩
    ·
     rw [if_neg c10] at H
     have c10b0 : (((rd_T49 l0 0).f1) == 1) = false := beq_eq_false_iff_ne.mpr c10
     have c10b1 : (((rd_T49 l0 0).f1) != 1) = true := bne_iff_ne.mpr c10
     (first | rw [c10b0] | (simp only [i64_w, i32_w]; rw [c10b0]) | skip)
     have H' := Aside0.mk H
     clear H
     have hcz22_0 : w4.cell? ⟨gb306, 0, none⟩ = some (.int .i64 0) := (blk_cell BK306.out 0).trans rfl
     have hcz22_1 : w4.cell? ⟨gb306, 1, none⟩ = some (.int .i64 0) := (blk_cell BK306.out 1).trans rfl
     have hcz22_2 : w4.cell? ⟨gb306, 2, none⟩ = some (.int .i64 0) := (blk_cell BK306.out 2).trans rfl
     have hcz22_3 : w4.cell? ⟨gb306, 3, none⟩ = some (.int .i64 0) := (blk_cell BK306.out 3).trans rfl
     have hcz22_4 : w4.cell? ⟨gb306, 4, none⟩ = some (.int .i64 0) := (blk_cell BK306.out 4).trans rfl
     have hcz22_5 : w4.cell? ⟨gb306, 5, none⟩ = some (.int .i64 0) := (blk_cell BK306.out 5).trans rfl
     have hfz22_0 := blk_frozen BK306.out 0
     have hfz22_1 := blk_frozen BK306.out 1
     have hfz22_2 := blk_frozen BK306.out 2
     have hfz22_3 := blk_frozen BK306.out 3
     have hfz22_4 := blk_frozen BK306.out 4
     have hfz22_5 := blk_frozen BK306.out 5
     go_wp2_with (first | ((with_reducible refine gate_callee (f := 53) rfl ?_); refine goesL_ (some 12) rfl rfl Try.func53 (by kernel_rfl) rfl #[.agg #[.int .i64 ((rd_T49 l0 0).f0), .int .i64 ((rd_T49 l0 0).f1), .int .i64 ((rd_T49 l0 0).f2), .int .i64 ((rd_T49 l0 0).f3), .int .i64 ((rd_T49 l0 0).f4), .int .i64 ((rd_T49 l0 0).f5)]] rfl (by (try simp only [List.map_toArray, List.map_cons, List.map_nil]); first | done | rfl | (simp only [List.length_drop, List.length_take]; rfl)) ?_; (with_reducible refine (larchref17_leaf.calls ((rd_T49 l0 0).f0) ((rd_T49 l0 0).f1) ((rd_T49 l0 0).f2) ((rd_T49 l0 0).f3) ((rd_T49 l0 0).f4) ((rd_T49 l0 0).f5) false _ A6.out).mono ?_); rintro e w23 ⟨rfl, hb⟩; refine ⟨_, rfl, ?_⟩; have n0_ := Aside0.mk (blk_below (g := gb306) (o := .cells #[.int .i64 ((rd_T49 l0 0).f0), .int .i64 ((rd_T49 l0 0).f1), .int .i64 ((rd_T49 l0 0).f2), .int .i64 ((rd_T49 l0 0).f3), .int .i64 ((rd_T49 l0 0).f4), .int .i64 ((rd_T49 l0 0).f5)] 49 (0, 0)) (by (with_reducible repeat (first | refine blk_drewN ?_ _ | refine blk_drew ?_ | refine blk_alloc ?_ _)); refine blk_put (cs := #[.int .i64 ((rd_T49 l0 0).f0), .int .i64 ((rd_T49 l0 0).f1), .int .i64 ((rd_T49 l0 0).f2), .int .i64 ((rd_T49 l0 0).f3), .int .i64 ((rd_T49 l0 0).f4), .int .i64 0]) ?_ 5 _ rfl; (with_reducible repeat (first | refine blk_drewN ?_ _ | refine blk_drew ?_ | refine blk_alloc ?_ _)); refine blk_put (cs := #[.int .i64 ((rd_T49 l0 0).f0), .int .i64 ((rd_T49 l0 0).f1), .int .i64 ((rd_T49 l0 0).f2), .int .i64 ((rd_T49 l0 0).f3), .int .i64 0, .int .i64 0]) ?_ 4 _ rfl; (with_reducible repeat (first | refine blk_drewN ?_ _ | refine blk_drew ?_ | refine blk_alloc ?_ _)); refine blk_put (cs := #[.int .i64 ((rd_T49 l0 0).f0), .int .i64 ((rd_T49 l0 0).f1), .int .i64 ((rd_T49 l0 0).f2), .int .i64 0, .int .i64 0, .int .i64 0]) ?_ 3 _ rfl; (with_reducible repeat (first | refine blk_drewN ?_ _ | refine blk_drew ?_ | refine blk_alloc ?_ _)); refine blk_put (cs := #[.int .i64 ((rd_T49 l0 0).f0), .int .i64 ((rd_T49 l0 0).f1), .int .i64 0, .int .i64 0, .int .i64 0, .int .i64 0]) ?_ 2 _ rfl; (with_reducible repeat (first | refine blk_drewN ?_ _ | refine blk_drew ?_ | refine blk_alloc ?_ _)); refine blk_put (cs := #[.int .i64 ((rd_T49 l0 0).f0), .int .i64 0, .int .i64 0, .int .i64 0, .int .i64 0, .int .i64 0]) ?_ 1 _ rfl; (with_reducible repeat (first | refine blk_drewN ?_ _ | refine blk_drew ?_ | refine blk_alloc ?_ _)); refine blk_put (cs := #[.int .i64 0, .int .i64 0, .int .i64 0, .int .i64 0, .int .i64 0, .int .i64 0]) ?_ 0 _ rfl; (with_reducible repeat (first | refine blk_drewN ?_ _ | refine blk_drew ?_ | refine blk_alloc ?_ _)); exact BK306.out) hb); have n1_ := Aside0.mk (below_step (by repeat (first | (with_reducible first | exact HB.out | apply below_alloc | apply pw_below_drewN | apply below_drew1 | refine below_set ?_ GE306.out) | exact HB.out)) hb); clear BK306; clear HB; have BK306 := n0_; have HB := n1_; clear n0_ n1_; (try clear hb); (try clear hb2); (try clear hk); (try clear hi); have hcz24_0 : w23.cell? ⟨gb306, 0, none⟩ = some (.int .i64 ((rd_T49 l0 0).f0)) := (blk_cell BK306.out 0).trans rfl; have hcz24_1 : w23.cell? ⟨gb306, 1, none⟩ = some (.int .i64 ((rd_T49 l0 0).f1)) := (blk_cell BK306.out 1).trans rfl; have hcz24_2 : w23.cell? ⟨gb306, 2, none⟩ = some (.int .i64 ((rd_T49 l0 0).f2)) := (blk_cell BK306.out 2).trans rfl; have hcz24_3 : w23.cell? ⟨gb306, 3, none⟩ = some (.int .i64 ((rd_T49 l0 0).f3)) := (blk_cell BK306.out 3).trans rfl; have hcz24_4 : w23.cell? ⟨gb306, 4, none⟩ = some (.int .i64 ((rd_T49 l0 0).f4)) := (blk_cell BK306.out 4).trans rfl; have hcz24_5 : w23.cell? ⟨gb306, 5, none⟩ = some (.int .i64 ((rd_T49 l0 0).f5)) := (blk_cell BK306.out 5).trans rfl; have hfz24_0 := blk_frozen BK306.out 0; have hfz24_1 := blk_frozen BK306.out 1; have hfz24_2 := blk_frozen BK306.out 2; have hfz24_3 := blk_frozen BK306.out 3; have hfz24_4 := blk_frozen BK306.out 4; have hfz24_5 := blk_frozen BK306.out 5))
     go_meet
     case rel => exact ⟨_, (true), (by first | rfl | (simp; done) | (simp [*]; done)), H', ⟨by first | omega | exact Nat.le_refl _⟩, ⟨by (with_reducible repeat (first | refine blk_drewN ?_ _ | refine blk_drew ?_ | refine blk_alloc ?_ _)); exact BK306.out⟩, ⟨by repeat (first | (with_reducible first | exact HB.out | apply below_alloc | apply pw_below_drewN | apply below_drew1 | refine below_set ?_ GE306.out) | exact HB.out)⟩⟩
  case rest =>
   clear HC3
   try clear c1
   try clear c2
   try clear c2b0
   try clear c2b1
   try clear p2
   try clear p3
   try clear q3
   try clear hx3
   try clear qi3
   try clear c5
   try clear c7
   try clear c10
   try clear c10b0
   try clear c10b1
   try clear c11
   try clear c11b0
   try clear c11b1
   try clear c12
   try clear c12b0
   try clear c13
   try clear c13b0
   try clear hcz15_0
   try clear hcz15_1
   try clear hcz15_2
   try clear hcz15_3
   try clear hcz15_4
   try clear hcz15_5
   try clear hcz17_0
   try clear hcz17_1
   try clear hcz17_2
   try clear hcz17_3
   try clear hcz17_4
   try clear hcz17_5
   try clear hcz19_0
   try clear hcz19_1
   try clear hcz19_2
   try clear hcz19_3
   try clear hcz19_4
   try clear hcz19_5
   try clear hcz21_0
   try clear hcz21_1
   try clear hcz21_2
   try clear hcz21_3
   try clear hcz21_4
   try clear hcz21_5
   try clear hcz22_0
   try clear hcz22_1
   try clear hcz22_2
   try clear hcz22_3
   try clear hcz22_4
   try clear hcz22_5
   try clear hcz24_0
   try clear hcz24_1
   try clear hcz24_2
   try clear hcz24_3
   try clear hcz24_4
   try clear hcz24_5
   try clear hcz5_0
   try clear hcz5_1
   try clear hcz5_2
   try clear hcz5_3
   try clear hcz5_4
   try clear hcz5_5
   try clear hcz8_0
   try clear hcz8_1
   try clear hcz8_2
   try clear hcz8_3
   try clear hcz8_4
   try clear hcz8_5
   try clear hfz15_0
   try clear hfz15_1
   try clear hfz15_2
   try clear hfz15_3
   try clear hfz15_4
   try clear hfz15_5
   try clear hfz17_0
   try clear hfz17_1
   try clear hfz17_2
   try clear hfz17_3
   try clear hfz17_4
   try clear hfz17_5
   try clear hfz19_0
   try clear hfz19_1
   try clear hfz19_2
   try clear hfz19_3
   try clear hfz19_4
   try clear hfz19_5
   try clear hfz21_0
   try clear hfz21_1
   try clear hfz21_2
   try clear hfz21_3
   try clear hfz21_4
   try clear hfz21_5
   try clear hfz22_0
   try clear hfz22_1
   try clear hfz22_2
   try clear hfz22_3
   try clear hfz22_4
   try clear hfz22_5
   try clear hfz24_0
   try clear hfz24_1
   try clear hfz24_2
   try clear hfz24_3
   try clear hfz24_4
   try clear hfz24_5
   try clear hfz5_0
   try clear hfz5_1
   try clear hfz5_2
   try clear hfz5_3
   try clear hfz5_4
   try clear hfz5_5
   try clear hfz8_0
   try clear hfz8_1
   try clear hfz8_2
   try clear hfz8_3
   try clear hfz8_4
   try clear hfz8_5
   try clear hx305_0
   try clear hx305_1
   try clear hx305_2
   try clear hx305_3
   try clear hx305_4
   try clear hx305_5
   try clear hx308_0
   try clear hx308_1
   try clear hx308_2
   try clear hx308_3
   try clear hx308_4
   try clear hx308_5
   try clear p305
   try clear p308
   try clear q305
   try clear q308
   obtain ⟨kq, x31_2, rfl, HA, HJ2, BK306, HB⟩ := hcut
   cases kq with
   | zero => exact absurd HA.out (by simp [larchref17_Root.j0])
   | succ kj2 =>
    have H := HA.out
    clear HA
    simp only [larchref17_Root.j0] at H
    by_cases c25 : x31_2 = true
    ·
     subst c25
     have H1 : (some ((-1), false)) = some (r1, r2) := by rw [if_pos rfl] at H; exact H
     clear H
     have H := H1
     clear H1
     simp only [Option.some.injEq, Prod.mk.injEq] at H
     obtain ⟨rfl, rfl⟩ := H
     go_wp2
     go_ret2
     exact ⟨by first | rfl | (simp [errW_none, errW_some] <;> rfl) | (simp [*, errW_none, errW_some] <;> rfl), by repeat (first | (with_reducible first | exact HB.out | apply below_alloc | apply pw_below_drewN | apply below_drew1 | refine below_set ?_ GE306.out) | exact HB.out)⟩
    ·
     replace c25 := Bool.eq_false_iff.mpr c25
     subst c25
     have H1 : (if 0 ≤ ((rd_T49 l0 0).f4) then (if ((rd_T49 l0 0).f4) < (l0.length : Int) then ((larchref17_sentinel.f ((rd_T49 l0 ((rd_T49 l0 0).f4)).f0) ((rd_T49 l0 ((rd_T49 l0 0).f4)).f1) ((rd_T49 l0 ((rd_T49 l0 0).f4)).f2) ((rd_T49 l0 ((rd_T49 l0 0).f4)).f3) ((rd_T49 l0 ((rd_T49 l0 0).f4)).f4) ((rd_T49 l0 ((rd_T49 l0 0).f4)).f5)).bind fun t311 => (if t311 = true then (some ((-1), true)) else ((larchref17_leaf.f ((rd_T49 l0 ((rd_T49 l0 0).f4)).f0) ((rd_T49 l0 ((rd_T49 l0 0).f4)).f1) ((rd_T49 l0 ((rd_T49 l0 0).f4)).f2) ((rd_T49 l0 ((rd_T49 l0 0).f4)).f3) ((rd_T49 l0 ((rd_T49 l0 0).f4)).f4) ((rd_T49 l0 ((rd_T49 l0 0).f4)).f5)).bind fun t314 => (if t314 = true then (larchref17_Root.j1 kj2 l0 true ((rd_T49 l0 ((rd_T49 l0 0).f4)).f0) ((rd_T49 l0 ((rd_T49 l0 0).f4)).f1) ((rd_T49 l0 ((rd_T49 l0 0).f4)).f2) ((rd_T49 l0 ((rd_T49 l0 0).f4)).f3) ((rd_T49 l0 ((rd_T49 l0 0).f4)).f4) ((rd_T49 l0 ((rd_T49 l0 0).f4)).f5)) else (if ((rd_T49 l0 ((rd_T49 l0 0).f4)).f1) = 1 then (if ((rd_T49 l0 ((rd_T49 l0 0).f4)).f2) = 1 then (if 0 ≤ ((rd_T49 l0 ((rd_T49 l0 0).f4)).f5) then (if ((rd_T49 l0 ((rd_T49 l0 0).f4)).f5) < (l0.length : Int) then ((larchref17_sentinel.f ((rd_T49 l0 ((rd_T49 l0 ((rd_T49 l0 0).f4)).f5)).f0) ((rd_T49 l0 ((rd_T49 l0 ((rd_T49 l0 0).f4)).f5)).f1) ((rd_T49 l0 ((rd_T49 l0 ((rd_T49 l0 0).f4)).f5)).f2) ((rd_T49 l0 ((rd_T49 l0 ((rd_T49 l0 0).f4)).f5)).f3) ((rd_T49 l0 ((rd_T49 l0 ((rd_T49 l0 0).f4)).f5)).f4) ((rd_T49 l0 ((rd_T49 l0 ((rd_T49 l0 0).f4)).f5)).f5)).bind fun t316 => (larchref17_Root.j1 kj2 l0 (!t316) ((rd_T49 l0 ((rd_T49 l0 0).f4)).f0) ((rd_T49 l0 ((rd_T49 l0 0).f4)).f1) ((rd_T49 l0 ((rd_T49 l0 0).f4)).f2) ((rd_T49 l0 ((rd_T49 l0 0).f4)).f3) ((rd_T49 l0 ((rd_T49 l0 0).f4)).f4) ((rd_T49 l0 ((rd_T49 l0 0).f4)).f5))) else (none)) else (none)) else (larchref17_Root.j1 kj2 l0 true ((rd_T49 l0 ((rd_T49 l0 0).f4)).f0) ((rd_T49 l0 ((rd_T49 l0 0).f4)).f1) ((rd_T49 l0 ((rd_T49 l0 0).f4)).f2) ((rd_T49 l0 ((rd_T49 l0 0).f4)).f3) ((rd_T49 l0 ((rd_T49 l0 0).f4)).f4) ((rd_T49 l0 ((rd_T49 l0 0).f4)).f5))) else (larchref17_Root.j1 kj2 l0 true ((rd_T49 l0 ((rd_T49 l0 0).f4)).f0) ((rd_T49 l0 ((rd_T49 l0 0).f4)).f1) ((rd_T49 l0 ((rd_T49 l0 0).f4)).f2) ((rd_T49 l0 ((rd_T49 l0 0).f4)).f3) ((rd_T49 l0 ((rd_T49 l0 0).f4)).f4) ((rd_T49 l0 ((rd_T49 l0 0).f4)).f5))))))) else (none)) else (none)) = some (r1, r2) := by rw [if_neg (show ¬ (false = true) by decide)] at H; exact H
     clear H
     have H := H1
     clear H1
     by_cases c26 : 0 ≤ ((rd_T49 l0 0).f4)
     ·
      rw [if_pos c26] at H
      have c26b0 : decide (0 ≤ ((rd_T49 l0 0).f4)) = true := decide_eq_true c26
      clear c26
      by_cases c27 : ((rd_T49 l0 0).f4) < (l0.length : Int)
      ·
       rw [if_pos c27] at H
       have c27b0 : decide (((rd_T49 l0 0).f4) < (l0.length : Int)) = true := decide_eq_true c27
       clear c27
       replace H := Option.bind_eq_some_iff.mp H
       obtain ⟨t311, A280, H⟩ := H
       replace H : (if t311 = true then (some ((-1), true)) else ((larchref17_leaf.f ((rd_T49 l0 ((rd_T49 l0 0).f4)).f0) ((rd_T49 l0 ((rd_T49 l0 0).f4)).f1) ((rd_T49 l0 ((rd_T49 l0 0).f4)).f2) ((rd_T49 l0 ((rd_T49 l0 0).f4)).f3) ((rd_T49 l0 ((rd_T49 l0 0).f4)).f4) ((rd_T49 l0 ((rd_T49 l0 0).f4)).f5)).bind fun t314 => (if t314 = true then (larchref17_Root.j1 kj2 l0 true ((rd_T49 l0 ((rd_T49 l0 0).f4)).f0) ((rd_T49 l0 ((rd_T49 l0 0).f4)).f1) ((rd_T49 l0 ((rd_T49 l0 0).f4)).f2) ((rd_T49 l0 ((rd_T49 l0 0).f4)).f3) ((rd_T49 l0 ((rd_T49 l0 0).f4)).f4) ((rd_T49 l0 ((rd_T49 l0 0).f4)).f5)) else (if ((rd_T49 l0 ((rd_T49 l0 0).f4)).f1) = 1 then (if ((rd_T49 l0 ((rd_T49 l0 0).f4)).f2) = 1 then (if 0 ≤ ((rd_T49 l0 ((rd_T49 l0 0).f4)).f5) then (if ((rd_T49 l0 ((rd_T49 l0 0).f4)).f5) < (l0.length : Int) then ((larchref17_sentinel.f ((rd_T49 l0 ((rd_T49 l0 ((rd_T49 l0 0).f4)).f5)).f0) ((rd_T49 l0 ((rd_T49 l0 ((rd_T49 l0 0).f4)).f5)).f1) ((rd_T49 l0 ((rd_T49 l0 ((rd_T49 l0 0).f4)).f5)).f2) ((rd_T49 l0 ((rd_T49 l0 ((rd_T49 l0 0).f4)).f5)).f3) ((rd_T49 l0 ((rd_T49 l0 ((rd_T49 l0 0).f4)).f5)).f4) ((rd_T49 l0 ((rd_T49 l0 ((rd_T49 l0 0).f4)).f5)).f5)).bind fun t316 => (larchref17_Root.j1 kj2 l0 (!t316) ((rd_T49 l0 ((rd_T49 l0 0).f4)).f0) ((rd_T49 l0 ((rd_T49 l0 0).f4)).f1) ((rd_T49 l0 ((rd_T49 l0 0).f4)).f2) ((rd_T49 l0 ((rd_T49 l0 0).f4)).f3) ((rd_T49 l0 ((rd_T49 l0 0).f4)).f4) ((rd_T49 l0 ((rd_T49 l0 0).f4)).f5))) else (none)) else (none)) else (larchref17_Root.j1 kj2 l0 true ((rd_T49 l0 ((rd_T49 l0 0).f4)).f0) ((rd_T49 l0 ((rd_T49 l0 0).f4)).f1) ((rd_T49 l0 ((rd_T49 l0 0).f4)).f2) ((rd_T49 l0 ((rd_T49 l0 0).f4)).f3) ((rd_T49 l0 ((rd_T49 l0 0).f4)).f4) ((rd_T49 l0 ((rd_T49 l0 0).f4)).f5))) else (larchref17_Root.j1 kj2 l0 true ((rd_T49 l0 ((rd_T49 l0 0).f4)).f0) ((rd_T49 l0 ((rd_T49 l0 0).f4)).f1) ((rd_T49 l0 ((rd_T49 l0 0).f4)).f2) ((rd_T49 l0 ((rd_T49 l0 0).f4)).f3) ((rd_T49 l0 ((rd_T49 l0 0).f4)).f4) ((rd_T49 l0 ((rd_T49 l0 0).f4)).f5)))))) = some (r1, r2) := H
       have A28 := Aside0.mk A280
       clear A280
       by_cases c29 : t311 = true
       ·
        subst c29
        have H1 : (some ((-1), true)) = some (r1, r2) := by rw [if_pos rfl] at H; exact H
        clear H
        have H := H1
        clear H1
        simp only [Option.some.injEq, Prod.mk.injEq] at H
        obtain ⟨rfl, rfl⟩ := H
        have hcz30_0 : wc.cell? ⟨gb306, 0, none⟩ = some (.int .i64 ((rd_T49 l0 0).f0)) := (blk_cell BK306.out 0).trans rfl
        have hcz30_1 : wc.cell? ⟨gb306, 1, none⟩ = some (.int .i64 ((rd_T49 l0 0).f1)) := (blk_cell BK306.out 1).trans rfl
        have hcz30_2 : wc.cell? ⟨gb306, 2, none⟩ = some (.int .i64 ((rd_T49 l0 0).f2)) := (blk_cell BK306.out 2).trans rfl
        have hcz30_3 : wc.cell? ⟨gb306, 3, none⟩ = some (.int .i64 ((rd_T49 l0 0).f3)) := (blk_cell BK306.out 3).trans rfl
        have hcz30_4 : wc.cell? ⟨gb306, 4, none⟩ = some (.int .i64 ((rd_T49 l0 0).f4)) := (blk_cell BK306.out 4).trans rfl
        have hcz30_5 : wc.cell? ⟨gb306, 5, none⟩ = some (.int .i64 ((rd_T49 l0 0).f5)) := (blk_cell BK306.out 5).trans rfl
        have hfz30_0 := blk_frozen BK306.out 0
        have hfz30_1 := blk_frozen BK306.out 1
        have hfz30_2 := blk_frozen BK306.out 2
        have hfz30_3 := blk_frozen BK306.out 3
        have hfz30_4 := blk_frozen BK306.out 4
        have hfz30_5 := blk_frozen BK306.out 5
        have p310 : 0 ≤ (((rd_T49 l0 0).f4) : Int) := of_decide_eq_true (by first | (with_reducible assumption) | assumption)
        have q310 : ((rd_T49 l0 0).f4) < (l0.length : Int) := of_decide_eq_true (by first | (with_reducible assumption) | assumption)
        obtain ⟨ad310, e310, hx310_0, hx310_1, hx310_2, hx310_3, hx310_4, hx310_5⟩ := at_T49 HR0.out ((rd_T49 l0 0).f4) p310 q310
        obtain rfl : ad305 = ad310 := (by injection e310)
        replace hx310_0 := (HB.out.cell (World.block_lt_of_cell? w _ hx310_0)).trans hx310_0
        replace hx310_1 := (HB.out.cell (World.block_lt_of_cell? w _ hx310_1)).trans hx310_1
        replace hx310_2 := (HB.out.cell (World.block_lt_of_cell? w _ hx310_2)).trans hx310_2
        replace hx310_3 := (HB.out.cell (World.block_lt_of_cell? w _ hx310_3)).trans hx310_3
        replace hx310_4 := (HB.out.cell (World.block_lt_of_cell? w _ hx310_4)).trans hx310_4
        replace hx310_5 := (HB.out.cell (World.block_lt_of_cell? w _ hx310_5)).trans hx310_5
        replace p310 := eq_true p310
        replace q310 := eq_true q310
        go_wp2_with (first | ((with_reducible refine gate_callee (f := 54) rfl ?_); refine goesL_ (some 37) rfl rfl Try.func54 (by kernel_rfl) rfl #[.agg #[.int .i64 ((rd_T49 l0 ((rd_T49 l0 0).f4)).f0), .int .i64 ((rd_T49 l0 ((rd_T49 l0 0).f4)).f1), .int .i64 ((rd_T49 l0 ((rd_T49 l0 0).f4)).f2), .int .i64 ((rd_T49 l0 ((rd_T49 l0 0).f4)).f3), .int .i64 ((rd_T49 l0 ((rd_T49 l0 0).f4)).f4), .int .i64 ((rd_T49 l0 ((rd_T49 l0 0).f4)).f5)]] rfl (by (try simp only [List.map_toArray, List.map_cons, List.map_nil]); first | done | rfl | (simp only [List.length_drop, List.length_take]; rfl)) ?_; (with_reducible refine (larchref17_sentinel.calls ((rd_T49 l0 ((rd_T49 l0 0).f4)).f0) ((rd_T49 l0 ((rd_T49 l0 0).f4)).f1) ((rd_T49 l0 ((rd_T49 l0 0).f4)).f2) ((rd_T49 l0 ((rd_T49 l0 0).f4)).f3) ((rd_T49 l0 ((rd_T49 l0 0).f4)).f4) ((rd_T49 l0 ((rd_T49 l0 0).f4)).f5) true _ A28.out).mono ?_); rintro e w31 ⟨rfl, hb⟩; refine ⟨_, rfl, ?_⟩; have n0_ := Aside0.mk (blk_below (g := gb306) (o := .cells #[.int .i64 ((rd_T49 l0 0).f0), .int .i64 ((rd_T49 l0 0).f1), .int .i64 ((rd_T49 l0 0).f2), .int .i64 ((rd_T49 l0 0).f3), .int .i64 ((rd_T49 l0 0).f4), .int .i64 ((rd_T49 l0 0).f5)] 49 (0, 0)) (by (with_reducible repeat (first | refine blk_drewN ?_ _ | refine blk_drew ?_ | refine blk_alloc ?_ _)); exact BK306.out) hb); have n1_ := Aside0.mk (below_step (by repeat (first | (with_reducible first | exact HB.out | apply below_alloc | apply pw_below_drewN | apply below_drew1 | refine below_set ?_ GE306.out) | exact HB.out)) hb); clear BK306; clear HB; have BK306 := n0_; have HB := n1_; clear n0_ n1_; (try clear hb); (try clear hb2); (try clear hk); (try clear hi)))
        go_ret2
        exact ⟨by first | rfl | (simp [errW_none, errW_some] <;> rfl) | (simp [*, errW_none, errW_some] <;> rfl), by repeat (first | (with_reducible first | exact HB.out | apply below_alloc | apply pw_below_drewN | apply below_drew1 | refine below_set ?_ GE306.out) | exact HB.out)⟩
       ·
        replace c29 := Bool.eq_false_iff.mpr c29
        subst c29
        have H1 : ((larchref17_leaf.f ((rd_T49 l0 ((rd_T49 l0 0).f4)).f0) ((rd_T49 l0 ((rd_T49 l0 0).f4)).f1) ((rd_T49 l0 ((rd_T49 l0 0).f4)).f2) ((rd_T49 l0 ((rd_T49 l0 0).f4)).f3) ((rd_T49 l0 ((rd_T49 l0 0).f4)).f4) ((rd_T49 l0 ((rd_T49 l0 0).f4)).f5)).bind fun t314 => (if t314 = true then (larchref17_Root.j1 kj2 l0 true ((rd_T49 l0 ((rd_T49 l0 0).f4)).f0) ((rd_T49 l0 ((rd_T49 l0 0).f4)).f1) ((rd_T49 l0 ((rd_T49 l0 0).f4)).f2) ((rd_T49 l0 ((rd_T49 l0 0).f4)).f3) ((rd_T49 l0 ((rd_T49 l0 0).f4)).f4) ((rd_T49 l0 ((rd_T49 l0 0).f4)).f5)) else (if ((rd_T49 l0 ((rd_T49 l0 0).f4)).f1) = 1 then (if ((rd_T49 l0 ((rd_T49 l0 0).f4)).f2) = 1 then (if 0 ≤ ((rd_T49 l0 ((rd_T49 l0 0).f4)).f5) then (if ((rd_T49 l0 ((rd_T49 l0 0).f4)).f5) < (l0.length : Int) then ((larchref17_sentinel.f ((rd_T49 l0 ((rd_T49 l0 ((rd_T49 l0 0).f4)).f5)).f0) ((rd_T49 l0 ((rd_T49 l0 ((rd_T49 l0 0).f4)).f5)).f1) ((rd_T49 l0 ((rd_T49 l0 ((rd_T49 l0 0).f4)).f5)).f2) ((rd_T49 l0 ((rd_T49 l0 ((rd_T49 l0 0).f4)).f5)).f3) ((rd_T49 l0 ((rd_T49 l0 ((rd_T49 l0 0).f4)).f5)).f4) ((rd_T49 l0 ((rd_T49 l0 ((rd_T49 l0 0).f4)).f5)).f5)).bind fun t316 => (larchref17_Root.j1 kj2 l0 (!t316) ((rd_T49 l0 ((rd_T49 l0 0).f4)).f0) ((rd_T49 l0 ((rd_T49 l0 0).f4)).f1) ((rd_T49 l0 ((rd_T49 l0 0).f4)).f2) ((rd_T49 l0 ((rd_T49 l0 0).f4)).f3) ((rd_T49 l0 ((rd_T49 l0 0).f4)).f4) ((rd_T49 l0 ((rd_T49 l0 0).f4)).f5))) else (none)) else (none)) else (larchref17_Root.j1 kj2 l0 true ((rd_T49 l0 ((rd_T49 l0 0).f4)).f0) ((rd_T49 l0 ((rd_T49 l0 0).f4)).f1) ((rd_T49 l0 ((rd_T49 l0 0).f4)).f2) ((rd_T49 l0 ((rd_T49 l0 0).f4)).f3) ((rd_T49 l0 ((rd_T49 l0 0).f4)).f4) ((rd_T49 l0 ((rd_T49 l0 0).f4)).f5))) else (larchref17_Root.j1 kj2 l0 true ((rd_T49 l0 ((rd_T49 l0 0).f4)).f0) ((rd_T49 l0 ((rd_T49 l0 0).f4)).f1) ((rd_T49 l0 ((rd_T49 l0 0).f4)).f2) ((rd_T49 l0 ((rd_T49 l0 0).f4)).f3) ((rd_T49 l0 ((rd_T49 l0 0).f4)).f4) ((rd_T49 l0 ((rd_T49 l0 0).f4)).f5))))) = some (r1, r2) := by rw [if_neg (show ¬ (false = true) by decide)] at H; exact H
        clear H
        have H := H1
        clear H1
        have HC32 := Aside0.mk H
        clear H
        have hcz33_0 : wc.cell? ⟨gb306, 0, none⟩ = some (.int .i64 ((rd_T49 l0 0).f0)) := (blk_cell BK306.out 0).trans rfl
        have hcz33_1 : wc.cell? ⟨gb306, 1, none⟩ = some (.int .i64 ((rd_T49 l0 0).f1)) := (blk_cell BK306.out 1).trans rfl
        have hcz33_2 : wc.cell? ⟨gb306, 2, none⟩ = some (.int .i64 ((rd_T49 l0 0).f2)) := (blk_cell BK306.out 2).trans rfl
        have hcz33_3 : wc.cell? ⟨gb306, 3, none⟩ = some (.int .i64 ((rd_T49 l0 0).f3)) := (blk_cell BK306.out 3).trans rfl
        have hcz33_4 : wc.cell? ⟨gb306, 4, none⟩ = some (.int .i64 ((rd_T49 l0 0).f4)) := (blk_cell BK306.out 4).trans rfl
        have hcz33_5 : wc.cell? ⟨gb306, 5, none⟩ = some (.int .i64 ((rd_T49 l0 0).f5)) := (blk_cell BK306.out 5).trans rfl
        have hfz33_0 := blk_frozen BK306.out 0
        have hfz33_1 := blk_frozen BK306.out 1
        have hfz33_2 := blk_frozen BK306.out 2
        have hfz33_3 := blk_frozen BK306.out 3
        have hfz33_4 := blk_frozen BK306.out 4
        have hfz33_5 := blk_frozen BK306.out 5
        have p310 : 0 ≤ (((rd_T49 l0 0).f4) : Int) := of_decide_eq_true (by first | (with_reducible assumption) | assumption)
        have q310 : ((rd_T49 l0 0).f4) < (l0.length : Int) := of_decide_eq_true (by first | (with_reducible assumption) | assumption)
        obtain ⟨ad310, e310, hx310_0, hx310_1, hx310_2, hx310_3, hx310_4, hx310_5⟩ := at_T49 HR0.out ((rd_T49 l0 0).f4) p310 q310
        obtain rfl : ad305 = ad310 := (by injection e310)
        replace hx310_0 := (HB.out.cell (World.block_lt_of_cell? w _ hx310_0)).trans hx310_0
        replace hx310_1 := (HB.out.cell (World.block_lt_of_cell? w _ hx310_1)).trans hx310_1
        replace hx310_2 := (HB.out.cell (World.block_lt_of_cell? w _ hx310_2)).trans hx310_2
        replace hx310_3 := (HB.out.cell (World.block_lt_of_cell? w _ hx310_3)).trans hx310_3
        replace hx310_4 := (HB.out.cell (World.block_lt_of_cell? w _ hx310_4)).trans hx310_4
        replace hx310_5 := (HB.out.cell (World.block_lt_of_cell? w _ hx310_5)).trans hx310_5
        replace p310 := eq_true p310
        replace q310 := eq_true q310
        go_upto_region 7 with (first | ((with_reducible refine gate_callee (f := 54) rfl ?_); refine goesL_ (some 37) rfl rfl Try.func54 (by kernel_rfl) rfl #[.agg #[.int .i64 ((rd_T49 l0 ((rd_T49 l0 0).f4)).f0), .int .i64 ((rd_T49 l0 ((rd_T49 l0 0).f4)).f1), .int .i64 ((rd_T49 l0 ((rd_T49 l0 0).f4)).f2), .int .i64 ((rd_T49 l0 ((rd_T49 l0 0).f4)).f3), .int .i64 ((rd_T49 l0 ((rd_T49 l0 0).f4)).f4), .int .i64 ((rd_T49 l0 ((rd_T49 l0 0).f4)).f5)]] rfl (by (try simp only [List.map_toArray, List.map_cons, List.map_nil]); first | done | rfl | (simp only [List.length_drop, List.length_take]; rfl)) ?_; (with_reducible refine (larchref17_sentinel.calls ((rd_T49 l0 ((rd_T49 l0 0).f4)).f0) ((rd_T49 l0 ((rd_T49 l0 0).f4)).f1) ((rd_T49 l0 ((rd_T49 l0 0).f4)).f2) ((rd_T49 l0 ((rd_T49 l0 0).f4)).f3) ((rd_T49 l0 ((rd_T49 l0 0).f4)).f4) ((rd_T49 l0 ((rd_T49 l0 0).f4)).f5) false _ A28.out).mono ?_); rintro e w34 ⟨rfl, hb⟩; refine ⟨_, rfl, ?_⟩; have n0_ := Aside0.mk (blk_below (g := gb306) (o := .cells #[.int .i64 ((rd_T49 l0 0).f0), .int .i64 ((rd_T49 l0 0).f1), .int .i64 ((rd_T49 l0 0).f2), .int .i64 ((rd_T49 l0 0).f3), .int .i64 ((rd_T49 l0 0).f4), .int .i64 ((rd_T49 l0 0).f5)] 49 (0, 0)) (by (with_reducible repeat (first | refine blk_drewN ?_ _ | refine blk_drew ?_ | refine blk_alloc ?_ _)); exact BK306.out) hb); have n1_ := Aside0.mk (below_step (by repeat (first | (with_reducible first | exact HB.out | apply below_alloc | apply pw_below_drewN | apply below_drew1 | refine below_set ?_ GE306.out) | exact HB.out)) hb); clear BK306; clear HB; have BK306 := n0_; have HB := n1_; clear n0_ n1_; (try clear hb); (try clear hb2); (try clear hk); (try clear hi); have hcz35_0 : w34.cell? ⟨gb306, 0, none⟩ = some (.int .i64 ((rd_T49 l0 0).f0)) := (blk_cell BK306.out 0).trans rfl; have hcz35_1 : w34.cell? ⟨gb306, 1, none⟩ = some (.int .i64 ((rd_T49 l0 0).f1)) := (blk_cell BK306.out 1).trans rfl; have hcz35_2 : w34.cell? ⟨gb306, 2, none⟩ = some (.int .i64 ((rd_T49 l0 0).f2)) := (blk_cell BK306.out 2).trans rfl; have hcz35_3 : w34.cell? ⟨gb306, 3, none⟩ = some (.int .i64 ((rd_T49 l0 0).f3)) := (blk_cell BK306.out 3).trans rfl; have hcz35_4 : w34.cell? ⟨gb306, 4, none⟩ = some (.int .i64 ((rd_T49 l0 0).f4)) := (blk_cell BK306.out 4).trans rfl; have hcz35_5 : w34.cell? ⟨gb306, 5, none⟩ = some (.int .i64 ((rd_T49 l0 0).f5)) := (blk_cell BK306.out 5).trans rfl; have hfz35_0 := blk_frozen BK306.out 0; have hfz35_1 := blk_frozen BK306.out 1; have hfz35_2 := blk_frozen BK306.out 2; have hfz35_3 := blk_frozen BK306.out 3; have hfz35_4 := blk_frozen BK306.out 4; have hfz35_5 := blk_frozen BK306.out 5; have p312 : 0 ≤ (((rd_T49 l0 0).f4) : Int) := of_decide_eq_true (by first | (with_reducible assumption) | assumption); have q312 : ((rd_T49 l0 0).f4) < (l0.length : Int) := of_decide_eq_true (by first | (with_reducible assumption) | assumption); obtain ⟨ad312, e312, hx312_0, hx312_1, hx312_2, hx312_3, hx312_4, hx312_5⟩ := at_T49 HR0.out ((rd_T49 l0 0).f4) p312 q312; obtain rfl : ad305 = ad312 := (by injection e312); replace hx312_0 := (HB.out.cell (World.block_lt_of_cell? w _ hx312_0)).trans hx312_0; replace hx312_1 := (HB.out.cell (World.block_lt_of_cell? w _ hx312_1)).trans hx312_1; replace hx312_2 := (HB.out.cell (World.block_lt_of_cell? w _ hx312_2)).trans hx312_2; replace hx312_3 := (HB.out.cell (World.block_lt_of_cell? w _ hx312_3)).trans hx312_3; replace hx312_4 := (HB.out.cell (World.block_lt_of_cell? w _ hx312_4)).trans hx312_4; replace hx312_5 := (HB.out.cell (World.block_lt_of_cell? w _ hx312_5)).trans hx312_5; replace p312 := eq_true p312; replace q312 := eq_true q312) | ((with_reducible refine gate_dst (N := 5) rfl ?_); refine box_event ?hg (N := 5) ?hd (cs := #[.int .i64 0, .int .i64 0, .int .i64 0, .int .i64 0, .int .i64 0, .int .i64 0]) (t := 49) ?hr ?_; (case hd => rfl); (case hg => rfl); (case hr => first | (go_simp; done) | (go_simp; rfl)); intro gb313 hg w36 hbox hb; have n0_ := Aside0.mk (blk_below (g := gb306) (o := .cells #[.int .i64 ((rd_T49 l0 0).f0), .int .i64 ((rd_T49 l0 0).f1), .int .i64 ((rd_T49 l0 0).f2), .int .i64 ((rd_T49 l0 0).f3), .int .i64 ((rd_T49 l0 0).f4), .int .i64 ((rd_T49 l0 0).f5)] 49 (0, 0)) (by (with_reducible repeat (first | refine blk_drewN ?_ _ | refine blk_drew ?_ | refine blk_alloc ?_ _)); exact BK306.out) hb); have n1_ := Aside0.mk (below_step (by repeat (first | (with_reducible first | exact HB.out | apply below_alloc | apply pw_below_drewN | apply below_drew1 | refine below_set ?_ GE306.out) | exact HB.out)) hb); have n2_ := Aside0.mk (hbox); have n3_ := Aside0.mk ((by rw [hg]; exact (below_size (by repeat (first | (with_reducible first | exact HB.out | apply below_alloc | apply pw_below_drewN | apply below_drew1 | refine below_set ?_ GE306.out) | exact HB.out))) : w.heap.size ≤ gb313)); have n4_ := Aside0.mk ((by rw [hg]; exact (below_size (by repeat (first | (with_reducible first | exact HB.out | apply below_alloc | apply pw_below_drewN | apply below_drew1 | refine below_set ?_ GE306.out) | exact HB.out))) : w.heap.size ≤ gb313)); have n5_ := Aside0.mk ((by rw [hg]; exact Nat.ne_of_lt (blk_lt (g := gb306) (o := .cells #[.int .i64 ((rd_T49 l0 0).f0), .int .i64 ((rd_T49 l0 0).f1), .int .i64 ((rd_T49 l0 0).f2), .int .i64 ((rd_T49 l0 0).f3), .int .i64 ((rd_T49 l0 0).f4), .int .i64 ((rd_T49 l0 0).f5)] 49 (0, 0)) (by (with_reducible repeat (first | refine blk_drewN ?_ _ | refine blk_drew ?_ | refine blk_alloc ?_ _)); exact BK306.out)) : gb306 ≠ gb313)); have n6_ := Aside0.mk ((by rw [hg]; exact Nat.ne_of_gt (blk_lt (g := gb306) (o := .cells #[.int .i64 ((rd_T49 l0 0).f0), .int .i64 ((rd_T49 l0 0).f1), .int .i64 ((rd_T49 l0 0).f2), .int .i64 ((rd_T49 l0 0).f3), .int .i64 ((rd_T49 l0 0).f4), .int .i64 ((rd_T49 l0 0).f5)] 49 (0, 0)) (by (with_reducible repeat (first | refine blk_drewN ?_ _ | refine blk_drew ?_ | refine blk_alloc ?_ _)); exact BK306.out)) : gb313 ≠ gb306)); clear BK306; clear HB; have BK306 := n0_; have HB := n1_; have BK313 := n2_; have GW313 := n3_; have GE313 := n4_; have NB306_313 := n5_; have NB313_306 := n6_; clear n0_ n1_ n2_ n3_ n4_ n5_ n6_; clear hb hbox hg; have hnb37 := NB313_306.out; have hnc37 := NB306_313.out; have hcz38_0 : w36.cell? ⟨gb313, 0, none⟩ = some (.int .i64 0) := (blk_cell BK313.out 0).trans rfl; have hcz38_1 : w36.cell? ⟨gb313, 1, none⟩ = some (.int .i64 0) := (blk_cell BK313.out 1).trans rfl; have hcz38_2 : w36.cell? ⟨gb313, 2, none⟩ = some (.int .i64 0) := (blk_cell BK313.out 2).trans rfl; have hcz38_3 : w36.cell? ⟨gb313, 3, none⟩ = some (.int .i64 0) := (blk_cell BK313.out 3).trans rfl; have hcz38_4 : w36.cell? ⟨gb313, 4, none⟩ = some (.int .i64 0) := (blk_cell BK313.out 4).trans rfl; have hcz38_5 : w36.cell? ⟨gb313, 5, none⟩ = some (.int .i64 0) := (blk_cell BK313.out 5).trans rfl; have hfz38_0 := blk_frozen BK313.out 0; have hfz38_1 := blk_frozen BK313.out 1; have hfz38_2 := blk_frozen BK313.out 2; have hfz38_3 := blk_frozen BK313.out 3; have hfz38_4 := blk_frozen BK313.out 4; have hfz38_5 := blk_frozen BK313.out 5))
        (try simp only [Act.put, List.setIfInBounds_toArray, List.set_cons_zero, List.set_cons_succ])
        go_cut [63] (fun v63 wc => ∃ (kq : Nat) (x63_31 : Bool), v63 = .bool x63_31 ∧ Aside0 (larchref17_Root.j1 kq l0 x63_31 ((rd_T49 l0 ((rd_T49 l0 0).f4)).f0) ((rd_T49 l0 ((rd_T49 l0 0).f4)).f1) ((rd_T49 l0 ((rd_T49 l0 0).f4)).f2) ((rd_T49 l0 ((rd_T49 l0 0).f4)).f3) ((rd_T49 l0 ((rd_T49 l0 0).f4)).f4) ((rd_T49 l0 ((rd_T49 l0 0).f4)).f5) = some (r1, r2)) ∧ Aside0 (kq ≤ kj2) ∧ Aside0 (wc.heap[gb306]? = some (.cells #[.int .i64 ((rd_T49 l0 0).f0), .int .i64 ((rd_T49 l0 0).f1), .int .i64 ((rd_T49 l0 0).f2), .int .i64 ((rd_T49 l0 0).f3), .int .i64 ((rd_T49 l0 0).f4), .int .i64 ((rd_T49 l0 0).f5)] 49 (0, 0))) ∧ Aside0 (wc.heap[gb313]? = some (.cells #[.int .i64 ((rd_T49 l0 ((rd_T49 l0 0).f4)).f0), .int .i64 ((rd_T49 l0 ((rd_T49 l0 0).f4)).f1), .int .i64 ((rd_T49 l0 ((rd_T49 l0 0).f4)).f2), .int .i64 ((rd_T49 l0 ((rd_T49 l0 0).f4)).f3), .int .i64 ((rd_T49 l0 ((rd_T49 l0 0).f4)).f4), .int .i64 ((rd_T49 l0 ((rd_T49 l0 0).f4)).f5)] 49 (0, 0))) ∧ Aside0 (Below w.heap.size w wc))
        case first =>
         have H := HC32.out
         clear HC32
         replace H := Option.bind_eq_some_iff.mp H
         obtain ⟨t314, A390, H⟩ := H
         replace H : (if t314 = true then (larchref17_Root.j1 kj2 l0 true ((rd_T49 l0 ((rd_T49 l0 0).f4)).f0) ((rd_T49 l0 ((rd_T49 l0 0).f4)).f1) ((rd_T49 l0 ((rd_T49 l0 0).f4)).f2) ((rd_T49 l0 ((rd_T49 l0 0).f4)).f3) ((rd_T49 l0 ((rd_T49 l0 0).f4)).f4) ((rd_T49 l0 ((rd_T49 l0 0).f4)).f5)) else (if ((rd_T49 l0 ((rd_T49 l0 0).f4)).f1) = 1 then (if ((rd_T49 l0 ((rd_T49 l0 0).f4)).f2) = 1 then (if 0 ≤ ((rd_T49 l0 ((rd_T49 l0 0).f4)).f5) then (if ((rd_T49 l0 ((rd_T49 l0 0).f4)).f5) < (l0.length : Int) then ((larchref17_sentinel.f ((rd_T49 l0 ((rd_T49 l0 ((rd_T49 l0 0).f4)).f5)).f0) ((rd_T49 l0 ((rd_T49 l0 ((rd_T49 l0 0).f4)).f5)).f1) ((rd_T49 l0 ((rd_T49 l0 ((rd_T49 l0 0).f4)).f5)).f2) ((rd_T49 l0 ((rd_T49 l0 ((rd_T49 l0 0).f4)).f5)).f3) ((rd_T49 l0 ((rd_T49 l0 ((rd_T49 l0 0).f4)).f5)).f4) ((rd_T49 l0 ((rd_T49 l0 ((rd_T49 l0 0).f4)).f5)).f5)).bind fun t316 => (larchref17_Root.j1 kj2 l0 (!t316) ((rd_T49 l0 ((rd_T49 l0 0).f4)).f0) ((rd_T49 l0 ((rd_T49 l0 0).f4)).f1) ((rd_T49 l0 ((rd_T49 l0 0).f4)).f2) ((rd_T49 l0 ((rd_T49 l0 0).f4)).f3) ((rd_T49 l0 ((rd_T49 l0 0).f4)).f4) ((rd_T49 l0 ((rd_T49 l0 0).f4)).f5))) else (none)) else (none)) else (larchref17_Root.j1 kj2 l0 true ((rd_T49 l0 ((rd_T49 l0 0).f4)).f0) ((rd_T49 l0 ((rd_T49 l0 0).f4)).f1) ((rd_T49 l0 ((rd_T49 l0 0).f4)).f2) ((rd_T49 l0 ((rd_T49 l0 0).f4)).f3) ((rd_T49 l0 ((rd_T49 l0 0).f4)).f4) ((rd_T49 l0 ((rd_T49 l0 0).f4)).f5))) else (larchref17_Root.j1 kj2 l0 true ((rd_T49 l0 ((rd_T49 l0 0).f4)).f0) ((rd_T49 l0 ((rd_T49 l0 0).f4)).f1) ((rd_T49 l0 ((rd_T49 l0 0).f4)).f2) ((rd_T49 l0 ((rd_T49 l0 0).f4)).f3) ((rd_T49 l0 ((rd_T49 l0 0).f4)).f4) ((rd_T49 l0 ((rd_T49 l0 0).f4)).f5)))) = some (r1, r2) := H
         have A39 := Aside0.mk A390
         clear A390
         by_cases c40 : t314 = true
         ·
          subst c40
          have H1 : (larchref17_Root.j1 kj2 l0 true ((rd_T49 l0 ((rd_T49 l0 0).f4)).f0) ((rd_T49 l0 ((rd_T49 l0 0).f4)).f1) ((rd_T49 l0 ((rd_T49 l0 0).f4)).f2) ((rd_T49 l0 ((rd_T49 l0 0).f4)).f3) ((rd_T49 l0 ((rd_T49 l0 0).f4)).f4) ((rd_T49 l0 ((rd_T49 l0 0).f4)).f5)) = some (r1, r2) := by rw [if_pos rfl] at H; exact H
          clear H
          have H := H1
          clear H1
          have H' := Aside0.mk H
          clear H
          have hnb41 := NB313_306.out
          have hnc41 := NB306_313.out
          have hcz42_0 : w36.cell? ⟨gb313, 0, none⟩ = some (.int .i64 0) := (blk_cell BK313.out 0).trans rfl
          have hcz42_1 : w36.cell? ⟨gb313, 1, none⟩ = some (.int .i64 0) := (blk_cell BK313.out 1).trans rfl
          have hcz42_2 : w36.cell? ⟨gb313, 2, none⟩ = some (.int .i64 0) := (blk_cell BK313.out 2).trans rfl
          have hcz42_3 : w36.cell? ⟨gb313, 3, none⟩ = some (.int .i64 0) := (blk_cell BK313.out 3).trans rfl
          have hcz42_4 : w36.cell? ⟨gb313, 4, none⟩ = some (.int .i64 0) := (blk_cell BK313.out 4).trans rfl
          have hcz42_5 : w36.cell? ⟨gb313, 5, none⟩ = some (.int .i64 0) := (blk_cell BK313.out 5).trans rfl
          have hfz42_0 := blk_frozen BK313.out 0
          have hfz42_1 := blk_frozen BK313.out 1
          have hfz42_2 := blk_frozen BK313.out 2
          have hfz42_3 := blk_frozen BK313.out 3
          have hfz42_4 := blk_frozen BK313.out 4
          have hfz42_5 := blk_frozen BK313.out 5
          go_wp2_with (first | ((with_reducible refine gate_callee (f := 53) rfl ?_); refine goesL_ (some 44) rfl rfl Try.func53 (by kernel_rfl) rfl #[.agg #[.int .i64 ((rd_T49 l0 ((rd_T49 l0 0).f4)).f0), .int .i64 ((rd_T49 l0 ((rd_T49 l0 0).f4)).f1), .int .i64 ((rd_T49 l0 ((rd_T49 l0 0).f4)).f2), .int .i64 ((rd_T49 l0 ((rd_T49 l0 0).f4)).f3), .int .i64 ((rd_T49 l0 ((rd_T49 l0 0).f4)).f4), .int .i64 ((rd_T49 l0 ((rd_T49 l0 0).f4)).f5)]] rfl (by (try simp only [List.map_toArray, List.map_cons, List.map_nil]); first | done | rfl | (simp only [List.length_drop, List.length_take]; rfl)) ?_; (with_reducible refine (larchref17_leaf.calls ((rd_T49 l0 ((rd_T49 l0 0).f4)).f0) ((rd_T49 l0 ((rd_T49 l0 0).f4)).f1) ((rd_T49 l0 ((rd_T49 l0 0).f4)).f2) ((rd_T49 l0 ((rd_T49 l0 0).f4)).f3) ((rd_T49 l0 ((rd_T49 l0 0).f4)).f4) ((rd_T49 l0 ((rd_T49 l0 0).f4)).f5) true _ A39.out).mono ?_); rintro e w43 ⟨rfl, hb⟩; refine ⟨_, rfl, ?_⟩; have n0_ := Aside0.mk (blk_below (g := gb306) (o := .cells #[.int .i64 ((rd_T49 l0 0).f0), .int .i64 ((rd_T49 l0 0).f1), .int .i64 ((rd_T49 l0 0).f2), .int .i64 ((rd_T49 l0 0).f3), .int .i64 ((rd_T49 l0 0).f4), .int .i64 ((rd_T49 l0 0).f5)] 49 (0, 0)) (by (with_reducible repeat (first | refine blk_drewN ?_ _ | refine blk_drew ?_ | refine blk_alloc ?_ _)); refine blk_far ?_ NB306_313.out _; (with_reducible repeat (first | refine blk_drewN ?_ _ | refine blk_drew ?_ | refine blk_alloc ?_ _)); refine blk_far ?_ NB306_313.out _; (with_reducible repeat (first | refine blk_drewN ?_ _ | refine blk_drew ?_ | refine blk_alloc ?_ _)); refine blk_far ?_ NB306_313.out _; (with_reducible repeat (first | refine blk_drewN ?_ _ | refine blk_drew ?_ | refine blk_alloc ?_ _)); refine blk_far ?_ NB306_313.out _; (with_reducible repeat (first | refine blk_drewN ?_ _ | refine blk_drew ?_ | refine blk_alloc ?_ _)); refine blk_far ?_ NB306_313.out _; (with_reducible repeat (first | refine blk_drewN ?_ _ | refine blk_drew ?_ | refine blk_alloc ?_ _)); refine blk_far ?_ NB306_313.out _; (with_reducible repeat (first | refine blk_drewN ?_ _ | refine blk_drew ?_ | refine blk_alloc ?_ _)); exact BK306.out) hb); have n1_ := Aside0.mk (blk_below (g := gb313) (o := .cells #[.int .i64 ((rd_T49 l0 ((rd_T49 l0 0).f4)).f0), .int .i64 ((rd_T49 l0 ((rd_T49 l0 0).f4)).f1), .int .i64 ((rd_T49 l0 ((rd_T49 l0 0).f4)).f2), .int .i64 ((rd_T49 l0 ((rd_T49 l0 0).f4)).f3), .int .i64 ((rd_T49 l0 ((rd_T49 l0 0).f4)).f4), .int .i64 ((rd_T49 l0 ((rd_T49 l0 0).f4)).f5)] 49 (0, 0)) (by (with_reducible repeat (first | refine blk_drewN ?_ _ | refine blk_drew ?_ | refine blk_alloc ?_ _)); refine blk_put (cs := #[.int .i64 ((rd_T49 l0 ((rd_T49 l0 0).f4)).f0), .int .i64 ((rd_T49 l0 ((rd_T49 l0 0).f4)).f1), .int .i64 ((rd_T49 l0 ((rd_T49 l0 0).f4)).f2), .int .i64 ((rd_T49 l0 ((rd_T49 l0 0).f4)).f3), .int .i64 ((rd_T49 l0 ((rd_T49 l0 0).f4)).f4), .int .i64 0]) ?_ 5 _ rfl; (with_reducible repeat (first | refine blk_drewN ?_ _ | refine blk_drew ?_ | refine blk_alloc ?_ _)); refine blk_put (cs := #[.int .i64 ((rd_T49 l0 ((rd_T49 l0 0).f4)).f0), .int .i64 ((rd_T49 l0 ((rd_T49 l0 0).f4)).f1), .int .i64 ((rd_T49 l0 ((rd_T49 l0 0).f4)).f2), .int .i64 ((rd_T49 l0 ((rd_T49 l0 0).f4)).f3), .int .i64 0, .int .i64 0]) ?_ 4 _ rfl; (with_reducible repeat (first | refine blk_drewN ?_ _ | refine blk_drew ?_ | refine blk_alloc ?_ _)); refine blk_put (cs := #[.int .i64 ((rd_T49 l0 ((rd_T49 l0 0).f4)).f0), .int .i64 ((rd_T49 l0 ((rd_T49 l0 0).f4)).f1), .int .i64 ((rd_T49 l0 ((rd_T49 l0 0).f4)).f2), .int .i64 0, .int .i64 0, .int .i64 0]) ?_ 3 _ rfl; (with_reducible repeat (first | refine blk_drewN ?_ _ | refine blk_drew ?_ | refine blk_alloc ?_ _)); refine blk_put (cs := #[.int .i64 ((rd_T49 l0 ((rd_T49 l0 0).f4)).f0), .int .i64 ((rd_T49 l0 ((rd_T49 l0 0).f4)).f1), .int .i64 0, .int .i64 0, .int .i64 0, .int .i64 0]) ?_ 2 _ rfl; (with_reducible repeat (first | refine blk_drewN ?_ _ | refine blk_drew ?_ | refine blk_alloc ?_ _)); refine blk_put (cs := #[.int .i64 ((rd_T49 l0 ((rd_T49 l0 0).f4)).f0), .int .i64 0, .int .i64 0, .int .i64 0, .int .i64 0, .int .i64 0]) ?_ 1 _ rfl; (with_reducible repeat (first | refine blk_drewN ?_ _ | refine blk_drew ?_ | refine blk_alloc ?_ _)); refine blk_put (cs := #[.int .i64 0, .int .i64 0, .int .i64 0, .int .i64 0, .int .i64 0, .int .i64 0]) ?_ 0 _ rfl; (with_reducible repeat (first | refine blk_drewN ?_ _ | refine blk_drew ?_ | refine blk_alloc ?_ _)); exact BK313.out) hb); have n2_ := Aside0.mk (below_step (by repeat (first | (with_reducible first | exact HB.out | apply below_alloc | apply pw_below_drewN | apply below_drew1 | refine below_set ?_ GE306.out | refine below_set ?_ GE313.out) | exact HB.out)) hb); clear BK306; clear BK313; clear HB; have BK306 := n0_; have BK313 := n1_; have HB := n2_; clear n0_ n1_ n2_; (try clear hb); (try clear hb2); (try clear hk); (try clear hi)))
          go_meet
          case rel => exact ⟨_, (true), (by first | rfl | (simp; done) | (simp [*]; done)), H', ⟨by have := HJ2.out; first | omega | exact Nat.le_refl _⟩, ⟨by (with_reducible repeat (first | refine blk_drewN ?_ _ | refine blk_drew ?_ | refine blk_alloc ?_ _)); exact BK306.out⟩, ⟨by (with_reducible repeat (first | refine blk_drewN ?_ _ | refine blk_drew ?_ | refine blk_alloc ?_ _)); exact BK313.out⟩, ⟨by repeat (first | (with_reducible first | exact HB.out | apply below_alloc | apply pw_below_drewN | apply below_drew1 | refine below_set ?_ GE306.out | refine below_set ?_ GE313.out) | exact HB.out)⟩⟩
         ·
          replace c40 := Bool.eq_false_iff.mpr c40
          subst c40
          have H1 : (if ((rd_T49 l0 ((rd_T49 l0 0).f4)).f1) = 1 then (if ((rd_T49 l0 ((rd_T49 l0 0).f4)).f2) = 1 then (if 0 ≤ ((rd_T49 l0 ((rd_T49 l0 0).f4)).f5) then (if ((rd_T49 l0 ((rd_T49 l0 0).f4)).f5) < (l0.length : Int) then ((larchref17_sentinel.f ((rd_T49 l0 ((rd_T49 l0 ((rd_T49 l0 0).f4)).f5)).f0) ((rd_T49 l0 ((rd_T49 l0 ((rd_T49 l0 0).f4)).f5)).f1) ((rd_T49 l0 ((rd_T49 l0 ((rd_T49 l0 0).f4)).f5)).f2) ((rd_T49 l0 ((rd_T49 l0 ((rd_T49 l0 0).f4)).f5)).f3) ((rd_T49 l0 ((rd_T49 l0 ((rd_T49 l0 0).f4)).f5)).f4) ((rd_T49 l0 ((rd_T49 l0 ((rd_T49 l0 0).f4)).f5)).f5)).bind fun t316 => (larchref17_Root.j1 kj2 l0 (!t316) ((rd_T49 l0 ((rd_T49 l0 0).f4)).f0) ((rd_T49 l0 ((rd_T49 l0 0).f4)).f1) ((rd_T49 l0 ((rd_T49 l0 0).f4)).f2) ((rd_T49 l0 ((rd_T49 l0 0).f4)).f3) ((rd_T49 l0 ((rd_T49 l0 0).f4)).f4) ((rd_T49 l0 ((rd_T49 l0 0).f4)).f5))) else (none)) else (none)) else (larchref17_Root.j1 kj2 l0 true ((rd_T49 l0 ((rd_T49 l0 0).f4)).f0) ((rd_T49 l0 ((rd_T49 l0 0).f4)).f1) ((rd_T49 l0 ((rd_T49 l0 0).f4)).f2) ((rd_T49 l0 ((rd_T49 l0 0).f4)).f3) ((rd_T49 l0 ((rd_T49 l0 0).f4)).f4) ((rd_T49 l0 ((rd_T49 l0 0).f4)).f5))) else (larchref17_Root.j1 kj2 l0 true ((rd_T49 l0 ((rd_T49 l0 0).f4)).f0) ((rd_T49 l0 ((rd_T49 l0 0).f4)).f1) ((rd_T49 l0 ((rd_T49 l0 0).f4)).f2) ((rd_T49 l0 ((rd_T49 l0 0).f4)).f3) ((rd_T49 l0 ((rd_T49 l0 0).f4)).f4) ((rd_T49 l0 ((rd_T49 l0 0).f4)).f5))) = some (r1, r2) := by rw [if_neg (show ¬ (false = true) by decide)] at H; exact H
          clear H
          have H := H1
          clear H1
          by_cases c44 : ((rd_T49 l0 ((rd_T49 l0 0).f4)).f1) = 1
          ·
           rw [if_pos c44] at H
           have c44b0 : (((rd_T49 l0 ((rd_T49 l0 0).f4)).f1) == 1) = true := beq_iff_eq.mpr c44
           have c44b1 : (((rd_T49 l0 ((rd_T49 l0 0).f4)).f1) != 1) = false := bne_eq_false_iff_eq.mpr c44
           clear c44
           (first | rw [c44b0] | (simp only [i64_w, i32_w]; rw [c44b0]) | skip)
           by_cases c45 : ((rd_T49 l0 ((rd_T49 l0 0).f4)).f2) = 1
           ·
            rw [if_pos c45] at H
            have c45b0 : (((rd_T49 l0 ((rd_T49 l0 0).f4)).f2) == 1) = true := beq_iff_eq.mpr c45
            have c45b1 : (((rd_T49 l0 ((rd_T49 l0 0).f4)).f2) != 1) = false := bne_eq_false_iff_eq.mpr c45
            clear c45
            by_cases c46 : 0 ≤ ((rd_T49 l0 ((rd_T49 l0 0).f4)).f5)
            ·
             rw [if_pos c46] at H
             have c46b0 : decide (0 ≤ ((rd_T49 l0 ((rd_T49 l0 0).f4)).f5)) = true := decide_eq_true c46
             clear c46
             by_cases c47 : ((rd_T49 l0 ((rd_T49 l0 0).f4)).f5) < (l0.length : Int)
             ·
              rw [if_pos c47] at H
              have c47b0 : decide (((rd_T49 l0 ((rd_T49 l0 0).f4)).f5) < (l0.length : Int)) = true := decide_eq_true c47
              clear c47
              replace H := Option.bind_eq_some_iff.mp H
              obtain ⟨t316, A480, H⟩ := H
              replace H : (larchref17_Root.j1 kj2 l0 (!t316) ((rd_T49 l0 ((rd_T49 l0 0).f4)).f0) ((rd_T49 l0 ((rd_T49 l0 0).f4)).f1) ((rd_T49 l0 ((rd_T49 l0 0).f4)).f2) ((rd_T49 l0 ((rd_T49 l0 0).f4)).f3) ((rd_T49 l0 ((rd_T49 l0 0).f4)).f4) ((rd_T49 l0 ((rd_T49 l0 0).f4)).f5)) = some (r1, r2) := H
              have A48 := Aside0.mk A480
              clear A480
              have H' := Aside0.mk H
              clear H
              have hnb49 := NB313_306.out
              have hnc49 := NB306_313.out
              have hcz50_0 : w36.cell? ⟨gb313, 0, none⟩ = some (.int .i64 0) := (blk_cell BK313.out 0).trans rfl
              have hcz50_1 : w36.cell? ⟨gb313, 1, none⟩ = some (.int .i64 0) := (blk_cell BK313.out 1).trans rfl
              have hcz50_2 : w36.cell? ⟨gb313, 2, none⟩ = some (.int .i64 0) := (blk_cell BK313.out 2).trans rfl
              have hcz50_3 : w36.cell? ⟨gb313, 3, none⟩ = some (.int .i64 0) := (blk_cell BK313.out 3).trans rfl
              have hcz50_4 : w36.cell? ⟨gb313, 4, none⟩ = some (.int .i64 0) := (blk_cell BK313.out 4).trans rfl
              have hcz50_5 : w36.cell? ⟨gb313, 5, none⟩ = some (.int .i64 0) := (blk_cell BK313.out 5).trans rfl
              have hfz50_0 := blk_frozen BK313.out 0
              have hfz50_1 := blk_frozen BK313.out 1
              have hfz50_2 := blk_frozen BK313.out 2
              have hfz50_3 := blk_frozen BK313.out 3
              have hfz50_4 := blk_frozen BK313.out 4
              have hfz50_5 := blk_frozen BK313.out 5
              go_wp2_with (first | ((with_reducible refine gate_callee (f := 53) rfl ?_); refine goesL_ (some 44) rfl rfl Try.func53 (by kernel_rfl) rfl #[.agg #[.int .i64 ((rd_T49 l0 ((rd_T49 l0 0).f4)).f0), .int .i64 ((rd_T49 l0 ((rd_T49 l0 0).f4)).f1), .int .i64 ((rd_T49 l0 ((rd_T49 l0 0).f4)).f2), .int .i64 ((rd_T49 l0 ((rd_T49 l0 0).f4)).f3), .int .i64 ((rd_T49 l0 ((rd_T49 l0 0).f4)).f4), .int .i64 ((rd_T49 l0 ((rd_T49 l0 0).f4)).f5)]] rfl (by (try simp only [List.map_toArray, List.map_cons, List.map_nil]); first | done | rfl | (simp only [List.length_drop, List.length_take]; rfl)) ?_; (with_reducible refine (larchref17_leaf.calls ((rd_T49 l0 ((rd_T49 l0 0).f4)).f0) ((rd_T49 l0 ((rd_T49 l0 0).f4)).f1) ((rd_T49 l0 ((rd_T49 l0 0).f4)).f2) ((rd_T49 l0 ((rd_T49 l0 0).f4)).f3) ((rd_T49 l0 ((rd_T49 l0 0).f4)).f4) ((rd_T49 l0 ((rd_T49 l0 0).f4)).f5) false _ A39.out).mono ?_); rintro e w51 ⟨rfl, hb⟩; refine ⟨_, rfl, ?_⟩; have n0_ := Aside0.mk (blk_below (g := gb306) (o := .cells #[.int .i64 ((rd_T49 l0 0).f0), .int .i64 ((rd_T49 l0 0).f1), .int .i64 ((rd_T49 l0 0).f2), .int .i64 ((rd_T49 l0 0).f3), .int .i64 ((rd_T49 l0 0).f4), .int .i64 ((rd_T49 l0 0).f5)] 49 (0, 0)) (by (with_reducible repeat (first | refine blk_drewN ?_ _ | refine blk_drew ?_ | refine blk_alloc ?_ _)); refine blk_far ?_ NB306_313.out _; (with_reducible repeat (first | refine blk_drewN ?_ _ | refine blk_drew ?_ | refine blk_alloc ?_ _)); refine blk_far ?_ NB306_313.out _; (with_reducible repeat (first | refine blk_drewN ?_ _ | refine blk_drew ?_ | refine blk_alloc ?_ _)); refine blk_far ?_ NB306_313.out _; (with_reducible repeat (first | refine blk_drewN ?_ _ | refine blk_drew ?_ | refine blk_alloc ?_ _)); refine blk_far ?_ NB306_313.out _; (with_reducible repeat (first | refine blk_drewN ?_ _ | refine blk_drew ?_ | refine blk_alloc ?_ _)); refine blk_far ?_ NB306_313.out _; (with_reducible repeat (first | refine blk_drewN ?_ _ | refine blk_drew ?_ | refine blk_alloc ?_ _)); refine blk_far ?_ NB306_313.out _; (with_reducible repeat (first | refine blk_drewN ?_ _ | refine blk_drew ?_ | refine blk_alloc ?_ _)); exact BK306.out) hb); have n1_ := Aside0.mk (blk_below (g := gb313) (o := .cells #[.int .i64 ((rd_T49 l0 ((rd_T49 l0 0).f4)).f0), .int .i64 ((rd_T49 l0 ((rd_T49 l0 0).f4)).f1), .int .i64 ((rd_T49 l0 ((rd_T49 l0 0).f4)).f2), .int .i64 ((rd_T49 l0 ((rd_T49 l0 0).f4)).f3), .int .i64 ((rd_T49 l0 ((rd_T49 l0 0).f4)).f4), .int .i64 ((rd_T49 l0 ((rd_T49 l0 0).f4)).f5)] 49 (0, 0)) (by (with_reducible repeat (first | refine blk_drewN ?_ _ | refine blk_drew ?_ | refine blk_alloc ?_ _)); refine blk_put (cs := #[.int .i64 ((rd_T49 l0 ((rd_T49 l0 0).f4)).f0), .int .i64 ((rd_T49 l0 ((rd_T49 l0 0).f4)).f1), .int .i64 ((rd_T49 l0 ((rd_T49 l0 0).f4)).f2), .int .i64 ((rd_T49 l0 ((rd_T49 l0 0).f4)).f3), .int .i64 ((rd_T49 l0 ((rd_T49 l0 0).f4)).f4), .int .i64 0]) ?_ 5 _ rfl; (with_reducible repeat (first | refine blk_drewN ?_ _ | refine blk_drew ?_ | refine blk_alloc ?_ _)); refine blk_put (cs := #[.int .i64 ((rd_T49 l0 ((rd_T49 l0 0).f4)).f0), .int .i64 ((rd_T49 l0 ((rd_T49 l0 0).f4)).f1), .int .i64 ((rd_T49 l0 ((rd_T49 l0 0).f4)).f2), .int .i64 ((rd_T49 l0 ((rd_T49 l0 0).f4)).f3), .int .i64 0, .int .i64 0]) ?_ 4 _ rfl; (with_reducible repeat (first | refine blk_drewN ?_ _ | refine blk_drew ?_ | refine blk_alloc ?_ _)); refine blk_put (cs := #[.int .i64 ((rd_T49 l0 ((rd_T49 l0 0).f4)).f0), .int .i64 ((rd_T49 l0 ((rd_T49 l0 0).f4)).f1), .int .i64 ((rd_T49 l0 ((rd_T49 l0 0).f4)).f2), .int .i64 0, .int .i64 0, .int .i64 0]) ?_ 3 _ rfl; (with_reducible repeat (first | refine blk_drewN ?_ _ | refine blk_drew ?_ | refine blk_alloc ?_ _)); refine blk_put (cs := #[.int .i64 ((rd_T49 l0 ((rd_T49 l0 0).f4)).f0), .int .i64 ((rd_T49 l0 ((rd_T49 l0 0).f4)).f1), .int .i64 0, .int .i64 0, .int .i64 0, .int .i64 0]) ?_ 2 _ rfl; (with_reducible repeat (first | refine blk_drewN ?_ _ | refine blk_drew ?_ | refine blk_alloc ?_ _)); refine blk_put (cs := #[.int .i64 ((rd_T49 l0 ((rd_T49 l0 0).f4)).f0), .int .i64 0, .int .i64 0, .int .i64 0, .int .i64 0, .int .i64 0]) ?_ 1 _ rfl; (with_reducible repeat (first | refine blk_drewN ?_ _ | refine blk_drew ?_ | refine blk_alloc ?_ _)); refine blk_put (cs := #[.int .i64 0, .int .i64 0, .int .i64 0, .int .i64 0, .int .i64 0, .int .i64 0]) ?_ 0 _ rfl; (with_reducible repeat (first | refine blk_drewN ?_ _ | refine blk_drew ?_ | refine blk_alloc ?_ _)); exact BK313.out) hb); have n2_ := Aside0.mk (below_step (by repeat (first | (with_reducible first | exact HB.out | apply below_alloc | apply pw_below_drewN | apply below_drew1 | refine below_set ?_ GE306.out | refine below_set ?_ GE313.out) | exact HB.out)) hb); clear BK306; clear BK313; clear HB; have BK306 := n0_; have BK313 := n1_; have HB := n2_; clear n0_ n1_ n2_; (try clear hb); (try clear hb2); (try clear hk); (try clear hi); have hcz52_0 : w51.cell? ⟨gb313, 0, none⟩ = some (.int .i64 ((rd_T49 l0 ((rd_T49 l0 0).f4)).f0)) := (blk_cell BK313.out 0).trans rfl; have hcz52_1 : w51.cell? ⟨gb313, 1, none⟩ = some (.int .i64 ((rd_T49 l0 ((rd_T49 l0 0).f4)).f1)) := (blk_cell BK313.out 1).trans rfl; have hcz52_2 : w51.cell? ⟨gb313, 2, none⟩ = some (.int .i64 ((rd_T49 l0 ((rd_T49 l0 0).f4)).f2)) := (blk_cell BK313.out 2).trans rfl; have hcz52_3 : w51.cell? ⟨gb313, 3, none⟩ = some (.int .i64 ((rd_T49 l0 ((rd_T49 l0 0).f4)).f3)) := (blk_cell BK313.out 3).trans rfl; have hcz52_4 : w51.cell? ⟨gb313, 4, none⟩ = some (.int .i64 ((rd_T49 l0 ((rd_T49 l0 0).f4)).f4)) := (blk_cell BK313.out 4).trans rfl; have hcz52_5 : w51.cell? ⟨gb313, 5, none⟩ = some (.int .i64 ((rd_T49 l0 ((rd_T49 l0 0).f4)).f5)) := (blk_cell BK313.out 5).trans rfl; have hfz52_0 := blk_frozen BK313.out 0; have hfz52_1 := blk_frozen BK313.out 1; have hfz52_2 := blk_frozen BK313.out 2; have hfz52_3 := blk_frozen BK313.out 3; have hfz52_4 := blk_frozen BK313.out 4; have hfz52_5 := blk_frozen BK313.out 5; have p315 : 0 ≤ (((rd_T49 l0 ((rd_T49 l0 0).f4)).f5) : Int) := of_decide_eq_true (by first | (with_reducible assumption) | assumption); have q315 : ((rd_T49 l0 ((rd_T49 l0 0).f4)).f5) < (l0.length : Int) := of_decide_eq_true (by first | (with_reducible assumption) | assumption); obtain ⟨ad315, e315, hx315_0, hx315_1, hx315_2, hx315_3, hx315_4, hx315_5⟩ := at_T49 HR0.out ((rd_T49 l0 ((rd_T49 l0 0).f4)).f5) p315 q315; obtain rfl : ad305 = ad315 := (by injection e315); replace hx315_0 := (HB.out.cell (World.block_lt_of_cell? w _ hx315_0)).trans hx315_0; replace hx315_1 := (HB.out.cell (World.block_lt_of_cell? w _ hx315_1)).trans hx315_1; replace hx315_2 := (HB.out.cell (World.block_lt_of_cell? w _ hx315_2)).trans hx315_2; replace hx315_3 := (HB.out.cell (World.block_lt_of_cell? w _ hx315_3)).trans hx315_3; replace hx315_4 := (HB.out.cell (World.block_lt_of_cell? w _ hx315_4)).trans hx315_4; replace hx315_5 := (HB.out.cell (World.block_lt_of_cell? w _ hx315_5)).trans hx315_5; replace p315 := eq_true p315; replace q315 := eq_true q315) | (go_at_call 54; (with_reducible refine (larchref17_sentinel.calls ((rd_T49 l0 ((rd_T49 l0 ((rd_T49 l0 0).f4)).f5)).f0) ((rd_T49 l0 ((rd_T49 l0 ((rd_T49 l0 0).f4)).f5)).f1) ((rd_T49 l0 ((rd_T49 l0 ((rd_T49 l0 0).f4)).f5)).f2) ((rd_T49 l0 ((rd_T49 l0 ((rd_T49 l0 0).f4)).f5)).f3) ((rd_T49 l0 ((rd_T49 l0 ((rd_T49 l0 0).f4)).f5)).f4) ((rd_T49 l0 ((rd_T49 l0 ((rd_T49 l0 0).f4)).f5)).f5) t316 _ A48.out).mono ?_); rintro e w53 ⟨rfl, hb⟩; have n0_ := Aside0.mk (blk_below (g := gb306) (o := .cells #[.int .i64 ((rd_T49 l0 0).f0), .int .i64 ((rd_T49 l0 0).f1), .int .i64 ((rd_T49 l0 0).f2), .int .i64 ((rd_T49 l0 0).f3), .int .i64 ((rd_T49 l0 0).f4), .int .i64 ((rd_T49 l0 0).f5)] 49 (0, 0)) (by (with_reducible repeat (first | refine blk_drewN ?_ _ | refine blk_drew ?_ | refine blk_alloc ?_ _)); exact BK306.out) hb); have n1_ := Aside0.mk (blk_below (g := gb313) (o := .cells #[.int .i64 ((rd_T49 l0 ((rd_T49 l0 0).f4)).f0), .int .i64 ((rd_T49 l0 ((rd_T49 l0 0).f4)).f1), .int .i64 ((rd_T49 l0 ((rd_T49 l0 0).f4)).f2), .int .i64 ((rd_T49 l0 ((rd_T49 l0 0).f4)).f3), .int .i64 ((rd_T49 l0 ((rd_T49 l0 0).f4)).f4), .int .i64 ((rd_T49 l0 ((rd_T49 l0 0).f4)).f5)] 49 (0, 0)) (by (with_reducible repeat (first | refine blk_drewN ?_ _ | refine blk_drew ?_ | refine blk_alloc ?_ _)); exact BK313.out) hb); have n2_ := Aside0.mk (below_step (by repeat (first | (with_reducible first | exact HB.out | apply below_alloc | apply pw_below_drewN | apply below_drew1 | refine below_set ?_ GE306.out | refine below_set ?_ GE313.out) | exact HB.out)) hb); clear BK306; clear BK313; clear HB; have BK306 := n0_; have BK313 := n1_; have HB := n2_; clear n0_ n1_ n2_; (try clear hb); (try clear hb2); (try clear hk); (try clear hi)))
              go_meet
              case rel => exact ⟨_, (!t316), (by first | rfl | (simp; done) | (simp [*]; done)), H', ⟨by have := HJ2.out; first | omega | exact Nat.le_refl _⟩, ⟨by (with_reducible repeat (first | refine blk_drewN ?_ _ | refine blk_drew ?_ | refine blk_alloc ?_ _)); exact BK306.out⟩, ⟨by (with_reducible repeat (first | refine blk_drewN ?_ _ | refine blk_drew ?_ | refine blk_alloc ?_ _)); exact BK313.out⟩, ⟨by repeat (first | (with_reducible first | exact HB.out | apply below_alloc | apply pw_below_drewN | apply below_drew1 | refine below_set ?_ GE306.out | refine below_set ?_ GE313.out) | exact HB.out)⟩⟩
             ·
              rw [if_neg c47] at H
              exact absurd H (by simp)
            ·
             rw [if_neg c46] at H
             exact absurd H (by simp)
           ·
            rw [if_neg c45] at H
            have c45b0 : (((rd_T49 l0 ((rd_T49 l0 0).f4)).f2) == 1) = false := beq_eq_false_iff_ne.mpr c45
            have c45b1 : (((rd_T49 l0 ((rd_T49 l0 0).f4)).f2) != 1) = true := bne_iff_ne.mpr c45
            have H' := Aside0.mk H
            clear H
            have hnb54 := NB313_306.out
            have hnc54 := NB306_313.out
            have hcz55_0 : w36.cell? ⟨gb313, 0, none⟩ = some (.int .i64 0) := (blk_cell BK313.out 0).trans rfl
            have hcz55_1 : w36.cell? ⟨gb313, 1, none⟩ = some (.int .i64 0) := (blk_cell BK313.out 1).trans rfl
            have hcz55_2 : w36.cell? ⟨gb313, 2, none⟩ = some (.int .i64 0) := (blk_cell BK313.out 2).trans rfl
            have hcz55_3 : w36.cell? ⟨gb313, 3, none⟩ = some (.int .i64 0) := (blk_cell BK313.out 3).trans rfl
            have hcz55_4 : w36.cell? ⟨gb313, 4, none⟩ = some (.int .i64 0) := (blk_cell BK313.out 4).trans rfl
            have hcz55_5 : w36.cell? ⟨gb313, 5, none⟩ = some (.int .i64 0) := (blk_cell BK313.out 5).trans rfl
            have hfz55_0 := blk_frozen BK313.out 0
            have hfz55_1 := blk_frozen BK313.out 1
            have hfz55_2 := blk_frozen BK313.out 2
            have hfz55_3 := blk_frozen BK313.out 3
            have hfz55_4 := blk_frozen BK313.out 4
            have hfz55_5 := blk_frozen BK313.out 5
            go_wp2_with (first | ((with_reducible refine gate_callee (f := 53) rfl ?_); refine goesL_ (some 44) rfl rfl Try.func53 (by kernel_rfl) rfl #[.agg #[.int .i64 ((rd_T49 l0 ((rd_T49 l0 0).f4)).f0), .int .i64 ((rd_T49 l0 ((rd_T49 l0 0).f4)).f1), .int .i64 ((rd_T49 l0 ((rd_T49 l0 0).f4)).f2), .int .i64 ((rd_T49 l0 ((rd_T49 l0 0).f4)).f3), .int .i64 ((rd_T49 l0 ((rd_T49 l0 0).f4)).f4), .int .i64 ((rd_T49 l0 ((rd_T49 l0 0).f4)).f5)]] rfl (by (try simp only [List.map_toArray, List.map_cons, List.map_nil]); first | done | rfl | (simp only [List.length_drop, List.length_take]; rfl)) ?_; (with_reducible refine (larchref17_leaf.calls ((rd_T49 l0 ((rd_T49 l0 0).f4)).f0) ((rd_T49 l0 ((rd_T49 l0 0).f4)).f1) ((rd_T49 l0 ((rd_T49 l0 0).f4)).f2) ((rd_T49 l0 ((rd_T49 l0 0).f4)).f3) ((rd_T49 l0 ((rd_T49 l0 0).f4)).f4) ((rd_T49 l0 ((rd_T49 l0 0).f4)).f5) false _ A39.out).mono ?_); rintro e w56 ⟨rfl, hb⟩; refine ⟨_, rfl, ?_⟩; have n0_ := Aside0.mk (blk_below (g := gb306) (o := .cells #[.int .i64 ((rd_T49 l0 0).f0), .int .i64 ((rd_T49 l0 0).f1), .int .i64 ((rd_T49 l0 0).f2), .int .i64 ((rd_T49 l0 0).f3), .int .i64 ((rd_T49 l0 0).f4), .int .i64 ((rd_T49 l0 0).f5)] 49 (0, 0)) (by (with_reducible repeat (first | refine blk_drewN ?_ _ | refine blk_drew ?_ | refine blk_alloc ?_ _)); refine blk_far ?_ NB306_313.out _; (with_reducible repeat (first | refine blk_drewN ?_ _ | refine blk_drew ?_ | refine blk_alloc ?_ _)); refine blk_far ?_ NB306_313.out _; (with_reducible repeat (first | refine blk_drewN ?_ _ | refine blk_drew ?_ | refine blk_alloc ?_ _)); refine blk_far ?_ NB306_313.out _; (with_reducible repeat (first | refine blk_drewN ?_ _ | refine blk_drew ?_ | refine blk_alloc ?_ _)); refine blk_far ?_ NB306_313.out _; (with_reducible repeat (first | refine blk_drewN ?_ _ | refine blk_drew ?_ | refine blk_alloc ?_ _)); refine blk_far ?_ NB306_313.out _; (with_reducible repeat (first | refine blk_drewN ?_ _ | refine blk_drew ?_ | refine blk_alloc ?_ _)); refine blk_far ?_ NB306_313.out _; (with_reducible repeat (first | refine blk_drewN ?_ _ | refine blk_drew ?_ | refine blk_alloc ?_ _)); exact BK306.out) hb); have n1_ := Aside0.mk (blk_below (g := gb313) (o := .cells #[.int .i64 ((rd_T49 l0 ((rd_T49 l0 0).f4)).f0), .int .i64 ((rd_T49 l0 ((rd_T49 l0 0).f4)).f1), .int .i64 ((rd_T49 l0 ((rd_T49 l0 0).f4)).f2), .int .i64 ((rd_T49 l0 ((rd_T49 l0 0).f4)).f3), .int .i64 ((rd_T49 l0 ((rd_T49 l0 0).f4)).f4), .int .i64 ((rd_T49 l0 ((rd_T49 l0 0).f4)).f5)] 49 (0, 0)) (by (with_reducible repeat (first | refine blk_drewN ?_ _ | refine blk_drew ?_ | refine blk_alloc ?_ _)); refine blk_put (cs := #[.int .i64 ((rd_T49 l0 ((rd_T49 l0 0).f4)).f0), .int .i64 ((rd_T49 l0 ((rd_T49 l0 0).f4)).f1), .int .i64 ((rd_T49 l0 ((rd_T49 l0 0).f4)).f2), .int .i64 ((rd_T49 l0 ((rd_T49 l0 0).f4)).f3), .int .i64 ((rd_T49 l0 ((rd_T49 l0 0).f4)).f4), .int .i64 0]) ?_ 5 _ rfl; (with_reducible repeat (first | refine blk_drewN ?_ _ | refine blk_drew ?_ | refine blk_alloc ?_ _)); refine blk_put (cs := #[.int .i64 ((rd_T49 l0 ((rd_T49 l0 0).f4)).f0), .int .i64 ((rd_T49 l0 ((rd_T49 l0 0).f4)).f1), .int .i64 ((rd_T49 l0 ((rd_T49 l0 0).f4)).f2), .int .i64 ((rd_T49 l0 ((rd_T49 l0 0).f4)).f3), .int .i64 0, .int .i64 0]) ?_ 4 _ rfl; (with_reducible repeat (first | refine blk_drewN ?_ _ | refine blk_drew ?_ | refine blk_alloc ?_ _)); refine blk_put (cs := #[.int .i64 ((rd_T49 l0 ((rd_T49 l0 0).f4)).f0), .int .i64 ((rd_T49 l0 ((rd_T49 l0 0).f4)).f1), .int .i64 ((rd_T49 l0 ((rd_T49 l0 0).f4)).f2), .int .i64 0, .int .i64 0, .int .i64 0]) ?_ 3 _ rfl; (with_reducible repeat (first | refine blk_drewN ?_ _ | refine blk_drew ?_ | refine blk_alloc ?_ _)); refine blk_put (cs := #[.int .i64 ((rd_T49 l0 ((rd_T49 l0 0).f4)).f0), .int .i64 ((rd_T49 l0 ((rd_T49 l0 0).f4)).f1), .int .i64 0, .int .i64 0, .int .i64 0, .int .i64 0]) ?_ 2 _ rfl; (with_reducible repeat (first | refine blk_drewN ?_ _ | refine blk_drew ?_ | refine blk_alloc ?_ _)); refine blk_put (cs := #[.int .i64 ((rd_T49 l0 ((rd_T49 l0 0).f4)).f0), .int .i64 0, .int .i64 0, .int .i64 0, .int .i64 0, .int .i64 0]) ?_ 1 _ rfl; (with_reducible repeat (first | refine blk_drewN ?_ _ | refine blk_drew ?_ | refine blk_alloc ?_ _)); refine blk_put (cs := #[.int .i64 0, .int .i64 0, .int .i64 0, .int .i64 0, .int .i64 0, .int .i64 0]) ?_ 0 _ rfl; (with_reducible repeat (first | refine blk_drewN ?_ _ | refine blk_drew ?_ | refine blk_alloc ?_ _)); exact BK313.out) hb); have n2_ := Aside0.mk (below_step (by repeat (first | (with_reducible first | exact HB.out | apply below_alloc | apply pw_below_drewN | apply below_drew1 | refine below_set ?_ GE306.out | refine below_set ?_ GE313.out) | exact HB.out)) hb); clear BK306; clear BK313; clear HB; have BK306 := n0_; have BK313 := n1_; have HB := n2_; clear n0_ n1_ n2_; (try clear hb); (try clear hb2); (try clear hk); (try clear hi); have hcz57_0 : w56.cell? ⟨gb313, 0, none⟩ = some (.int .i64 ((rd_T49 l0 ((rd_T49 l0 0).f4)).f0)) := (blk_cell BK313.out 0).trans rfl; have hcz57_1 : w56.cell? ⟨gb313, 1, none⟩ = some (.int .i64 ((rd_T49 l0 ((rd_T49 l0 0).f4)).f1)) := (blk_cell BK313.out 1).trans rfl; have hcz57_2 : w56.cell? ⟨gb313, 2, none⟩ = some (.int .i64 ((rd_T49 l0 ((rd_T49 l0 0).f4)).f2)) := (blk_cell BK313.out 2).trans rfl; have hcz57_3 : w56.cell? ⟨gb313, 3, none⟩ = some (.int .i64 ((rd_T49 l0 ((rd_T49 l0 0).f4)).f3)) := (blk_cell BK313.out 3).trans rfl; have hcz57_4 : w56.cell? ⟨gb313, 4, none⟩ = some (.int .i64 ((rd_T49 l0 ((rd_T49 l0 0).f4)).f4)) := (blk_cell BK313.out 4).trans rfl; have hcz57_5 : w56.cell? ⟨gb313, 5, none⟩ = some (.int .i64 ((rd_T49 l0 ((rd_T49 l0 0).f4)).f5)) := (blk_cell BK313.out 5).trans rfl; have hfz57_0 := blk_frozen BK313.out 0; have hfz57_1 := blk_frozen BK313.out 1; have hfz57_2 := blk_frozen BK313.out 2; have hfz57_3 := blk_frozen BK313.out 3; have hfz57_4 := blk_frozen BK313.out 4; have hfz57_5 := blk_frozen BK313.out 5))
            go_meet
            case rel => exact ⟨_, (true), (by first | rfl | (simp; done) | (simp [*]; done)), H', ⟨by have := HJ2.out; first | omega | exact Nat.le_refl _⟩, ⟨by (with_reducible repeat (first | refine blk_drewN ?_ _ | refine blk_drew ?_ | refine blk_alloc ?_ _)); exact BK306.out⟩, ⟨by (with_reducible repeat (first | refine blk_drewN ?_ _ | refine blk_drew ?_ | refine blk_alloc ?_ _)); exact BK313.out⟩, ⟨by repeat (first | (with_reducible first | exact HB.out | apply below_alloc | apply pw_below_drewN | apply below_drew1 | refine below_set ?_ GE306.out | refine below_set ?_ GE313.out) | exact HB.out)⟩⟩
          ·
           rw [if_neg c44] at H
           have c44b0 : (((rd_T49 l0 ((rd_T49 l0 0).f4)).f1) == 1) = false := beq_eq_false_iff_ne.mpr c44
           have c44b1 : (((rd_T49 l0 ((rd_T49 l0 0).f4)).f1) != 1) = true := bne_iff_ne.mpr c44
           (first | rw [c44b0] | (simp only [i64_w, i32_w]; rw [c44b0]) | skip)
           have H' := Aside0.mk H
           clear H
           have hnb58 := NB313_306.out
           have hnc58 := NB306_313.out
           have hcz59_0 : w36.cell? ⟨gb313, 0, none⟩ = some (.int .i64 0) := (blk_cell BK313.out 0).trans rfl
           have hcz59_1 : w36.cell? ⟨gb313, 1, none⟩ = some (.int .i64 0) := (blk_cell BK313.out 1).trans rfl
           have hcz59_2 : w36.cell? ⟨gb313, 2, none⟩ = some (.int .i64 0) := (blk_cell BK313.out 2).trans rfl
           have hcz59_3 : w36.cell? ⟨gb313, 3, none⟩ = some (.int .i64 0) := (blk_cell BK313.out 3).trans rfl
           have hcz59_4 : w36.cell? ⟨gb313, 4, none⟩ = some (.int .i64 0) := (blk_cell BK313.out 4).trans rfl
           have hcz59_5 : w36.cell? ⟨gb313, 5, none⟩ = some (.int .i64 0) := (blk_cell BK313.out 5).trans rfl
           have hfz59_0 := blk_frozen BK313.out 0
           have hfz59_1 := blk_frozen BK313.out 1
           have hfz59_2 := blk_frozen BK313.out 2
           have hfz59_3 := blk_frozen BK313.out 3
           have hfz59_4 := blk_frozen BK313.out 4
           have hfz59_5 := blk_frozen BK313.out 5
           go_wp2_with (first | ((with_reducible refine gate_callee (f := 53) rfl ?_); refine goesL_ (some 44) rfl rfl Try.func53 (by kernel_rfl) rfl #[.agg #[.int .i64 ((rd_T49 l0 ((rd_T49 l0 0).f4)).f0), .int .i64 ((rd_T49 l0 ((rd_T49 l0 0).f4)).f1), .int .i64 ((rd_T49 l0 ((rd_T49 l0 0).f4)).f2), .int .i64 ((rd_T49 l0 ((rd_T49 l0 0).f4)).f3), .int .i64 ((rd_T49 l0 ((rd_T49 l0 0).f4)).f4), .int .i64 ((rd_T49 l0 ((rd_T49 l0 0).f4)).f5)]] rfl (by (try simp only [List.map_toArray, List.map_cons, List.map_nil]); first | done | rfl | (simp only [List.length_drop, List.length_take]; rfl)) ?_; (with_reducible refine (larchref17_leaf.calls ((rd_T49 l0 ((rd_T49 l0 0).f4)).f0) ((rd_T49 l0 ((rd_T49 l0 0).f4)).f1) ((rd_T49 l0 ((rd_T49 l0 0).f4)).f2) ((rd_T49 l0 ((rd_T49 l0 0).f4)).f3) ((rd_T49 l0 ((rd_T49 l0 0).f4)).f4) ((rd_T49 l0 ((rd_T49 l0 0).f4)).f5) false _ A39.out).mono ?_); rintro e w60 ⟨rfl, hb⟩; refine ⟨_, rfl, ?_⟩; have n0_ := Aside0.mk (blk_below (g := gb306) (o := .cells #[.int .i64 ((rd_T49 l0 0).f0), .int .i64 ((rd_T49 l0 0).f1), .int .i64 ((rd_T49 l0 0).f2), .int .i64 ((rd_T49 l0 0).f3), .int .i64 ((rd_T49 l0 0).f4), .int .i64 ((rd_T49 l0 0).f5)] 49 (0, 0)) (by (with_reducible repeat (first | refine blk_drewN ?_ _ | refine blk_drew ?_ | refine blk_alloc ?_ _)); refine blk_far ?_ NB306_313.out _; (with_reducible repeat (first | refine blk_drewN ?_ _ | refine blk_drew ?_ | refine blk_alloc ?_ _)); refine blk_far ?_ NB306_313.out _; (with_reducible repeat (first | refine blk_drewN ?_ _ | refine blk_drew ?_ | refine blk_alloc ?_ _)); refine blk_far ?_ NB306_313.out _; (with_reducible repeat (first | refine blk_drewN ?_ _ | refine blk_drew ?_ | refine blk_alloc ?_ _)); refine blk_far ?_ NB306_313.out _; (with_reducible repeat (first | refine blk_drewN ?_ _ | refine blk_drew ?_ | refine blk_alloc ?_ _)); refine blk_far ?_ NB306_313.out _; (with_reducible repeat (first | refine blk_drewN ?_ _ | refine blk_drew ?_ | refine blk_alloc ?_ _)); refine blk_far ?_ NB306_313.out _; (with_reducible repeat (first | refine blk_drewN ?_ _ | refine blk_drew ?_ | refine blk_alloc ?_ _)); exact BK306.out) hb); have n1_ := Aside0.mk (blk_below (g := gb313) (o := .cells #[.int .i64 ((rd_T49 l0 ((rd_T49 l0 0).f4)).f0), .int .i64 ((rd_T49 l0 ((rd_T49 l0 0).f4)).f1), .int .i64 ((rd_T49 l0 ((rd_T49 l0 0).f4)).f2), .int .i64 ((rd_T49 l0 ((rd_T49 l0 0).f4)).f3), .int .i64 ((rd_T49 l0 ((rd_T49 l0 0).f4)).f4), .int .i64 ((rd_T49 l0 ((rd_T49 l0 0).f4)).f5)] 49 (0, 0)) (by (with_reducible repeat (first | refine blk_drewN ?_ _ | refine blk_drew ?_ | refine blk_alloc ?_ _)); refine blk_put (cs := #[.int .i64 ((rd_T49 l0 ((rd_T49 l0 0).f4)).f0), .int .i64 ((rd_T49 l0 ((rd_T49 l0 0).f4)).f1), .int .i64 ((rd_T49 l0 ((rd_T49 l0 0).f4)).f2), .int .i64 ((rd_T49 l0 ((rd_T49 l0 0).f4)).f3), .int .i64 ((rd_T49 l0 ((rd_T49 l0 0).f4)).f4), .int .i64 0]) ?_ 5 _ rfl; (with_reducible repeat (first | refine blk_drewN ?_ _ | refine blk_drew ?_ | refine blk_alloc ?_ _)); refine blk_put (cs := #[.int .i64 ((rd_T49 l0 ((rd_T49 l0 0).f4)).f0), .int .i64 ((rd_T49 l0 ((rd_T49 l0 0).f4)).f1), .int .i64 ((rd_T49 l0 ((rd_T49 l0 0).f4)).f2), .int .i64 ((rd_T49 l0 ((rd_T49 l0 0).f4)).f3), .int .i64 0, .int .i64 0]) ?_ 4 _ rfl; (with_reducible repeat (first | refine blk_drewN ?_ _ | refine blk_drew ?_ | refine blk_alloc ?_ _)); refine blk_put (cs := #[.int .i64 ((rd_T49 l0 ((rd_T49 l0 0).f4)).f0), .int .i64 ((rd_T49 l0 ((rd_T49 l0 0).f4)).f1), .int .i64 ((rd_T49 l0 ((rd_T49 l0 0).f4)).f2), .int .i64 0, .int .i64 0, .int .i64 0]) ?_ 3 _ rfl; (with_reducible repeat (first | refine blk_drewN ?_ _ | refine blk_drew ?_ | refine blk_alloc ?_ _)); refine blk_put (cs := #[.int .i64 ((rd_T49 l0 ((rd_T49 l0 0).f4)).f0), .int .i64 ((rd_T49 l0 ((rd_T49 l0 0).f4)).f1), .int .i64 0, .int .i64 0, .int .i64 0, .int .i64 0]) ?_ 2 _ rfl; (with_reducible repeat (first | refine blk_drewN ?_ _ | refine blk_drew ?_ | refine blk_alloc ?_ _)); refine blk_put (cs := #[.int .i64 ((rd_T49 l0 ((rd_T49 l0 0).f4)).f0), .int .i64 0, .int .i64 0, .int .i64 0, .int .i64 0, .int .i64 0]) ?_ 1 _ rfl; (with_reducible repeat (first | refine blk_drewN ?_ _ | refine blk_drew ?_ | refine blk_alloc ?_ _)); refine blk_put (cs := #[.int .i64 0, .int .i64 0, .int .i64 0, .int .i64 0, .int .i64 0, .int .i64 0]) ?_ 0 _ rfl; (with_reducible repeat (first | refine blk_drewN ?_ _ | refine blk_drew ?_ | refine blk_alloc ?_ _)); exact BK313.out) hb); have n2_ := Aside0.mk (below_step (by repeat (first | (with_reducible first | exact HB.out | apply below_alloc | apply pw_below_drewN | apply below_drew1 | refine below_set ?_ GE306.out | refine below_set ?_ GE313.out) | exact HB.out)) hb); clear BK306; clear BK313; clear HB; have BK306 := n0_; have BK313 := n1_; have HB := n2_; clear n0_ n1_ n2_; (try clear hb); (try clear hb2); (try clear hk); (try clear hi); have hcz61_0 : w60.cell? ⟨gb313, 0, none⟩ = some (.int .i64 ((rd_T49 l0 ((rd_T49 l0 0).f4)).f0)) := (blk_cell BK313.out 0).trans rfl; have hcz61_1 : w60.cell? ⟨gb313, 1, none⟩ = some (.int .i64 ((rd_T49 l0 ((rd_T49 l0 0).f4)).f1)) := (blk_cell BK313.out 1).trans rfl; have hcz61_2 : w60.cell? ⟨gb313, 2, none⟩ = some (.int .i64 ((rd_T49 l0 ((rd_T49 l0 0).f4)).f2)) := (blk_cell BK313.out 2).trans rfl; have hcz61_3 : w60.cell? ⟨gb313, 3, none⟩ = some (.int .i64 ((rd_T49 l0 ((rd_T49 l0 0).f4)).f3)) := (blk_cell BK313.out 3).trans rfl; have hcz61_4 : w60.cell? ⟨gb313, 4, none⟩ = some (.int .i64 ((rd_T49 l0 ((rd_T49 l0 0).f4)).f4)) := (blk_cell BK313.out 4).trans rfl; have hcz61_5 : w60.cell? ⟨gb313, 5, none⟩ = some (.int .i64 ((rd_T49 l0 ((rd_T49 l0 0).f4)).f5)) := (blk_cell BK313.out 5).trans rfl; have hfz61_0 := blk_frozen BK313.out 0; have hfz61_1 := blk_frozen BK313.out 1; have hfz61_2 := blk_frozen BK313.out 2; have hfz61_3 := blk_frozen BK313.out 3; have hfz61_4 := blk_frozen BK313.out 4; have hfz61_5 := blk_frozen BK313.out 5))
           go_meet
           case rel => exact ⟨_, (true), (by first | rfl | (simp; done) | (simp [*]; done)), H', ⟨by have := HJ2.out; first | omega | exact Nat.le_refl _⟩, ⟨by (with_reducible repeat (first | refine blk_drewN ?_ _ | refine blk_drew ?_ | refine blk_alloc ?_ _)); exact BK306.out⟩, ⟨by (with_reducible repeat (first | refine blk_drewN ?_ _ | refine blk_drew ?_ | refine blk_alloc ?_ _)); exact BK313.out⟩, ⟨by repeat (first | (with_reducible first | exact HB.out | apply below_alloc | apply pw_below_drewN | apply below_drew1 | refine below_set ?_ GE306.out | refine below_set ?_ GE313.out) | exact HB.out)⟩⟩
        case rest =>
         clear HC32
         try clear c1
         try clear c2
         try clear c2b0
         try clear c2b1
         try clear p2
         try clear c3
         try clear p3
         try clear q3
         try clear hx3
         try clear qi3
         try clear c4
         try clear c5
         try clear c7
         try clear c10
         try clear c10b0
         try clear c10b1
         try clear c11
         try clear c11b0
         try clear c11b1
         try clear c12
         try clear c12b0
         try clear c13
         try clear c13b0
         try clear c25
         try clear c26
         try clear c26b0
         try clear c27
         try clear c27b0
         try clear c29
         try clear p30
         try clear q30
         try clear hx30
         try clear qi30
         try clear p31
         try clear q31
         try clear hx31
         try clear c37
         try clear c40
         try clear c41
         try clear c44
         try clear c44b0
         try clear c44b1
         try clear c45
         try clear c45b0
         try clear c45b1
         try clear c46
         try clear c46b0
         try clear c47
         try clear c47b0
         try clear c49
         try clear c53
         try clear c54
         try clear c58
         try clear hcz15_0
         try clear hcz15_1
         try clear hcz15_2
         try clear hcz15_3
         try clear hcz15_4
         try clear hcz15_5
         try clear hcz17_0
         try clear hcz17_1
         try clear hcz17_2
         try clear hcz17_3
         try clear hcz17_4
         try clear hcz17_5
         try clear hcz19_0
         try clear hcz19_1
         try clear hcz19_2
         try clear hcz19_3
         try clear hcz19_4
         try clear hcz19_5
         try clear hcz21_0
         try clear hcz21_1
         try clear hcz21_2
         try clear hcz21_3
         try clear hcz21_4
         try clear hcz21_5
         try clear hcz22_0
         try clear hcz22_1
         try clear hcz22_2
         try clear hcz22_3
         try clear hcz22_4
         try clear hcz22_5
         try clear hcz24_0
         try clear hcz24_1
         try clear hcz24_2
         try clear hcz24_3
         try clear hcz24_4
         try clear hcz24_5
         try clear hcz30_0
         try clear hcz30_1
         try clear hcz30_2
         try clear hcz30_3
         try clear hcz30_4
         try clear hcz30_5
         try clear hcz33_0
         try clear hcz33_1
         try clear hcz33_2
         try clear hcz33_3
         try clear hcz33_4
         try clear hcz33_5
         try clear hcz35_0
         try clear hcz35_1
         try clear hcz35_2
         try clear hcz35_3
         try clear hcz35_4
         try clear hcz35_5
         try clear hcz38_0
         try clear hcz38_1
         try clear hcz38_2
         try clear hcz38_3
         try clear hcz38_4
         try clear hcz38_5
         try clear hcz42_0
         try clear hcz42_1
         try clear hcz42_2
         try clear hcz42_3
         try clear hcz42_4
         try clear hcz42_5
         try clear hcz50_0
         try clear hcz50_1
         try clear hcz50_2
         try clear hcz50_3
         try clear hcz50_4
         try clear hcz50_5
         try clear hcz52_0
         try clear hcz52_1
         try clear hcz52_2
         try clear hcz52_3
         try clear hcz52_4
         try clear hcz52_5
         try clear hcz55_0
         try clear hcz55_1
         try clear hcz55_2
         try clear hcz55_3
         try clear hcz55_4
         try clear hcz55_5
         try clear hcz57_0
         try clear hcz57_1
         try clear hcz57_2
         try clear hcz57_3
         try clear hcz57_4
         try clear hcz57_5
         try clear hcz59_0
         try clear hcz59_1
         try clear hcz59_2
         try clear hcz59_3
         try clear hcz59_4
         try clear hcz59_5
         try clear hcz5_0
         try clear hcz5_1
         try clear hcz5_2
         try clear hcz5_3
         try clear hcz5_4
         try clear hcz5_5
         try clear hcz61_0
         try clear hcz61_1
         try clear hcz61_2
         try clear hcz61_3
         try clear hcz61_4
         try clear hcz61_5
         try clear hcz8_0
         try clear hcz8_1
         try clear hcz8_2
         try clear hcz8_3
         try clear hcz8_4
         try clear hcz8_5
         try clear hfz15_0
         try clear hfz15_1
         try clear hfz15_2
         try clear hfz15_3
         try clear hfz15_4
         try clear hfz15_5
         try clear hfz17_0
         try clear hfz17_1
         try clear hfz17_2
         try clear hfz17_3
         try clear hfz17_4
         try clear hfz17_5
         try clear hfz19_0
         try clear hfz19_1
         try clear hfz19_2
         try clear hfz19_3
         try clear hfz19_4
         try clear hfz19_5
         try clear hfz21_0
         try clear hfz21_1
         try clear hfz21_2
         try clear hfz21_3
         try clear hfz21_4
         try clear hfz21_5
         try clear hfz22_0
         try clear hfz22_1
         try clear hfz22_2
         try clear hfz22_3
         try clear hfz22_4
         try clear hfz22_5
         try clear hfz24_0
         try clear hfz24_1
         try clear hfz24_2
         try clear hfz24_3
         try clear hfz24_4
         try clear hfz24_5
         try clear hfz30_0
         try clear hfz30_1
         try clear hfz30_2
         try clear hfz30_3
         try clear hfz30_4
         try clear hfz30_5
         try clear hfz33_0
         try clear hfz33_1
         try clear hfz33_2
         try clear hfz33_3
         try clear hfz33_4
         try clear hfz33_5
         try clear hfz35_0
         try clear hfz35_1
         try clear hfz35_2
         try clear hfz35_3
         try clear hfz35_4
         try clear hfz35_5
         try clear hfz38_0
         try clear hfz38_1
         try clear hfz38_2
         try clear hfz38_3
         try clear hfz38_4
         try clear hfz38_5
         try clear hfz42_0
         try clear hfz42_1
         try clear hfz42_2
         try clear hfz42_3
         try clear hfz42_4
         try clear hfz42_5
         try clear hfz50_0
         try clear hfz50_1
         try clear hfz50_2
         try clear hfz50_3
         try clear hfz50_4
         try clear hfz50_5
         try clear hfz52_0
         try clear hfz52_1
         try clear hfz52_2
         try clear hfz52_3
         try clear hfz52_4
         try clear hfz52_5
         try clear hfz55_0
         try clear hfz55_1
         try clear hfz55_2
         try clear hfz55_3
         try clear hfz55_4
         try clear hfz55_5
         try clear hfz57_0
         try clear hfz57_1
         try clear hfz57_2
         try clear hfz57_3
         try clear hfz57_4
         try clear hfz57_5
         try clear hfz59_0
         try clear hfz59_1
         try clear hfz59_2
         try clear hfz59_3
         try clear hfz59_4
         try clear hfz59_5
         try clear hfz5_0
         try clear hfz5_1
         try clear hfz5_2
         try clear hfz5_3
         try clear hfz5_4
         try clear hfz5_5
         try clear hfz61_0
         try clear hfz61_1
         try clear hfz61_2
         try clear hfz61_3
         try clear hfz61_4
         try clear hfz61_5
         try clear hfz8_0
         try clear hfz8_1
         try clear hfz8_2
         try clear hfz8_3
         try clear hfz8_4
         try clear hfz8_5
         try clear hx305_0
         try clear hx305_1
         try clear hx305_2
         try clear hx305_3
         try clear hx305_4
         try clear hx305_5
         try clear hx308_0
         try clear hx308_1
         try clear hx308_2
         try clear hx308_3
         try clear hx308_4
         try clear hx308_5
         try clear hx310_0
         try clear hx310_1
         try clear hx310_2
         try clear hx310_3
         try clear hx310_4
         try clear hx310_5
         try clear hx312_0
         try clear hx312_1
         try clear hx312_2
         try clear hx312_3
         try clear hx312_4
         try clear hx312_5
         try clear hx315_0
         try clear hx315_1
         try clear hx315_2
         try clear hx315_3
         try clear hx315_4
         try clear hx315_5
         try clear p2
         try clear p3
         try clear p305
         try clear p308
         try clear p310
         try clear p312
         try clear p315
         try clear q3
         try clear q305
         try clear q308
         try clear q310
         try clear q312
         try clear q315
         obtain ⟨kq, x63_31, rfl, HA, HJ31, BK306, BK313, HB⟩ := hcut
         cases kq with
         | zero => exact absurd HA.out (by simp [larchref17_Root.j1])
         | succ kj31 =>
          have H := HA.out
          clear HA
          simp only [larchref17_Root.j1] at H
          by_cases c62 : x63_31 = true
          ·
           subst c62
           have H1 : (some ((-1), false)) = some (r1, r2) := by rw [if_pos rfl] at H; exact H
           clear H
           have H := H1
           clear H1
           simp only [Option.some.injEq, Prod.mk.injEq] at H
           obtain ⟨rfl, rfl⟩ := H
           go_wp2
           go_ret2
           exact ⟨by first | rfl | (simp [errW_none, errW_some] <;> rfl) | (simp [*, errW_none, errW_some] <;> rfl), by repeat (first | (with_reducible first | exact HB.out | apply below_alloc | apply pw_below_drewN | apply below_drew1 | refine below_set ?_ GE306.out | refine below_set ?_ GE313.out) | exact HB.out)⟩
          ·
           replace c62 := Bool.eq_false_iff.mpr c62
           subst c62
           have H1 : ((larchref17_Order.f kj31 l0 ((rd_T49 l0 ((rd_T49 l0 0).f4)).f4)).bind fun t317 => (larchref17_Root.l0 kj31 l0 t317 0 ((rd_T49 l0 ((rd_T49 l0 0).f4)).f0) ((rd_T49 l0 ((rd_T49 l0 0).f4)).f1) ((rd_T49 l0 ((rd_T49 l0 0).f4)).f2) ((rd_T49 l0 ((rd_T49 l0 0).f4)).f3) ((rd_T49 l0 ((rd_T49 l0 0).f4)).f4) ((rd_T49 l0 ((rd_T49 l0 0).f4)).f5))) = some (r1, r2) := by rw [if_neg (show ¬ (false = true) by decide)] at H; exact H
           clear H
           have H := H1
           clear H1
           replace H := Option.bind_eq_some_iff.mp H
           obtain ⟨t317, A630, H⟩ := H
           replace H : (larchref17_Root.l0 kj31 l0 t317 0 ((rd_T49 l0 ((rd_T49 l0 0).f4)).f0) ((rd_T49 l0 ((rd_T49 l0 0).f4)).f1) ((rd_T49 l0 ((rd_T49 l0 0).f4)).f2) ((rd_T49 l0 ((rd_T49 l0 0).f4)).f3) ((rd_T49 l0 ((rd_T49 l0 0).f4)).f4) ((rd_T49 l0 ((rd_T49 l0 0).f4)).f5)) = some (r1, r2) := H
           have A63 := Aside0.mk A630
           clear A630
           have H' := Aside0.mk H
           clear H
           have hnb64 := NB313_306.out
           have hnc64 := NB306_313.out
           have hcz65_0 : wc.cell? ⟨gb313, 0, none⟩ = some (.int .i64 ((rd_T49 l0 ((rd_T49 l0 0).f4)).f0)) := (blk_cell BK313.out 0).trans rfl
           have hcz65_1 : wc.cell? ⟨gb313, 1, none⟩ = some (.int .i64 ((rd_T49 l0 ((rd_T49 l0 0).f4)).f1)) := (blk_cell BK313.out 1).trans rfl
           have hcz65_2 : wc.cell? ⟨gb313, 2, none⟩ = some (.int .i64 ((rd_T49 l0 ((rd_T49 l0 0).f4)).f2)) := (blk_cell BK313.out 2).trans rfl
           have hcz65_3 : wc.cell? ⟨gb313, 3, none⟩ = some (.int .i64 ((rd_T49 l0 ((rd_T49 l0 0).f4)).f3)) := (blk_cell BK313.out 3).trans rfl
           have hcz65_4 : wc.cell? ⟨gb313, 4, none⟩ = some (.int .i64 ((rd_T49 l0 ((rd_T49 l0 0).f4)).f4)) := (blk_cell BK313.out 4).trans rfl
           have hcz65_5 : wc.cell? ⟨gb313, 5, none⟩ = some (.int .i64 ((rd_T49 l0 ((rd_T49 l0 0).f4)).f5)) := (blk_cell BK313.out 5).trans rfl
           have hfz65_0 := blk_frozen BK313.out 0
           have hfz65_1 := blk_frozen BK313.out 1
           have hfz65_2 := blk_frozen BK313.out 2
           have hfz65_3 := blk_frozen BK313.out 3
           have hfz65_4 := blk_frozen BK313.out 4
           have hfz65_5 := blk_frozen BK313.out 5
           go_wp2_with (first | ((with_reducible refine gate_callee (f := 27) rfl ?_); refine goesL_ (some 67) rfl rfl Try.func27 (by kernel_rfl) rfl #[.slice (some ad305) l0.length c0, .int .i64 ((rd_T49 l0 ((rd_T49 l0 0).f4)).f4)] rfl (by (try simp only [List.map_toArray, List.map_cons, List.map_nil]); first | done | rfl | (simp only [List.length_drop, List.length_take]; rfl)) ?_; (with_reducible refine (larchref17_Order.calls kj31 _ _ l0 ((rd_T49 l0 ((rd_T49 l0 0).f4)).f4) t317 _ ?side1 ?side2 A63.out).mono ?_); (case side1 => repeat (first | exact (Kd.C_below HR0.out HB.out) | (with_reducible refine Kd.C_alloc ?_ _) | (with_reducible refine Kd.C_drewN ?_ _) | (with_reducible refine Kd.C_drew ?_))); (case side2 => exact HC0.out); rintro e w66 ⟨v318, rfl, ho0, hb⟩; refine ⟨_, rfl, ?_⟩; have n0_ := Aside0.mk (Kd.R_lower ho0 (below_size (by repeat (first | (with_reducible first | exact HB.out | apply below_alloc | apply pw_below_drewN | apply below_drew1 | refine below_set ?_ GE306.out | refine below_set ?_ GE313.out) | exact HB.out)))); have n1_ := Aside0.mk (blk_below (g := gb306) (o := .cells #[.int .i64 ((rd_T49 l0 0).f0), .int .i64 ((rd_T49 l0 0).f1), .int .i64 ((rd_T49 l0 0).f2), .int .i64 ((rd_T49 l0 0).f3), .int .i64 ((rd_T49 l0 0).f4), .int .i64 ((rd_T49 l0 0).f5)] 49 (0, 0)) (by (with_reducible repeat (first | refine blk_drewN ?_ _ | refine blk_drew ?_ | refine blk_alloc ?_ _)); exact BK306.out) hb); have n2_ := Aside0.mk (blk_below (g := gb313) (o := .cells #[.int .i64 ((rd_T49 l0 ((rd_T49 l0 0).f4)).f0), .int .i64 ((rd_T49 l0 ((rd_T49 l0 0).f4)).f1), .int .i64 ((rd_T49 l0 ((rd_T49 l0 0).f4)).f2), .int .i64 ((rd_T49 l0 ((rd_T49 l0 0).f4)).f3), .int .i64 ((rd_T49 l0 ((rd_T49 l0 0).f4)).f4), .int .i64 ((rd_T49 l0 ((rd_T49 l0 0).f4)).f5)] 49 (0, 0)) (by (with_reducible repeat (first | refine blk_drewN ?_ _ | refine blk_drew ?_ | refine blk_alloc ?_ _)); exact BK313.out) hb); have n3_ := Aside0.mk (below_step (by repeat (first | (with_reducible first | exact HB.out | apply below_alloc | apply pw_below_drewN | apply below_drew1 | refine below_set ?_ GE306.out | refine below_set ?_ GE313.out) | exact HB.out)) hb); clear BK306; clear BK313; clear HB; have HO319 := n0_; have BK306 := n1_; have BK313 := n2_; have HB := n3_; clear n0_ n1_ n2_ n3_; (try clear hb); (try clear hb2); (try clear hk); (try clear hi); (try clear ho0)))
           go_loopg [7] kj31 (fun kq v7 w' => ∃ (x7_3 : Int), v7 = .int .i64 x7_3 ∧ Aside0 (larchref17_Root.l0 kq l0 t317 x7_3 ((rd_T49 l0 ((rd_T49 l0 0).f4)).f0) ((rd_T49 l0 ((rd_T49 l0 0).f4)).f1) ((rd_T49 l0 ((rd_T49 l0 0).f4)).f2) ((rd_T49 l0 ((rd_T49 l0 0).f4)).f3) ((rd_T49 l0 ((rd_T49 l0 0).f4)).f4) ((rd_T49 l0 ((rd_T49 l0 0).f4)).f5) = some (r1, r2)) ∧ Aside0 (kq ≤ kj31) ∧ Aside0 (Kd.R (Kd.int .i64) 3 w' w.heap.size (fun _ => True) v318 t317) ∧ Aside0 (w'.heap[gb306]? = some (.cells #[.int .i64 ((rd_T49 l0 0).f0), .int .i64 ((rd_T49 l0 0).f1), .int .i64 ((rd_T49 l0 0).f2), .int .i64 ((rd_T49 l0 0).f3), .int .i64 ((rd_T49 l0 0).f4), .int .i64 ((rd_T49 l0 0).f5)] 49 (0, 0))) ∧ Aside0 (w'.heap[gb313]? = some (.cells #[.int .i64 ((rd_T49 l0 ((rd_T49 l0 0).f4)).f0), .int .i64 ((rd_T49 l0 ((rd_T49 l0 0).f4)).f1), .int .i64 ((rd_T49 l0 ((rd_T49 l0 0).f4)).f2), .int .i64 ((rd_T49 l0 ((rd_T49 l0 0).f4)).f3), .int .i64 ((rd_T49 l0 ((rd_T49 l0 0).f4)).f4), .int .i64 ((rd_T49 l0 ((rd_T49 l0 0).f4)).f5)] 49 (0, 0))) ∧ Aside0 (Below w.heap.size w w'))
           case atStart => exact ⟨(0), (by first | rfl | (simp; done) | (simp [*]; done)), H', ⟨Nat.le_refl _⟩, ⟨by (with_reducible repeat (first | apply Kd.R_alloc | apply Kd.R_drewN | apply Kd.R_drew)); exact HO319.out⟩, ⟨by (with_reducible repeat (first | refine blk_drewN ?_ _ | refine blk_drew ?_ | refine blk_alloc ?_ _)); exact BK306.out⟩, ⟨by (with_reducible repeat (first | refine blk_drewN ?_ _ | refine blk_drew ?_ | refine blk_alloc ?_ _)); exact BK313.out⟩, ⟨by repeat (first | (with_reducible first | exact HB.out | apply below_alloc | apply pw_below_drewN | apply below_drew1 | refine below_set ?_ GE306.out | refine below_set ?_ GE313.out) | exact HB.out)⟩⟩
           case round =>
            clear H'
            try clear c1
            try clear c2
            try clear c2b0
            try clear c2b1
            try clear p2
            try clear c3
            try clear p3
            try clear q3
            try clear hx3
            try clear qi3
            try clear c4
            try clear c5
            try clear c6
            try clear c7
            try clear c10
            try clear c10b0
            try clear c10b1
            try clear c11
            try clear c11b0
            try clear c11b1
            try clear c12
            try clear c12b0
            try clear c13
            try clear c13b0
            try clear c25
            try clear c26
            try clear c26b0
            try clear c27
            try clear c27b0
            try clear c29
            try clear p30
            try clear q30
            try clear hx30
            try clear qi30
            try clear p31
            try clear q31
            try clear hx31
            try clear c37
            try clear c40
            try clear c41
            try clear c44
            try clear c44b0
            try clear c44b1
            try clear c45
            try clear c45b0
            try clear c45b1
            try clear c46
            try clear c46b0
            try clear c47
            try clear c47b0
            try clear c49
            try clear c53
            try clear c54
            try clear c58
            try clear c62
            try clear c64
            try clear hcz15_0
            try clear hcz15_1
            try clear hcz15_2
            try clear hcz15_3
            try clear hcz15_4
            try clear hcz15_5
            try clear hcz17_0
            try clear hcz17_1
            try clear hcz17_2
            try clear hcz17_3
            try clear hcz17_4
            try clear hcz17_5
            try clear hcz19_0
            try clear hcz19_1
            try clear hcz19_2
            try clear hcz19_3
            try clear hcz19_4
            try clear hcz19_5
            try clear hcz21_0
            try clear hcz21_1
            try clear hcz21_2
            try clear hcz21_3
            try clear hcz21_4
            try clear hcz21_5
            try clear hcz22_0
            try clear hcz22_1
            try clear hcz22_2
            try clear hcz22_3
            try clear hcz22_4
            try clear hcz22_5
            try clear hcz24_0
            try clear hcz24_1
            try clear hcz24_2
            try clear hcz24_3
            try clear hcz24_4
            try clear hcz24_5
            try clear hcz30_0
            try clear hcz30_1
            try clear hcz30_2
            try clear hcz30_3
            try clear hcz30_4
            try clear hcz30_5
            try clear hcz33_0
            try clear hcz33_1
            try clear hcz33_2
            try clear hcz33_3
            try clear hcz33_4
            try clear hcz33_5
            try clear hcz35_0
            try clear hcz35_1
            try clear hcz35_2
            try clear hcz35_3
            try clear hcz35_4
            try clear hcz35_5
            try clear hcz38_0
            try clear hcz38_1
            try clear hcz38_2
            try clear hcz38_3
            try clear hcz38_4
            try clear hcz38_5
            try clear hcz42_0
            try clear hcz42_1
            try clear hcz42_2
            try clear hcz42_3
            try clear hcz42_4
            try clear hcz42_5
            try clear hcz50_0
            try clear hcz50_1
            try clear hcz50_2
            try clear hcz50_3
            try clear hcz50_4
            try clear hcz50_5
            try clear hcz52_0
            try clear hcz52_1
            try clear hcz52_2
            try clear hcz52_3
            try clear hcz52_4
            try clear hcz52_5
            try clear hcz55_0
            try clear hcz55_1
            try clear hcz55_2
            try clear hcz55_3
            try clear hcz55_4
            try clear hcz55_5
            try clear hcz57_0
            try clear hcz57_1
            try clear hcz57_2
            try clear hcz57_3
            try clear hcz57_4
            try clear hcz57_5
            try clear hcz59_0
            try clear hcz59_1
            try clear hcz59_2
            try clear hcz59_3
            try clear hcz59_4
            try clear hcz59_5
            try clear hcz5_0
            try clear hcz5_1
            try clear hcz5_2
            try clear hcz5_3
            try clear hcz5_4
            try clear hcz5_5
            try clear hcz61_0
            try clear hcz61_1
            try clear hcz61_2
            try clear hcz61_3
            try clear hcz61_4
            try clear hcz61_5
            try clear hcz65_0
            try clear hcz65_1
            try clear hcz65_2
            try clear hcz65_3
            try clear hcz65_4
            try clear hcz65_5
            try clear hcz8_0
            try clear hcz8_1
            try clear hcz8_2
            try clear hcz8_3
            try clear hcz8_4
            try clear hcz8_5
            try clear hfz15_0
            try clear hfz15_1
            try clear hfz15_2
            try clear hfz15_3
            try clear hfz15_4
            try clear hfz15_5
            try clear hfz17_0
            try clear hfz17_1
            try clear hfz17_2
            try clear hfz17_3
            try clear hfz17_4
            try clear hfz17_5
            try clear hfz19_0
            try clear hfz19_1
            try clear hfz19_2
            try clear hfz19_3
            try clear hfz19_4
            try clear hfz19_5
            try clear hfz21_0
            try clear hfz21_1
            try clear hfz21_2
            try clear hfz21_3
            try clear hfz21_4
            try clear hfz21_5
            try clear hfz22_0
            try clear hfz22_1
            try clear hfz22_2
            try clear hfz22_3
            try clear hfz22_4
            try clear hfz22_5
            try clear hfz24_0
            try clear hfz24_1
            try clear hfz24_2
            try clear hfz24_3
            try clear hfz24_4
            try clear hfz24_5
            try clear hfz30_0
            try clear hfz30_1
            try clear hfz30_2
            try clear hfz30_3
            try clear hfz30_4
            try clear hfz30_5
            try clear hfz33_0
            try clear hfz33_1
            try clear hfz33_2
            try clear hfz33_3
            try clear hfz33_4
            try clear hfz33_5
            try clear hfz35_0
            try clear hfz35_1
            try clear hfz35_2
            try clear hfz35_3
            try clear hfz35_4
            try clear hfz35_5
            try clear hfz38_0
            try clear hfz38_1
            try clear hfz38_2
            try clear hfz38_3
            try clear hfz38_4
            try clear hfz38_5
            try clear hfz42_0
            try clear hfz42_1
            try clear hfz42_2
            try clear hfz42_3
            try clear hfz42_4
            try clear hfz42_5
            try clear hfz50_0
            try clear hfz50_1
            try clear hfz50_2
            try clear hfz50_3
            try clear hfz50_4
            try clear hfz50_5
            try clear hfz52_0
            try clear hfz52_1
            try clear hfz52_2
            try clear hfz52_3
            try clear hfz52_4
            try clear hfz52_5
            try clear hfz55_0
            try clear hfz55_1
            try clear hfz55_2
            try clear hfz55_3
            try clear hfz55_4
            try clear hfz55_5
            try clear hfz57_0
            try clear hfz57_1
            try clear hfz57_2
            try clear hfz57_3
            try clear hfz57_4
            try clear hfz57_5
            try clear hfz59_0
            try clear hfz59_1
            try clear hfz59_2
            try clear hfz59_3
            try clear hfz59_4
            try clear hfz59_5
            try clear hfz5_0
            try clear hfz5_1
            try clear hfz5_2
            try clear hfz5_3
            try clear hfz5_4
            try clear hfz5_5
            try clear hfz61_0
            try clear hfz61_1
            try clear hfz61_2
            try clear hfz61_3
            try clear hfz61_4
            try clear hfz61_5
            try clear hfz65_0
            try clear hfz65_1
            try clear hfz65_2
            try clear hfz65_3
            try clear hfz65_4
            try clear hfz65_5
            try clear hfz8_0
            try clear hfz8_1
            try clear hfz8_2
            try clear hfz8_3
            try clear hfz8_4
            try clear hfz8_5
            try clear hx305_0
            try clear hx305_1
            try clear hx305_2
            try clear hx305_3
            try clear hx305_4
            try clear hx305_5
            try clear hx308_0
            try clear hx308_1
            try clear hx308_2
            try clear hx308_3
            try clear hx308_4
            try clear hx308_5
            try clear hx310_0
            try clear hx310_1
            try clear hx310_2
            try clear hx310_3
            try clear hx310_4
            try clear hx310_5
            try clear hx312_0
            try clear hx312_1
            try clear hx312_2
            try clear hx312_3
            try clear hx312_4
            try clear hx312_5
            try clear hx315_0
            try clear hx315_1
            try clear hx315_2
            try clear hx315_3
            try clear hx315_4
            try clear hx315_5
            try clear p2
            try clear p3
            try clear p30
            try clear p305
            try clear p308
            try clear p31
            try clear p310
            try clear p312
            try clear p315
            try clear q3
            try clear q30
            try clear q305
            try clear q308
            try clear q31
            try clear q310
            try clear q312
            try clear q315
            obtain ⟨x7_3, rfl, HA, HK3, HO_6, BK306, BK313, HB⟩ := hrel
            cases gk with
            | zero => exact absurd HA.out (by simp [larchref17_Root.l0])
            | succ k3 =>
             have H := HA.out
             clear HA
             simp only [larchref17_Root.l0] at H
             by_cases c67 : x7_3 < (t317.length : Int)
             ·
              rw [if_pos c67] at H
              have c67b0 : decide (x7_3 < (t317.length : Int)) = true := decide_eq_true c67
              clear c67
              by_cases c68 : 0 ≤ x7_3
              ·
               rw [if_pos c68] at H
               have c68b0 : decide (0 ≤ x7_3) = true := decide_eq_true c68
               clear c68
               by_cases c69 : 0 ≤ (rd t317 x7_3)
               ·
                rw [if_pos c69] at H
                have c69b0 : decide (0 ≤ (rd t317 x7_3)) = true := decide_eq_true c69
                clear c69
                by_cases c70 : (rd t317 x7_3) < (l0.length : Int)
                ·
                 rw [if_pos c70] at H
                 have c70b0 : decide ((rd t317 x7_3) < (l0.length : Int)) = true := decide_eq_true c70
                 clear c70
                 by_cases c71 : ((rd_T49 l0 (rd t317 x7_3)).f1) = 0
                 ·
                  rw [if_pos c71] at H
                  have c71b0 : (((rd_T49 l0 (rd t317 x7_3)).f1) == 0) = true := beq_iff_eq.mpr c71
                  have c71b1 : (((rd_T49 l0 (rd t317 x7_3)).f1) != 0) = false := bne_eq_false_iff_eq.mpr c71
                  clear c71
                  have H' := Aside0.mk H
                  clear H
                  obtain ⟨Ao72, co72, eo72⟩ := Kd.R_slice HO_6.out
                  subst eo72
                  have p320 : 0 ≤ (x7_3 : Int) := of_decide_eq_true (by first | (with_reducible assumption) | assumption)
                  have q320 : x7_3 < (t317.length : Int) := of_decide_eq_true (by first | (with_reducible assumption) | assumption)
                  obtain ⟨ad320, e320, hx320_0⟩ := Kd.at_int (Kd.R_reads' HO_6.out).2.2 x7_3 p320 q320
                  cases e320
                  replace p320 := eq_true p320
                  replace q320 := eq_true q320
                  have p321 : 0 ≤ ((rd t317 x7_3) : Int) := of_decide_eq_true (by first | (with_reducible assumption) | assumption)
                  have q321 : (rd t317 x7_3) < (l0.length : Int) := of_decide_eq_true (by first | (with_reducible assumption) | assumption)
                  obtain ⟨ad321, e321, hx321_0, hx321_1, hx321_2, hx321_3, hx321_4, hx321_5⟩ := at_T49 HR0.out (rd t317 x7_3) p321 q321
                  obtain rfl : ad305 = ad321 := (by injection e321)
                  replace hx321_0 := (HB.out.cell (World.block_lt_of_cell? w _ hx321_0)).trans hx321_0
                  replace hx321_1 := (HB.out.cell (World.block_lt_of_cell? w _ hx321_1)).trans hx321_1
                  replace hx321_2 := (HB.out.cell (World.block_lt_of_cell? w _ hx321_2)).trans hx321_2
                  replace hx321_3 := (HB.out.cell (World.block_lt_of_cell? w _ hx321_3)).trans hx321_3
                  replace hx321_4 := (HB.out.cell (World.block_lt_of_cell? w _ hx321_4)).trans hx321_4
                  replace hx321_5 := (HB.out.cell (World.block_lt_of_cell? w _ hx321_5)).trans hx321_5
                  replace p321 := eq_true p321
                  replace q321 := eq_true q321
                  go_wp2
                  go_roundg k3
                  case measure => have := HJ2.out; have := HJ31.out; have := HK3.out; omega
                  case rel => exact ⟨(wrap64 (x7_3 + 1)), (by first | rfl | (simp; done) | (simp [*]; done)), H', ⟨by have := HJ2.out; have := HJ31.out; have := HK3.out; omega⟩, ⟨by (with_reducible repeat (first | apply Kd.R_alloc | apply Kd.R_drewN | apply Kd.R_drew)); exact HO_6.out⟩, ⟨by (with_reducible repeat (first | refine blk_drewN ?_ _ | refine blk_drew ?_ | refine blk_alloc ?_ _)); exact BK306.out⟩, ⟨by (with_reducible repeat (first | refine blk_drewN ?_ _ | refine blk_drew ?_ | refine blk_alloc ?_ _)); exact BK313.out⟩, ⟨by repeat (first | (with_reducible first | exact HB.out | apply below_alloc | apply pw_below_drewN | apply below_drew1 | refine below_set ?_ GE306.out | refine below_set ?_ GE313.out) | exact HB.out)⟩⟩
                 ·
                  rw [if_neg c71] at H
                  have c71b0 : (((rd_T49 l0 (rd t317 x7_3)).f1) == 0) = false := beq_eq_false_iff_ne.mpr c71
                  have c71b1 : (((rd_T49 l0 (rd t317 x7_3)).f1) != 0) = true := bne_iff_ne.mpr c71
                  simp only [Option.some.injEq, Prod.mk.injEq] at H
                  obtain ⟨rfl, rfl⟩ := H
                  obtain ⟨Ao73, co73, eo73⟩ := Kd.R_slice HO_6.out
                  subst eo73
                  have p320 : 0 ≤ (x7_3 : Int) := of_decide_eq_true (by first | (with_reducible assumption) | assumption)
                  have q320 : x7_3 < (t317.length : Int) := of_decide_eq_true (by first | (with_reducible assumption) | assumption)
                  obtain ⟨ad320, e320, hx320_0⟩ := Kd.at_int (Kd.R_reads' HO_6.out).2.2 x7_3 p320 q320
                  cases e320
                  replace p320 := eq_true p320
                  replace q320 := eq_true q320
                  have p321 : 0 ≤ ((rd t317 x7_3) : Int) := of_decide_eq_true (by first | (with_reducible assumption) | assumption)
                  have q321 : (rd t317 x7_3) < (l0.length : Int) := of_decide_eq_true (by first | (with_reducible assumption) | assumption)
                  obtain ⟨ad321, e321, hx321_0, hx321_1, hx321_2, hx321_3, hx321_4, hx321_5⟩ := at_T49 HR0.out (rd t317 x7_3) p321 q321
                  obtain rfl : ad305 = ad321 := (by injection e321)
                  replace hx321_0 := (HB.out.cell (World.block_lt_of_cell? w _ hx321_0)).trans hx321_0
                  replace hx321_1 := (HB.out.cell (World.block_lt_of_cell? w _ hx321_1)).trans hx321_1
                  replace hx321_2 := (HB.out.cell (World.block_lt_of_cell? w _ hx321_2)).trans hx321_2
                  replace hx321_3 := (HB.out.cell (World.block_lt_of_cell? w _ hx321_3)).trans hx321_3
                  replace hx321_4 := (HB.out.cell (World.block_lt_of_cell? w _ hx321_4)).trans hx321_4
                  replace hx321_5 := (HB.out.cell (World.block_lt_of_cell? w _ hx321_5)).trans hx321_5
                  replace p321 := eq_true p321
                  replace q321 := eq_true q321
                  go_wp2
                  go_ret2
                  exact ⟨by first | rfl | (simp [errW_none, errW_some] <;> rfl) | (simp [*, errW_none, errW_some] <;> rfl), by repeat (first | (with_reducible first | exact HB.out | apply below_alloc | apply pw_below_drewN | apply below_drew1 | refine below_set ?_ GE306.out | refine below_set ?_ GE313.out) | exact HB.out)⟩
                ·
                 rw [if_neg c70] at H
                 exact absurd H (by simp)
               ·
                rw [if_neg c69] at H
                exact absurd H (by simp)
              ·
               rw [if_neg c68] at H
               exact absurd H (by simp)
             ·
              rw [if_neg c67] at H
              have c67b0 : decide (x7_3 < (t317.length : Int)) = false := decide_eq_false c67
              clear c67
              simp only [Option.some.injEq, Prod.mk.injEq] at H
              obtain ⟨rfl, rfl⟩ := H
              obtain ⟨Ao74, co74, eo74⟩ := Kd.R_slice HO_6.out
              subst eo74
              have hnb75 := NB313_306.out
              have hnc75 := NB306_313.out
              have hcz76_0 : wr.cell? ⟨gb313, 0, none⟩ = some (.int .i64 ((rd_T49 l0 ((rd_T49 l0 0).f4)).f0)) := (blk_cell BK313.out 0).trans rfl
              have hcz76_1 : wr.cell? ⟨gb313, 1, none⟩ = some (.int .i64 ((rd_T49 l0 ((rd_T49 l0 0).f4)).f1)) := (blk_cell BK313.out 1).trans rfl
              have hcz76_2 : wr.cell? ⟨gb313, 2, none⟩ = some (.int .i64 ((rd_T49 l0 ((rd_T49 l0 0).f4)).f2)) := (blk_cell BK313.out 2).trans rfl
              have hcz76_3 : wr.cell? ⟨gb313, 3, none⟩ = some (.int .i64 ((rd_T49 l0 ((rd_T49 l0 0).f4)).f3)) := (blk_cell BK313.out 3).trans rfl
              have hcz76_4 : wr.cell? ⟨gb313, 4, none⟩ = some (.int .i64 ((rd_T49 l0 ((rd_T49 l0 0).f4)).f4)) := (blk_cell BK313.out 4).trans rfl
              have hcz76_5 : wr.cell? ⟨gb313, 5, none⟩ = some (.int .i64 ((rd_T49 l0 ((rd_T49 l0 0).f4)).f5)) := (blk_cell BK313.out 5).trans rfl
              have hfz76_0 := blk_frozen BK313.out 0
              have hfz76_1 := blk_frozen BK313.out 1
              have hfz76_2 := blk_frozen BK313.out 2
              have hfz76_3 := blk_frozen BK313.out 3
              have hfz76_4 := blk_frozen BK313.out 4
              have hfz76_5 := blk_frozen BK313.out 5
              go_wp2
              go_ret2
              exact ⟨by first | rfl | (simp [errW_none, errW_some] <;> rfl) | (simp [*, errW_none, errW_some] <;> rfl), by repeat (first | (with_reducible first | exact HB.out | apply below_alloc | apply pw_below_drewN | apply below_drew1 | refine below_set ?_ GE306.out | refine below_set ?_ GE313.out) | exact HB.out)⟩
      ·
       rw [if_neg c27] at H
       exact absurd H (by simp)
     ·
      rw [if_neg c26] at H
      exact absurd H (by simp)
 ·
  rw [if_neg c2] at H
  exact absurd H (by simp)
end Go.Proofs.Ytmmjkebboonnkaa.P
/- F33 -/
namespace Go.Proofs.Ytmmjkebboonnkaa.P
open Go.RowKit Go.Proofs.YtmmjkebboonnkaaW.PrintWords Go.Proofs.YtmmjkebboonnkaaW.PrintLast Go.Proofs.YtmmjkebboonnkaaW.PrintMore
attribute [local go_sem] max2_int min2_int max_two min_two max_three min_three max_four min_four   -- for this text's walks alone
set_option linter.unusedVariables false
set_option linter.unusedSimpArgs false
def larchref17_keys.f (k : Nat) (l0 : List (S49)) : Option (List Int × Int) := (larchref17_Check.f k l0).bind fun t337 => (if t337 = 0 then ((larchref17_Root.f k l0).bind fun bt338 => (if bt338.2 = true then (if bt338.1 < 0 then (some (([] : List Int), 0)) else ((larchref17_Order.f k l0 bt338.1).bind fun t340 => (some (t340, 0)))) else (some (([] : List Int), 3)))) else (some (([] : List Int), t337)))
theorem larchref17_keys.mono : ∀ a0 k, LeO (larchref17_keys.f k a0) (larchref17_keys.f (k + 1) a0) := by
 intro a0 k
 unfold larchref17_keys.f
 repeat' first
   | (with_reducible exact larchref17_Check.mono _ _)
   | (with_reducible exact larchref17_Order.mono _ _ _)
   | (with_reducible exact larchref17_Root.mono _ _)
   | (with_reducible exact LeO.refl _)
   | (with_reducible exact LeO.none _)
   | (with_reducible refine LeO.ite ?_ ?_)
   | (with_reducible refine LeO.bind ?_ (fun _ => ?_))
   | exact larchref17_Check.mono _ _
   | exact larchref17_Order.mono _ _ _
   | exact larchref17_Root.mono _ _
   | exact LeO.none _
   | refine LeO.ite ?_ ?_
   | refine LeO.bind ?_ (fun _ => ?_)
set_option maxHeartbeats 8000000 in
set_option maxRecDepth 100000 in
theorem larchref17_keys.calls (k : Nat) (A0 : Option Addr) (c0 : Nat) (l0 : List (S49)) (r1 : List Int) (r2 : Int) (w : World) (hr0 : Kd.C k49 w A0 l0.length l0) (hc0 : l0.length ≤ c0) (h : larchref17_keys.f k l0 = some (r1, r2)) :
  Calls Try.prog 46 #[.slice A0 l0.length c0] w fun e w' => ∃ v0_ : Value, e = .returned (.tuple #[v0_, .int .i64 r2]) ∧ Kd.R (Kd.int .i64) 3 w' w.heap.size (fun _ => True) v0_ r1 ∧ Below w.heap.size w w' := by
 have HR0 := Aside0.mk hr0
 have HC0 := Aside0.mk hc0
 clear hr0 hc0
 have HB := Aside0.mk (Below.refl w.heap.size w)
 have H : ((larchref17_Check.f k l0).bind fun t337 => (if t337 = 0 then ((larchref17_Root.f k l0).bind fun bt338 => (if bt338.2 = true then (if bt338.1 < 0 then (some (([] : List Int), 0)) else ((larchref17_Order.f k l0 bt338.1).bind fun t340 => (some (t340, 0)))) else (some (([] : List Int), 3)))) else (some (([] : List Int), t337)))) = some (r1, r2) := h
 clear h
 replace H := Option.bind_eq_some_iff.mp H
 obtain ⟨t337, A20, H⟩ := H
 replace H : (if t337 = 0 then ((larchref17_Root.f k l0).bind fun bt338 => (if bt338.2 = true then (if bt338.1 < 0 then (some (([] : List Int), 0)) else ((larchref17_Order.f k l0 bt338.1).bind fun t340 => (some (t340, 0)))) else (some (([] : List Int), 3)))) else (some (([] : List Int), t337))) = some (r1, r2) := H
 have A2 := Aside0.mk A20
 clear A20
 by_cases c3 : t337 = 0
 ·
  rw [if_pos c3] at H
  have c3b0 : (t337 == 0) = true := beq_iff_eq.mpr c3
  have c3b1 : (t337 != 0) = false := bne_eq_false_iff_eq.mpr c3
  clear c3
  replace H := Option.bind_eq_some_iff.mp H
  obtain ⟨⟨t338, t339⟩, A40, H⟩ := H
  replace H : (if t339 = true then (if t338 < 0 then (some (([] : List Int), 0)) else ((larchref17_Order.f k l0 t338).bind fun t340 => (some (t340, 0)))) else (some (([] : List Int), 3))) = some (r1, r2) := H
  have A4 := Aside0.mk A40
  clear A40
  by_cases c5 : t339 = true
  ·
   subst c5
   have H1 : (if t338 < 0 then (some (([] : List Int), 0)) else ((larchref17_Order.f k l0 t338).bind fun t340 => (some (t340, 0)))) = some (r1, r2) := by rw [if_pos rfl] at H; exact H
   clear H
   have H := H1
   clear H1
   by_cases c6 : t338 < 0
   ·
    rw [if_pos c6] at H
    have c6b0 : decide (t338 < 0) = true := decide_eq_true c6
    clear c6
    simp only [Option.some.injEq, Prod.mk.injEq] at H
    obtain ⟨rfl, rfl⟩ := H
    go_enter Try.func46, Try.ntmps46
    go_wp2_with (first | ((with_reducible refine gate_callee (f := 59) rfl ?_); refine goesL_ (some 8) rfl rfl Try.func59 (by kernel_rfl) rfl #[.slice A0 l0.length c0] rfl (by (try simp only [List.map_toArray, List.map_cons, List.map_nil]); first | done | rfl | (simp only [List.length_drop, List.length_take]; rfl)) ?_; (with_reducible refine (larchref17_Check.calls k _ _ l0 t337 _ ?side1 ?side2 A2.out).mono ?_); (case side1 => repeat (first | exact HR0.out | (with_reducible refine Kd.C_alloc ?_ _) | (with_reducible refine Kd.C_drewN ?_ _) | (with_reducible refine Kd.C_drew ?_))); (case side2 => exact HC0.out); rintro e w7 ⟨rfl, hb⟩; refine ⟨_, rfl, ?_⟩; have n0_ := Aside0.mk (below_step (by repeat (first | (with_reducible first | exact HB.out | apply below_alloc | apply pw_below_drewN | apply below_drew1) | exact HB.out)) hb); clear HB; have HB := n0_; clear n0_; (try clear hb); (try clear hb2); (try clear hk); (try clear hi)) | ((with_reducible refine gate_callee (f := 26) rfl ?_); refine goesL_ (some 14) rfl rfl Try.func26 (by kernel_rfl) rfl #[.slice A0 l0.length c0] rfl (by (try simp only [List.map_toArray, List.map_cons, List.map_nil]); first | done | rfl | (simp only [List.length_drop, List.length_take]; rfl)) ?_; (with_reducible refine (larchref17_Root.calls k _ _ l0 t338 true _ ?side1 ?side2 A4.out).mono ?_); (case side1 => repeat (first | exact (Kd.C_below HR0.out HB.out) | (with_reducible refine Kd.C_alloc ?_ _) | (with_reducible refine Kd.C_drewN ?_ _) | (with_reducible refine Kd.C_drew ?_))); (case side2 => exact HC0.out); rintro e w8 ⟨rfl, hb⟩; refine ⟨_, rfl, ?_⟩; have n0_ := Aside0.mk (below_step (by repeat (first | (with_reducible first | exact HB.out | apply below_alloc | apply pw_below_drewN | apply below_drew1) | exact HB.out)) hb); clear HB; have HB := n0_; clear n0_; (try clear hb); (try clear hb2); (try clear hk); (try clear hi)))
    go_ret2
    exact ⟨_, by first | rfl | (simp [errW_none, errW_some] <;> rfl) | (simp [*, errW_none, errW_some] <;> rfl), by first | exact Kd.R_nil _ _ _ _ _ | exact Kd.N_nil _ _ _ _ _ | exact Kd.V_nil _ _ _ _ _ | exact Kd.Q_nil _ _ _ _ _ | exact Kd.S_nil _ _ _ _ _, by repeat (first | (with_reducible first | exact HB.out | apply below_alloc | apply pw_below_drewN | apply below_drew1) | exact HB.out)⟩
   ·
    rw [if_neg c6] at H
    have c6b0 : decide (t338 < 0) = false := decide_eq_false c6
    clear c6
    replace H := Option.bind_eq_some_iff.mp H
    obtain ⟨t340, A90, H⟩ := H
    replace H : (some (t340, 0)) = some (r1, r2) := H
    have A9 := Aside0.mk A90
    clear A90
    simp only [Option.some.injEq, Prod.mk.injEq] at H
    obtain ⟨rfl, rfl⟩ := H
    go_enter Try.func46, Try.ntmps46
    go_wp2_with (first | ((with_reducible refine gate_callee (f := 59) rfl ?_); refine goesL_ (some 8) rfl rfl Try.func59 (by kernel_rfl) rfl #[.slice A0 l0.length c0] rfl (by (try simp only [List.map_toArray, List.map_cons, List.map_nil]); first | done | rfl | (simp only [List.length_drop, List.length_take]; rfl)) ?_; (with_reducible refine (larchref17_Check.calls k _ _ l0 t337 _ ?side1 ?side2 A2.out).mono ?_); (case side1 => repeat (first | exact HR0.out | (with_reducible refine Kd.C_alloc ?_ _) | (with_reducible refine Kd.C_drewN ?_ _) | (with_reducible refine Kd.C_drew ?_))); (case side2 => exact HC0.out); rintro e w10 ⟨rfl, hb⟩; refine ⟨_, rfl, ?_⟩; have n0_ := Aside0.mk (below_step (by repeat (first | (with_reducible first | exact HB.out | apply below_alloc | apply pw_below_drewN | apply below_drew1) | exact HB.out)) hb); clear HB; have HB := n0_; clear n0_; (try clear hb); (try clear hb2); (try clear hk); (try clear hi)) | ((with_reducible refine gate_callee (f := 26) rfl ?_); refine goesL_ (some 14) rfl rfl Try.func26 (by kernel_rfl) rfl #[.slice A0 l0.length c0] rfl (by (try simp only [List.map_toArray, List.map_cons, List.map_nil]); first | done | rfl | (simp only [List.length_drop, List.length_take]; rfl)) ?_; (with_reducible refine (larchref17_Root.calls k _ _ l0 t338 true _ ?side1 ?side2 A4.out).mono ?_); (case side1 => repeat (first | exact (Kd.C_below HR0.out HB.out) | (with_reducible refine Kd.C_alloc ?_ _) | (with_reducible refine Kd.C_drewN ?_ _) | (with_reducible refine Kd.C_drew ?_))); (case side2 => exact HC0.out); rintro e w11 ⟨rfl, hb⟩; refine ⟨_, rfl, ?_⟩; have n0_ := Aside0.mk (below_step (by repeat (first | (with_reducible first | exact HB.out | apply below_alloc | apply pw_below_drewN | apply below_drew1) | exact HB.out)) hb); clear HB; have HB := n0_; clear n0_; (try clear hb); (try clear hb2); (try clear hk); (try clear hi)) | ((with_reducible refine gate_callee (f := 27) rfl ?_); refine goesL_ (some 23) rfl rfl Try.func27 (by kernel_rfl) rfl #[.slice A0 l0.length c0, .int .i64 t338] rfl (by (try simp only [List.map_toArray, List.map_cons, List.map_nil]); first | done | rfl | (simp only [List.length_drop, List.length_take]; rfl)) ?_; (with_reducible refine (larchref17_Order.calls k _ _ l0 t338 t340 _ ?side1 ?side2 A9.out).mono ?_); (case side1 => repeat (first | exact (Kd.C_below HR0.out HB.out) | (with_reducible refine Kd.C_alloc ?_ _) | (with_reducible refine Kd.C_drewN ?_ _) | (with_reducible refine Kd.C_drew ?_))); (case side2 => exact HC0.out); rintro e w12 ⟨v341, rfl, ho0, hb⟩; refine ⟨_, rfl, ?_⟩; have n0_ := Aside0.mk (Kd.R_lower ho0 (below_size (by repeat (first | (with_reducible first | exact HB.out | apply below_alloc | apply pw_below_drewN | apply below_drew1) | exact HB.out)))); have n1_ := Aside0.mk (below_step (by repeat (first | (with_reducible first | exact HB.out | apply below_alloc | apply pw_below_drewN | apply below_drew1) | exact HB.out)) hb); clear HB; have HO342 := n0_; have HB := n1_; clear n0_ n1_; (try clear hb); (try clear hb2); (try clear hk); (try clear hi); (try clear ho0)))
    go_ret2
    exact ⟨_, by first | rfl | (simp [errW_none, errW_some] <;> rfl) | (simp [*, errW_none, errW_some] <;> rfl), by (with_reducible repeat (first | apply Kd.R_alloc | apply Kd.R_drewN | apply Kd.R_drew)); exact HO342.out, by repeat (first | (with_reducible first | exact HB.out | apply below_alloc | apply pw_below_drewN | apply below_drew1) | exact HB.out)⟩
  ·
   replace c5 := Bool.eq_false_iff.mpr c5
   subst c5
   have H1 : (some (([] : List Int), 3)) = some (r1, r2) := by rw [if_neg (show ¬ (false = true) by decide)] at H; exact H
   clear H
   have H := H1
   clear H1
   simp only [Option.some.injEq, Prod.mk.injEq] at H
   obtain ⟨rfl, rfl⟩ := H
   go_enter Try.func46, Try.ntmps46
   go_wp2_with (first | ((with_reducible refine gate_callee (f := 59) rfl ?_); refine goesL_ (some 8) rfl rfl Try.func59 (by kernel_rfl) rfl #[.slice A0 l0.length c0] rfl (by (try simp only [List.map_toArray, List.map_cons, List.map_nil]); first | done | rfl | (simp only [List.length_drop, List.length_take]; rfl)) ?_; (with_reducible refine (larchref17_Check.calls k _ _ l0 t337 _ ?side1 ?side2 A2.out).mono ?_); (case side1 => repeat (first | exact HR0.out | (with_reducible refine Kd.C_alloc ?_ _) | (with_reducible refine Kd.C_drewN ?_ _) | (with_reducible refine Kd.C_drew ?_))); (case side2 => exact HC0.out); rintro e w13 ⟨rfl, hb⟩; refine ⟨_, rfl, ?_⟩; have n0_ := Aside0.mk (below_step (by repeat (first | (with_reducible first | exact HB.out | apply below_alloc | apply pw_below_drewN | apply below_drew1) | exact HB.out)) hb); clear HB; have HB := n0_; clear n0_; (try clear hb); (try clear hb2); (try clear hk); (try clear hi)) | ((with_reducible refine gate_callee (f := 26) rfl ?_); refine goesL_ (some 14) rfl rfl Try.func26 (by kernel_rfl) rfl #[.slice A0 l0.length c0] rfl (by (try simp only [List.map_toArray, List.map_cons, List.map_nil]); first | done | rfl | (simp only [List.length_drop, List.length_take]; rfl)) ?_; (with_reducible refine (larchref17_Root.calls k _ _ l0 t338 false _ ?side1 ?side2 A4.out).mono ?_); (case side1 => repeat (first | exact (Kd.C_below HR0.out HB.out) | (with_reducible refine Kd.C_alloc ?_ _) | (with_reducible refine Kd.C_drewN ?_ _) | (with_reducible refine Kd.C_drew ?_))); (case side2 => exact HC0.out); rintro e w14 ⟨rfl, hb⟩; refine ⟨_, rfl, ?_⟩; have n0_ := Aside0.mk (below_step (by repeat (first | (with_reducible first | exact HB.out | apply below_alloc | apply pw_below_drewN | apply below_drew1) | exact HB.out)) hb); clear HB; have HB := n0_; clear n0_; (try clear hb); (try clear hb2); (try clear hk); (try clear hi)))
   go_ret2
   exact ⟨_, by first | rfl | (simp [errW_none, errW_some] <;> rfl) | (simp [*, errW_none, errW_some] <;> rfl), by first | exact Kd.R_nil _ _ _ _ _ | exact Kd.N_nil _ _ _ _ _ | exact Kd.V_nil _ _ _ _ _ | exact Kd.Q_nil _ _ _ _ _ | exact Kd.S_nil _ _ _ _ _, by repeat (first | (with_reducible first | exact HB.out | apply below_alloc | apply pw_below_drewN | apply below_drew1) | exact HB.out)⟩
 ·
  rw [if_neg c3] at H
  have c3b0 : (t337 == 0) = false := beq_eq_false_iff_ne.mpr c3
  have c3b1 : (t337 != 0) = true := bne_iff_ne.mpr c3
  simp only [Option.some.injEq, Prod.mk.injEq] at H
  obtain ⟨rfl, rfl⟩ := H
  go_enter Try.func46, Try.ntmps46
  go_wp2_with (first | ((with_reducible refine gate_callee (f := 59) rfl ?_); refine goesL_ (some 8) rfl rfl Try.func59 (by kernel_rfl) rfl #[.slice A0 l0.length c0] rfl (by (try simp only [List.map_toArray, List.map_cons, List.map_nil]); first | done | rfl | (simp only [List.length_drop, List.length_take]; rfl)) ?_; (with_reducible refine (larchref17_Check.calls k _ _ l0 t337 _ ?side1 ?side2 A2.out).mono ?_); (case side1 => repeat (first | exact HR0.out | (with_reducible refine Kd.C_alloc ?_ _) | (with_reducible refine Kd.C_drewN ?_ _) | (with_reducible refine Kd.C_drew ?_))); (case side2 => exact HC0.out); rintro e w15 ⟨rfl, hb⟩; refine ⟨_, rfl, ?_⟩; have n0_ := Aside0.mk (below_step (by repeat (first | (with_reducible first | exact HB.out | apply below_alloc | apply pw_below_drewN | apply below_drew1) | exact HB.out)) hb); clear HB; have HB := n0_; clear n0_; (try clear hb); (try clear hb2); (try clear hk); (try clear hi)))
  go_ret2
  exact ⟨_, by first | rfl | (simp [errW_none, errW_some] <;> rfl) | (simp [*, errW_none, errW_some] <;> rfl), by first | exact Kd.R_nil _ _ _ _ _ | exact Kd.N_nil _ _ _ _ _ | exact Kd.V_nil _ _ _ _ _ | exact Kd.Q_nil _ _ _ _ _ | exact Kd.S_nil _ _ _ _ _, by repeat (first | (with_reducible first | exact HB.out | apply below_alloc | apply pw_below_drewN | apply below_drew1) | exact HB.out)⟩
end Go.Proofs.Ytmmjkebboonnkaa.P
/- F2 -/
namespace Go.Proofs.Ytmmjkebboonnkaa.P
open Go.RowKit Go.Proofs.YtmmjkebboonnkaaW.PrintWords Go.Proofs.YtmmjkebboonnkaaW.PrintLast Go.Proofs.YtmmjkebboonnkaaW.PrintMore
attribute [local go_sem] max2_int min2_int max_two min_two max_three min_three max_four min_four   -- for this text's walks alone
set_option linter.unusedVariables false
set_option linter.unusedSimpArgs false
def larchref17_SameInts.l0 : Nat → List Int → List Int → Int → Option (Bool)
 | 0, _, _, _ => none
 | k + 1, x0, x1, x5 => if x5 < (x0.length : Int) then (if 0 ≤ x5 then (if x5 < (x1.length : Int) then (if (rd x0 x5) = (rd x1 x5) then (larchref17_SameInts.l0 k x0 x1 (wrap64 (x5 + 1))) else (some false)) else (none)) else (none)) else (some true)
def larchref17_SameInts.f (k : Nat) (l0 : List Int) (l1 : List Int) : Option (Bool) := if (l0.length : Int) = (l1.length : Int) then (larchref17_SameInts.l0 k l0 l1 0) else (some false)
theorem larchref17_SameInts.mono_l : ∀ k, (∀ y0 y1 y2, LeO (larchref17_SameInts.l0 k y0 y1 y2) (larchref17_SameInts.l0 (k + 1) y0 y1 y2))
 | 0 => fun _ _ _ r h => by simp [larchref17_SameInts.l0] at h
 | k + 1 => by
  have ih0 := larchref17_SameInts.mono_l k
  ·
   intro y0 y1 y2
   unfold larchref17_SameInts.l0
   repeat' first
   | (with_reducible exact ih0 _ _ _)
   | (with_reducible exact LeO.refl _)
   | (with_reducible exact LeO.none _)
   | (with_reducible refine LeO.ite ?_ ?_)
   | (with_reducible refine LeO.bind ?_ (fun _ => ?_))
   | exact ih0 _ _ _
   | exact LeO.none _
   | refine LeO.ite ?_ ?_
   | refine LeO.bind ?_ (fun _ => ?_)
theorem larchref17_SameInts.mono : ∀ a0 a1 k, LeO (larchref17_SameInts.f k a0 a1) (larchref17_SameInts.f (k + 1) a0 a1) := by
 intro a0 a1 k
 have ih0 := larchref17_SameInts.mono_l k
 unfold larchref17_SameInts.f
 repeat' first
   | (with_reducible exact ih0 _ _ _)
   | (with_reducible exact LeO.refl _)
   | (with_reducible exact LeO.none _)
   | (with_reducible refine LeO.ite ?_ ?_)
   | (with_reducible refine LeO.bind ?_ (fun _ => ?_))
   | exact ih0 _ _ _
   | exact LeO.none _
   | refine LeO.ite ?_ ?_
   | refine LeO.bind ?_ (fun _ => ?_)
set_option maxHeartbeats 8000000 in
set_option maxRecDepth 100000 in
theorem larchref17_SameInts.calls (k : Nat) (A0 : Option Addr) (c0 : Nat) (l0 : List Int) (A1 : Option Addr) (c1 : Nat) (l1 : List Int) (r : Bool) (w : World) (hr0 : Kd.C (Kd.int .i64) w A0 l0.length l0) (hc0 : l0.length ≤ c0) (hr1 : Kd.C (Kd.int .i64) w A1 l1.length l1) (hc1 : l1.length ≤ c1) (h : larchref17_SameInts.f k l0 l1 = some r) :
  Calls Try.prog 12 #[.slice A0 l0.length c0, .slice A1 l1.length c1] w fun e w' => e = .returned (.bool r) ∧ Drawn0 w w' := by
 have HR0 := Aside0.mk hr0
 have HC0 := Aside0.mk hc0
 clear hr0 hc0
 have HR1 := Aside0.mk hr1
 have HC1 := Aside0.mk hc1
 clear hr1 hc1
 have H : (if (l0.length : Int) = (l1.length : Int) then (larchref17_SameInts.l0 k l0 l1 0) else (some false)) = some r := h
 clear h
 by_cases c3 : (l0.length : Int) = (l1.length : Int)
 ·
  rw [if_pos c3] at H
  have c3b0 : ((l0.length : Int) == (l1.length : Int)) = true := beq_iff_eq.mpr c3
  have c3b1 : ((l0.length : Int) != (l1.length : Int)) = false := bne_eq_false_iff_eq.mpr c3
  have c3b2 : (l0.length == l1.length) = true := by first | simpa using c3 | (simp at c3 ⊢; omega)
  clear c3
  have H' := Aside0.mk H
  clear H
  go_enter Try.func12, Try.ntmps12
  go_wp2
  repeat (go_quiet (fail); try go_wp2)
  go_loopg [5] k (fun kq v5 w' => ∃ (x5_1 : Int), v5 = .int .i64 x5_1 ∧ Aside0 (larchref17_SameInts.l0 kq l0 l1 x5_1 = some r) ∧ Aside0 (kq ≤ k) ∧ Drawn0 w w')
  case atStart => exact ⟨(0), (by first | rfl | (simp; done) | (simp [*]; done)), H', ⟨Nat.le_refl _⟩, by repeat (first | exact Drawn0.refl _ | apply Drawn0.step)⟩
  case round =>
   clear H'
   try clear c1
   try clear p2
   try clear c3
   try clear c3b0
   try clear c3b1
   try clear c3b2
   obtain ⟨x5_1, rfl, HA, HK1, ⟨m1, rfl⟩⟩ := hrel
   cases gk with
   | zero => exact absurd HA.out (by simp [larchref17_SameInts.l0])
   | succ k1 =>
    have H := HA.out
    clear HA
    simp only [larchref17_SameInts.l0] at H
    by_cases c4 : x5_1 < (l0.length : Int)
    ·
     rw [if_pos c4] at H
     have c4b0 : decide (x5_1 < (l0.length : Int)) = true := decide_eq_true c4
     clear c4
     by_cases c5 : 0 ≤ x5_1
     ·
      rw [if_pos c5] at H
      have c5b0 : decide (0 ≤ x5_1) = true := decide_eq_true c5
      clear c5
      by_cases c6 : x5_1 < (l1.length : Int)
      ·
       rw [if_pos c6] at H
       have c6b0 : decide (x5_1 < (l1.length : Int)) = true := decide_eq_true c6
       clear c6
       by_cases c7 : (rd l0 x5_1) = (rd l1 x5_1)
       ·
        rw [if_pos c7] at H
        have c7b0 : ((rd l0 x5_1) == (rd l1 x5_1)) = true := beq_iff_eq.mpr c7
        have c7b1 : ((rd l0 x5_1) != (rd l1 x5_1)) = false := bne_eq_false_iff_eq.mpr c7
        clear c7
        have H' := Aside0.mk H
        clear H
        have p101 : 0 ≤ (x5_1 : Int) := of_decide_eq_true (by first | (with_reducible assumption) | assumption)
        have q101 : x5_1 < (l0.length : Int) := of_decide_eq_true (by first | (with_reducible assumption) | assumption)
        obtain ⟨ad101, e101, hx101_0⟩ := Kd.at_int HR0.out x5_1 p101 q101
        cases e101
        replace p101 := eq_true p101
        replace q101 := eq_true q101
        have p102 : 0 ≤ (x5_1 : Int) := of_decide_eq_true (by first | (with_reducible assumption) | assumption)
        have q102 : x5_1 < (l1.length : Int) := of_decide_eq_true (by first | (with_reducible assumption) | assumption)
        obtain ⟨ad102, e102, hx102_0⟩ := Kd.at_int HR1.out x5_1 p102 q102
        cases e102
        replace p102 := eq_true p102
        replace q102 := eq_true q102
        go_wp2
        repeat (go_quiet (fail); try go_wp2)
        go_roundg k1
        case measure => have := HK1.out; omega
        case rel => exact ⟨(wrap64 (x5_1 + 1)), (by first | rfl | (simp; done) | (simp [*]; done)), H', ⟨by have := HK1.out; omega⟩, by repeat (first | exact Drawn0.refl _ | apply Drawn0.step)⟩
       ·
        rw [if_neg c7] at H
        have c7b0 : ((rd l0 x5_1) == (rd l1 x5_1)) = false := beq_eq_false_iff_ne.mpr c7
        have c7b1 : ((rd l0 x5_1) != (rd l1 x5_1)) = true := bne_iff_ne.mpr c7
        obtain rfl := Option.some.inj H
        have p101 : 0 ≤ (x5_1 : Int) := of_decide_eq_true (by first | (with_reducible assumption) | assumption)
        have q101 : x5_1 < (l0.length : Int) := of_decide_eq_true (by first | (with_reducible assumption) | assumption)
        obtain ⟨ad101, e101, hx101_0⟩ := Kd.at_int HR0.out x5_1 p101 q101
        cases e101
        replace p101 := eq_true p101
        replace q101 := eq_true q101
        have p102 : 0 ≤ (x5_1 : Int) := of_decide_eq_true (by first | (with_reducible assumption) | assumption)
        have q102 : x5_1 < (l1.length : Int) := of_decide_eq_true (by first | (with_reducible assumption) | assumption)
        obtain ⟨ad102, e102, hx102_0⟩ := Kd.at_int HR1.out x5_1 p102 q102
        cases e102
        replace p102 := eq_true p102
        replace q102 := eq_true q102
        go_wp2
        repeat (go_quiet (fail); try go_wp2)
        go_ret
        exact ⟨by first | rfl | (simp; done) | (simp [*]; done), by repeat (first | exact Drawn0.refl _ | apply Drawn0.step)⟩
      ·
       rw [if_neg c6] at H
       exact absurd H (by simp)
     ·
      rw [if_neg c5] at H
      exact absurd H (by simp)
    ·
     rw [if_neg c4] at H
     have c4b0 : decide (x5_1 < (l0.length : Int)) = false := decide_eq_false c4
     clear c4
     obtain rfl := Option.some.inj H
     go_wp2
     repeat (go_quiet (fail); try go_wp2)
     go_ret
     exact ⟨by first | rfl | (simp; done) | (simp [*]; done), by repeat (first | exact Drawn0.refl _ | apply Drawn0.step)⟩
 ·
  rw [if_neg c3] at H
  have c3b0 : ((l0.length : Int) == (l1.length : Int)) = false := beq_eq_false_iff_ne.mpr c3
  have c3b1 : ((l0.length : Int) != (l1.length : Int)) = true := bne_iff_ne.mpr c3
  have c3b2 : (l0.length == l1.length) = false := by first | simpa using c3 | (simp at c3 ⊢; omega)
  obtain rfl := Option.some.inj H
  go_enter Try.func12, Try.ntmps12
  go_wp2
  repeat (go_quiet (fail); try go_wp2)
  go_ret
  exact ⟨by first | rfl | (simp; done) | (simp [*]; done), by repeat (first | exact Drawn0.refl _ | apply Drawn0.step)⟩
end Go.Proofs.Ytmmjkebboonnkaa.P
/- F25 -/
namespace Go.Proofs.Ytmmjkebboonnkaa.P
open Go.RowKit Go.Proofs.YtmmjkebboonnkaaW.PrintWords Go.Proofs.YtmmjkebboonnkaaW.PrintLast Go.Proofs.YtmmjkebboonnkaaW.PrintMore
attribute [local go_sem] max2_int min2_int max_two min_two max_three min_three max_four min_four   -- for this text's walks alone
set_option linter.unusedVariables false
set_option linter.unusedSimpArgs false
def larchlaw17_a.f  : Option ((List (S49))) := some (([(⟨0, 1, 1, 0, 1, 6⟩ : S49), (⟨0, 1, 1, 0, 2, 5⟩ : S49), (⟨7, 0, 1, 0, 3, 4⟩ : S49), (⟨5, 0, 1, 0, (-1), (-1)⟩ : S49), (⟨7, 0, 1, 0, (-1), (-1)⟩ : S49), (⟨0, 1, 1, 0, (-1), (-1)⟩ : S49), (⟨0, 1, 1, 0, (-1), (-1)⟩ : S49)] : List (S49)))
set_option maxHeartbeats 8000000 in
set_option maxRecDepth 100000 in
theorem larchlaw17_a.calls  (r : List (S49)) (w : World) (h : larchlaw17_a.f  = some r) :
  Calls Try.prog 43 #[] w fun e w' => ∃ v0_ : Value, e = .returned (v0_) ∧ Kd.R k49 49 w' w.heap.size (fun _ => True) v0_ r ∧ Below w.heap.size w w' := by
 have hu49 := Try.underlying49
 have HB := Aside0.mk (Below.refl w.heap.size w)
 have H : (some (([(⟨0, 1, 1, 0, 1, 6⟩ : S49), (⟨0, 1, 1, 0, 2, 5⟩ : S49), (⟨7, 0, 1, 0, 3, 4⟩ : S49), (⟨5, 0, 1, 0, (-1), (-1)⟩ : S49), (⟨7, 0, 1, 0, (-1), (-1)⟩ : S49), (⟨0, 1, 1, 0, (-1), (-1)⟩ : S49), (⟨0, 1, 1, 0, (-1), (-1)⟩ : S49)] : List (S49)))) = some r := h
 clear h
 obtain ⟨y246, hy246⟩ : ∃ y_ : List (S49), y_ = (([(⟨0, 1, 1, 0, 1, 6⟩ : S49), (⟨0, 1, 1, 0, 2, 5⟩ : S49), (⟨7, 0, 1, 0, 3, 4⟩ : S49), (⟨5, 0, 1, 0, (-1), (-1)⟩ : S49), (⟨7, 0, 1, 0, (-1), (-1)⟩ : S49), (⟨0, 1, 1, 0, (-1), (-1)⟩ : S49), (⟨0, 1, 1, 0, (-1), (-1)⟩ : S49)] : List (S49))) := ⟨_, rfl⟩
 replace H : (some y246) = some r := by first | (rw [hy246]; with_reducible exact H) | (have H2_ := (Option.bind_some _ _).symm.trans H; rw [hy246]; with_reducible exact H2_) | (have H2_ := (Option.bind_some _ _).symm.trans H; with_reducible exact H2_) | with_reducible exact H | (rw [hy246]; exact H) | exact H
 have Ny246 := Aside0.mk hy246
 clear hy246
 obtain rfl := Option.some.inj H
 go_enter Try.func43, Try.ntmps43
 go_wp2_with (first | ((with_reducible refine gate_dst (N := 8) rfl ?_); refine Kd.R_lit k49 _ 49 ?hg (N := 8) ?hd (xs := ([(⟨0, 1, 1, 0, 1, 6⟩ : S49), (⟨0, 1, 1, 0, 2, 5⟩ : S49), (⟨7, 0, 1, 0, 3, 4⟩ : S49), (⟨5, 0, 1, 0, (-1), (-1)⟩ : S49), (⟨7, 0, 1, 0, (-1), (-1)⟩ : S49), (⟨0, 1, 1, 0, (-1), (-1)⟩ : S49), (⟨0, 1, 1, 0, (-1), (-1)⟩ : S49)] : List (S49))) (inner := [.int .i64 0, .int .i64 1, .int .i64 1, .int .i64 0, .int .i64 1, .int .i64 6, .int .i64 0, .int .i64 1, .int .i64 1, .int .i64 0, .int .i64 2, .int .i64 5, .int .i64 7, .int .i64 0, .int .i64 1, .int .i64 0, .int .i64 3, .int .i64 4, .int .i64 5, .int .i64 0, .int .i64 1, .int .i64 0, .int .i64 (-1), .int .i64 (-1), .int .i64 7, .int .i64 0, .int .i64 1, .int .i64 0, .int .i64 (-1), .int .i64 (-1), .int .i64 0, .int .i64 1, .int .i64 1, .int .i64 0, .int .i64 (-1), .int .i64 (-1), .int .i64 0, .int .i64 1, .int .i64 1, .int .i64 0, .int .i64 (-1), .int .i64 (-1)]) (ok := fun _ => True) (okp := fun _ => True) ?hr ?hp (fun _ hk => hk) trivial (Below.refl _ _) (Nat.le_refl _) (by simp) ?_; (case hd => rfl); (case hg => rfl); (case hr => first | (go_simp; done) | (go_simp; rfl)); (case hp => exact (Reps.c6 (show Kd.M k49 _ _ _ (⟨0, 1, 1, 0, 1, 6⟩ : S49) [.int .i64 0, .int .i64 1, .int .i64 1, .int .i64 0, .int .i64 1, .int .i64 6] from (k49_mkM _ _ _ (⟨0, 1, 1, 0, 1, 6⟩ : S49) )) (Reps.c6 (show Kd.M k49 _ _ _ (⟨0, 1, 1, 0, 2, 5⟩ : S49) [.int .i64 0, .int .i64 1, .int .i64 1, .int .i64 0, .int .i64 2, .int .i64 5] from (k49_mkM _ _ _ (⟨0, 1, 1, 0, 2, 5⟩ : S49) )) (Reps.c6 (show Kd.M k49 _ _ _ (⟨7, 0, 1, 0, 3, 4⟩ : S49) [.int .i64 7, .int .i64 0, .int .i64 1, .int .i64 0, .int .i64 3, .int .i64 4] from (k49_mkM _ _ _ (⟨7, 0, 1, 0, 3, 4⟩ : S49) )) (Reps.c6 (show Kd.M k49 _ _ _ (⟨5, 0, 1, 0, (-1), (-1)⟩ : S49) [.int .i64 5, .int .i64 0, .int .i64 1, .int .i64 0, .int .i64 (-1), .int .i64 (-1)] from (k49_mkM _ _ _ (⟨5, 0, 1, 0, (-1), (-1)⟩ : S49) )) (Reps.c6 (show Kd.M k49 _ _ _ (⟨7, 0, 1, 0, (-1), (-1)⟩ : S49) [.int .i64 7, .int .i64 0, .int .i64 1, .int .i64 0, .int .i64 (-1), .int .i64 (-1)] from (k49_mkM _ _ _ (⟨7, 0, 1, 0, (-1), (-1)⟩ : S49) )) (Reps.c6 (show Kd.M k49 _ _ _ (⟨0, 1, 1, 0, (-1), (-1)⟩ : S49) [.int .i64 0, .int .i64 1, .int .i64 1, .int .i64 0, .int .i64 (-1), .int .i64 (-1)] from (k49_mkM _ _ _ (⟨0, 1, 1, 0, (-1), (-1)⟩ : S49) )) (Reps.c6 (show Kd.M k49 _ _ _ (⟨0, 1, 1, 0, (-1), (-1)⟩ : S49) [.int .i64 0, .int .i64 1, .int .i64 1, .int .i64 0, .int .i64 (-1), .int .i64 (-1)] from (k49_mkM _ _ _ (⟨0, 1, 1, 0, (-1), (-1)⟩ : S49) )) (Reps.none _ _))))))))); intro v247 w1 ho2 hb hg_ hnew_; clear hg_ hnew_; (first | rw [← Ny246.out] at ho2 | (simp only [Int.reduceToNat] at ho2; rw [← Ny246.out] at ho2)); have n0_ := Aside0.mk (Kd.R_lower ho2 (below_size (by repeat (first | (with_reducible first | exact HB.out | apply below_alloc | apply pw_below_drewN | apply below_drew1) | exact HB.out)))); have n1_ := Aside0.mk (below_step (by repeat (first | (with_reducible first | exact HB.out | apply below_alloc | apply pw_below_drewN | apply below_drew1) | exact HB.out)) hb); clear HB; have HO248 := n0_; have HB := n1_; clear n0_ n1_; clear hb ho2))
 go_ret
 exact ⟨_, by first | rfl | (simp [errW_none, errW_some] <;> rfl) | (simp [*, errW_none, errW_some] <;> rfl), by (with_reducible repeat (first | apply Kd.R_alloc | apply Kd.R_drewN | apply Kd.R_drew)); exact HO248.out, by repeat (first | (with_reducible first | exact HB.out | apply below_alloc | apply pw_below_drewN | apply below_drew1) | exact HB.out)⟩
end Go.Proofs.Ytmmjkebboonnkaa.P
/- F16 -/
namespace Go.Proofs.Ytmmjkebboonnkaa.P
open Go.RowKit Go.Proofs.YtmmjkebboonnkaaW.PrintWords Go.Proofs.YtmmjkebboonnkaaW.PrintLast Go.Proofs.YtmmjkebboonnkaaW.PrintMore
attribute [local go_sem] max2_int min2_int max_two min_two max_three min_three max_four min_four   -- for this text's walks alone
set_option linter.unusedVariables false
set_option linter.unusedSimpArgs false
def table_path.l0 : Nat → List (S49) → Int → Int → List Int → Option (List Int)
 | 0, _, _, _, _ => none
 | k + 1, x0, x1, x5, x6 => if 0 ≤ x5 then (if x5 < (x0.length : Int) then ((table_isLeaf.f ((rd_T49 x0 x5).f0) ((rd_T49 x0 x5).f1) ((rd_T49 x0 x5).f2) ((rd_T49 x0 x5).f3) ((rd_T49 x0 x5).f4) ((rd_T49 x0 x5).f5)).bind fun t202 => (if t202 = true then (some x6) else (if ((rd_T49 x0 x5).f1) = 1 then (if x6.length < 17592186044416 then (table_path.l0 k x0 x1 ((rd_T49 x0 x5).f4) (x6 ++ [(rd_T49 x0 x5).f4])) else (none)) else (if x1 < ((rd_T49 x0 x5).f0) then (if x6.length < 17592186044416 then (table_path.l0 k x0 x1 ((rd_T49 x0 x5).f4) (x6 ++ [(rd_T49 x0 x5).f4])) else (none)) else (if x6.length < 17592186044416 then (table_path.l0 k x0 x1 ((rd_T49 x0 x5).f5) (x6 ++ [(rd_T49 x0 x5).f5])) else (none)))))) else (none)) else (none)
def table_path.f (k : Nat) (l0 : List (S49)) (a1 : Int) : Option (List Int) := table_path.l0 k l0 a1 0 (([0] : List Int))
theorem table_path.mono_l : ∀ k, (∀ y0 y1 y2 y3, LeO (table_path.l0 k y0 y1 y2 y3) (table_path.l0 (k + 1) y0 y1 y2 y3))
 | 0 => fun _ _ _ _ r h => by simp [table_path.l0] at h
 | k + 1 => by
  have ih0 := table_path.mono_l k
  ·
   intro y0 y1 y2 y3
   unfold table_path.l0
   repeat' first
   | (with_reducible exact ih0 _ _ _ _)
   | (with_reducible exact LeO.refl _)
   | (with_reducible exact LeO.none _)
   | (with_reducible refine LeO.ite ?_ ?_)
   | (with_reducible refine LeO.bind ?_ (fun _ => ?_))
   | exact ih0 _ _ _ _
   | exact LeO.none _
   | refine LeO.ite ?_ ?_
   | refine LeO.bind ?_ (fun _ => ?_)
theorem table_path.mono : ∀ a0 a1 k, LeO (table_path.f k a0 a1) (table_path.f (k + 1) a0 a1) := by
 intro a0 a1 k
 have ih0 := table_path.mono_l k
 unfold table_path.f
 repeat' first
   | (with_reducible exact ih0 _ _ _ _)
   | (with_reducible exact LeO.refl _)
   | (with_reducible exact LeO.none _)
   | (with_reducible refine LeO.ite ?_ ?_)
   | (with_reducible refine LeO.bind ?_ (fun _ => ?_))
   | exact ih0 _ _ _ _
   | exact LeO.none _
   | refine LeO.ite ?_ ?_
   | refine LeO.bind ?_ (fun _ => ?_)
set_option maxHeartbeats 8000000 in
set_option maxRecDepth 100000 in
theorem table_path.calls (k : Nat) (A0 : Option Addr) (c0 : Nat) (l0 : List (S49)) (a1 : Int) (r : List Int) (w : World) (hr0 : Kd.C k49 w A0 l0.length l0) (hc0 : l0.length ≤ c0) (h : table_path.f k l0 a1 = some r) :
  Calls Try.prog 61 #[.slice A0 l0.length c0, .int .i64 a1] w fun e w' => ∃ v0_ : Value, e = .returned (v0_) ∧ Kd.R (Kd.int .i64) 3 w' w.heap.size (fun _ => True) v0_ r ∧ Below w.heap.size w w' := by
 have hu49 := Try.underlying49
 have HR0 := Aside0.mk hr0
 have HC0 := Aside0.mk hc0
 clear hr0 hc0
 have HB := Aside0.mk (Below.refl w.heap.size w)
 have H : (table_path.l0 k l0 a1 0 (([0] : List Int))) = some r := h
 clear h
 obtain ⟨y198, hy198⟩ : ∃ y_ : List Int, y_ = (([0] : List Int)) := ⟨_, rfl⟩
 replace H : (table_path.l0 k l0 a1 0 y198) = some r := by first | (rw [hy198]; with_reducible exact H) | (have H2_ := (Option.bind_some _ _).symm.trans H; rw [hy198]; with_reducible exact H2_) | (have H2_ := (Option.bind_some _ _).symm.trans H; with_reducible exact H2_) | with_reducible exact H | (rw [hy198]; exact H) | exact H
 have Ny198 := Aside0.mk hy198
 clear hy198
 have H' := Aside0.mk H
 clear H
 go_enter Try.func61, Try.ntmps61
 go_wp2_with (first | ((with_reducible refine gate_dst (N := 8) rfl ?_); refine Kd.R_lit (Kd.int .i64) _ 3 ?hg (N := 8) ?hd (xs := ([0] : List Int)) (inner := [.int .i64 0]) (ok := fun _ => True) (okp := fun _ => True) ?hr ?hp (fun _ hk => hk) trivial (Below.refl _ _) (Nat.le_refl _) (by simp) ?_; (case hd => rfl); (case hg => rfl); (case hr => first | (go_simp; done) | (go_simp; rfl)); (case hp => exact (Reps.one (show Kd.M (Kd.int .i64) _ _ _ 0 [.int .i64 0] from rfl) (Reps.none _ _))); intro v199 w3 ho4 hb hg_ hnew_; clear hg_ hnew_; (first | rw [← Ny198.out] at ho4 | (simp only [Int.reduceToNat] at ho4; rw [← Ny198.out] at ho4)); have n0_ := Aside0.mk (Kd.R_lower ho4 (below_size (by repeat (first | (with_reducible first | exact HB.out | apply below_alloc | apply pw_below_drewN | apply below_drew1) | exact HB.out)))); have n1_ := Aside0.mk (below_step (by repeat (first | (with_reducible first | exact HB.out | apply below_alloc | apply pw_below_drewN | apply below_drew1) | exact HB.out)) hb); clear HB; have HO200 := n0_; have HB := n1_; clear n0_ n1_; clear hb ho4))
 go_loopg [5, 6] k (fun kq v5 v6 w' => ∃ (x5_1 : Int) (x6_1 : List Int), v5 = .int .i64 x5_1 ∧ Aside0 (table_path.l0 kq l0 a1 x5_1 x6_1 = some r) ∧ Aside0 (kq ≤ k) ∧ Aside0 (Kd.R (Kd.int .i64) 3 w' w.heap.size (fun _ => True) v6 x6_1) ∧ Aside0 (Below w.heap.size w w'))
 case atStart => exact ⟨(0), (y198), (by first | rfl | (simp; done) | (simp [*]; done)), H', ⟨Nat.le_refl _⟩, ⟨by (with_reducible repeat (first | apply Kd.R_alloc | apply Kd.R_drewN | apply Kd.R_drew)); exact HO200.out⟩, ⟨by repeat (first | (with_reducible first | exact HB.out | apply below_alloc | apply pw_below_drewN | apply below_drew1) | exact HB.out)⟩⟩
 case round =>
  clear H'
  try clear p2
  obtain ⟨x5_1, x6_1, rfl, HA, HK1, HO_6, HB⟩ := hrel
  cases gk with
  | zero => exact absurd HA.out (by simp [table_path.l0])
  | succ k1 =>
   have H := HA.out
   clear HA
   simp only [table_path.l0] at H
   by_cases c5 : 0 ≤ x5_1
   ·
    rw [if_pos c5] at H
    have c5b0 : decide (0 ≤ x5_1) = true := decide_eq_true c5
    clear c5
    by_cases c6 : x5_1 < (l0.length : Int)
    ·
     rw [if_pos c6] at H
     have c6b0 : decide (x5_1 < (l0.length : Int)) = true := decide_eq_true c6
     clear c6
     replace H := Option.bind_eq_some_iff.mp H
     obtain ⟨t202, A70, H⟩ := H
     replace H : (if t202 = true then (some x6_1) else (if ((rd_T49 l0 x5_1).f1) = 1 then (if x6_1.length < 17592186044416 then (table_path.l0 k1 l0 a1 ((rd_T49 l0 x5_1).f4) (x6_1 ++ [(rd_T49 l0 x5_1).f4])) else (none)) else (if a1 < ((rd_T49 l0 x5_1).f0) then (if x6_1.length < 17592186044416 then (table_path.l0 k1 l0 a1 ((rd_T49 l0 x5_1).f4) (x6_1 ++ [(rd_T49 l0 x5_1).f4])) else (none)) else (if x6_1.length < 17592186044416 then (table_path.l0 k1 l0 a1 ((rd_T49 l0 x5_1).f5) (x6_1 ++ [(rd_T49 l0 x5_1).f5])) else (none))))) = some r := H
     have A7 := Aside0.mk A70
     clear A70
     by_cases c8 : t202 = true
     ·
      subst c8
      have H1 : (some x6_1) = some r := by rw [if_pos rfl] at H; exact H
      clear H
      have H := H1
      clear H1
      obtain rfl := Option.some.inj H
      have p201 : 0 ≤ (x5_1 : Int) := of_decide_eq_true (by first | (with_reducible assumption) | assumption)
      have q201 : x5_1 < (l0.length : Int) := of_decide_eq_true (by first | (with_reducible assumption) | assumption)
      obtain ⟨ad201, e201, hx201_0, hx201_1, hx201_2, hx201_3, hx201_4, hx201_5⟩ := at_T49 HR0.out x5_1 p201 q201
      cases e201
      replace hx201_0 := (HB.out.cell (World.block_lt_of_cell? w _ hx201_0)).trans hx201_0
      replace hx201_1 := (HB.out.cell (World.block_lt_of_cell? w _ hx201_1)).trans hx201_1
      replace hx201_2 := (HB.out.cell (World.block_lt_of_cell? w _ hx201_2)).trans hx201_2
      replace hx201_3 := (HB.out.cell (World.block_lt_of_cell? w _ hx201_3)).trans hx201_3
      replace hx201_4 := (HB.out.cell (World.block_lt_of_cell? w _ hx201_4)).trans hx201_4
      replace hx201_5 := (HB.out.cell (World.block_lt_of_cell? w _ hx201_5)).trans hx201_5
      replace p201 := eq_true p201
      replace q201 := eq_true q201
      go_wp2_with (first | ((with_reducible refine gate_callee (f := 66) rfl ?_); refine goesL_ (some 13) rfl rfl Try.func66 (by kernel_rfl) rfl #[.agg #[.int .i64 ((rd_T49 l0 x5_1).f0), .int .i64 ((rd_T49 l0 x5_1).f1), .int .i64 ((rd_T49 l0 x5_1).f2), .int .i64 ((rd_T49 l0 x5_1).f3), .int .i64 ((rd_T49 l0 x5_1).f4), .int .i64 ((rd_T49 l0 x5_1).f5)]] rfl (by (try simp only [List.map_toArray, List.map_cons, List.map_nil]); first | done | rfl | (simp only [List.length_drop, List.length_take]; rfl)) ?_; (with_reducible refine (table_isLeaf.calls ((rd_T49 l0 x5_1).f0) ((rd_T49 l0 x5_1).f1) ((rd_T49 l0 x5_1).f2) ((rd_T49 l0 x5_1).f3) ((rd_T49 l0 x5_1).f4) ((rd_T49 l0 x5_1).f5) true _ A7.out).mono ?_); rintro e w9 ⟨rfl, hb⟩; refine ⟨_, rfl, ?_⟩; have n0_ := Aside0.mk (Kd.R_below (by (with_reducible repeat (first | apply Kd.R_alloc | apply Kd.R_drewN | apply Kd.R_drew)); exact HO_6.out) hb); have n1_ := Aside0.mk (below_step (by repeat (first | (with_reducible first | exact HB.out | apply below_alloc | apply pw_below_drewN | apply below_drew1) | exact HB.out)) hb); clear HO_6; clear HB; have HO_6 := n0_; have HB := n1_; clear n0_ n1_; (try clear hb); (try clear hb2); (try clear hk); (try clear hi)))
      go_ret
      exact ⟨_, by first | rfl | (simp [errW_none, errW_some] <;> rfl) | (simp [*, errW_none, errW_some] <;> rfl), by (with_reducible repeat (first | apply Kd.R_alloc | apply Kd.R_drewN | apply Kd.R_drew)); exact HO_6.out, by repeat (first | (with_reducible first | exact HB.out | apply below_alloc | apply pw_below_drewN | apply below_drew1) | exact HB.out)⟩
     ·
      replace c8 := Bool.eq_false_iff.mpr c8
      subst c8
      have H1 : (if ((rd_T49 l0 x5_1).f1) = 1 then (if x6_1.length < 17592186044416 then (table_path.l0 k1 l0 a1 ((rd_T49 l0 x5_1).f4) (x6_1 ++ [(rd_T49 l0 x5_1).f4])) else (none)) else (if a1 < ((rd_T49 l0 x5_1).f0) then (if x6_1.length < 17592186044416 then (table_path.l0 k1 l0 a1 ((rd_T49 l0 x5_1).f4) (x6_1 ++ [(rd_T49 l0 x5_1).f4])) else (none)) else (if x6_1.length < 17592186044416 then (table_path.l0 k1 l0 a1 ((rd_T49 l0 x5_1).f5) (x6_1 ++ [(rd_T49 l0 x5_1).f5])) else (none)))) = some r := by rw [if_neg (show ¬ (false = true) by decide)] at H; exact H
      clear H
      have H := H1
      clear H1
      by_cases c10 : ((rd_T49 l0 x5_1).f1) = 1
      ·
       rw [if_pos c10] at H
       have c10b0 : (((rd_T49 l0 x5_1).f1) == 1) = true := beq_iff_eq.mpr c10
       have c10b1 : (((rd_T49 l0 x5_1).f1) != 1) = false := bne_eq_false_iff_eq.mpr c10
       clear c10
       by_cases c11 : x6_1.length < 17592186044416
       ·
        rw [if_pos c11] at H
        have LMc11 := Aside0.mk c11
        clear c11
        obtain ⟨y205, hy205⟩ : ∃ y_ : List Int, y_ = (x6_1 ++ [(rd_T49 l0 x5_1).f4]) := ⟨_, rfl⟩
        replace H : (table_path.l0 k1 l0 a1 ((rd_T49 l0 x5_1).f4) y205) = some r := by first | (rw [hy205]; with_reducible exact H) | (have H2_ := (Option.bind_some _ _).symm.trans H; rw [hy205]; with_reducible exact H2_) | (have H2_ := (Option.bind_some _ _).symm.trans H; with_reducible exact H2_) | with_reducible exact H | (rw [hy205]; exact H) | exact H
        have Ny205 := Aside0.mk hy205
        clear hy205
        have H' := Aside0.mk H
        clear H
        have p201 : 0 ≤ (x5_1 : Int) := of_decide_eq_true (by first | (with_reducible assumption) | assumption)
        have q201 : x5_1 < (l0.length : Int) := of_decide_eq_true (by first | (with_reducible assumption) | assumption)
        obtain ⟨ad201, e201, hx201_0, hx201_1, hx201_2, hx201_3, hx201_4, hx201_5⟩ := at_T49 HR0.out x5_1 p201 q201
        cases e201
        replace hx201_0 := (HB.out.cell (World.block_lt_of_cell? w _ hx201_0)).trans hx201_0
        replace hx201_1 := (HB.out.cell (World.block_lt_of_cell? w _ hx201_1)).trans hx201_1
        replace hx201_2 := (HB.out.cell (World.block_lt_of_cell? w _ hx201_2)).trans hx201_2
        replace hx201_3 := (HB.out.cell (World.block_lt_of_cell? w _ hx201_3)).trans hx201_3
        replace hx201_4 := (HB.out.cell (World.block_lt_of_cell? w _ hx201_4)).trans hx201_4
        replace hx201_5 := (HB.out.cell (World.block_lt_of_cell? w _ hx201_5)).trans hx201_5
        replace p201 := eq_true p201
        replace q201 := eq_true q201
        go_wp2_with (first | ((with_reducible refine gate_callee (f := 66) rfl ?_); refine goesL_ (some 13) rfl rfl Try.func66 (by kernel_rfl) rfl #[.agg #[.int .i64 ((rd_T49 l0 x5_1).f0), .int .i64 ((rd_T49 l0 x5_1).f1), .int .i64 ((rd_T49 l0 x5_1).f2), .int .i64 ((rd_T49 l0 x5_1).f3), .int .i64 ((rd_T49 l0 x5_1).f4), .int .i64 ((rd_T49 l0 x5_1).f5)]] rfl (by (try simp only [List.map_toArray, List.map_cons, List.map_nil]); first | done | rfl | (simp only [List.length_drop, List.length_take]; rfl)) ?_; (with_reducible refine (table_isLeaf.calls ((rd_T49 l0 x5_1).f0) ((rd_T49 l0 x5_1).f1) ((rd_T49 l0 x5_1).f2) ((rd_T49 l0 x5_1).f3) ((rd_T49 l0 x5_1).f4) ((rd_T49 l0 x5_1).f5) false _ A7.out).mono ?_); rintro e w12 ⟨rfl, hb⟩; refine ⟨_, rfl, ?_⟩; have n0_ := Aside0.mk (Kd.R_below (by (with_reducible repeat (first | apply Kd.R_alloc | apply Kd.R_drewN | apply Kd.R_drew)); exact HO_6.out) hb); have n1_ := Aside0.mk (below_step (by repeat (first | (with_reducible first | exact HB.out | apply below_alloc | apply pw_below_drewN | apply below_drew1) | exact HB.out)) hb); clear HO_6; clear HB; have HO_6 := n0_; have HB := n1_; clear n0_ n1_; (try clear hb); (try clear hb2); (try clear hk); (try clear hi); have p203 : 0 ≤ (x5_1 : Int) := of_decide_eq_true (by first | (with_reducible assumption) | assumption); have q203 : x5_1 < (l0.length : Int) := of_decide_eq_true (by first | (with_reducible assumption) | assumption); obtain ⟨ad203, e203, hx203_0, hx203_1, hx203_2, hx203_3, hx203_4, hx203_5⟩ := at_T49 HR0.out x5_1 p203 q203; obtain rfl : ad201 = ad203 := (by injection e203); replace hx203_0 := (HB.out.cell (World.block_lt_of_cell? w _ hx203_0)).trans hx203_0; replace hx203_1 := (HB.out.cell (World.block_lt_of_cell? w _ hx203_1)).trans hx203_1; replace hx203_2 := (HB.out.cell (World.block_lt_of_cell? w _ hx203_2)).trans hx203_2; replace hx203_3 := (HB.out.cell (World.block_lt_of_cell? w _ hx203_3)).trans hx203_3; replace hx203_4 := (HB.out.cell (World.block_lt_of_cell? w _ hx203_4)).trans hx203_4; replace hx203_5 := (HB.out.cell (World.block_lt_of_cell? w _ hx203_5)).trans hx203_5; replace p203 := eq_true p203; replace q203 := eq_true q203; have p204 : 0 ≤ (x5_1 : Int) := of_decide_eq_true (by first | (with_reducible assumption) | assumption); have q204 : x5_1 < (l0.length : Int) := of_decide_eq_true (by first | (with_reducible assumption) | assumption); obtain ⟨ad204, e204, hx204_0, hx204_1, hx204_2, hx204_3, hx204_4, hx204_5⟩ := at_T49 HR0.out x5_1 p204 q204; obtain rfl : ad201 = ad204 := (by injection e204); replace hx204_0 := (HB.out.cell (World.block_lt_of_cell? w _ hx204_0)).trans hx204_0; replace hx204_1 := (HB.out.cell (World.block_lt_of_cell? w _ hx204_1)).trans hx204_1; replace hx204_2 := (HB.out.cell (World.block_lt_of_cell? w _ hx204_2)).trans hx204_2; replace hx204_3 := (HB.out.cell (World.block_lt_of_cell? w _ hx204_3)).trans hx204_3; replace hx204_4 := (HB.out.cell (World.block_lt_of_cell? w _ hx204_4)).trans hx204_4; replace hx204_5 := (HB.out.cell (World.block_lt_of_cell? w _ hx204_5)).trans hx204_5; replace p204 := eq_true p204; replace q204 := eq_true q204) | ((with_reducible refine gate_builtin (b := .append) (xs := #[.tmp 40, .tmp 42]) rfl ?_); at_builtin; refine Kd.R_append (Kd.int .i64) (w0 := w) w.heap.size rfl (.tmp 40) (.tmp 42) 23 3 (.int .i64 0) 8 rfl Try.underlying23 info3 rfl (by decide) (by omega) u6 x6_1 ((rd_T49 l0 x5_1).f4) [.int .i64 ((rd_T49 l0 x5_1).f4)] (fun _ => True) (fun _ => False) rfl rfl ?aP (fun _ hk => hk.elim) ?aF ?aO ?aB ?aS ?aL ?_; (case aP => exact rfl); (case aB => exact (by repeat (first | (with_reducible first | exact HB.out | apply below_alloc | apply pw_below_drewN | apply below_drew1) | exact HB.out))); (case aF => exact (fun _ _ => trivial)); (case aO => exact (by (with_reducible repeat (first | apply Kd.R_alloc | apply Kd.R_drewN | apply Kd.R_drew)); exact HO_6.out)); (case aS => exact (below_size (by repeat (first | (with_reducible first | exact HB.out | apply below_alloc | apply pw_below_drewN | apply below_drew1) | exact HB.out)))); (case aL => have := LMc11.out; omega); intro v206 w13 ho hb hg hat; rw [← Ny205.out] at ho; have n0_ := Aside0.mk (hb); have n1_ := Aside0.mk (ho); clear HB; clear HO_6; have HB := n0_; have HO207 := n1_; clear n0_ n1_; clear ho hb hg hat))
        go_roundg k1
        case measure => have := HK1.out; omega
        case rel => exact ⟨((rd_T49 l0 x5_1).f4), (y205), (by first | rfl | (simp; done) | (simp [*]; done)), H', ⟨by have := HK1.out; omega⟩, ⟨by (with_reducible repeat (first | apply Kd.R_alloc | apply Kd.R_drewN | apply Kd.R_drew)); exact HO207.out⟩, ⟨by repeat (first | (with_reducible first | exact HB.out | apply below_alloc | apply pw_below_drewN | apply below_drew1) | exact HB.out)⟩⟩
       ·
        rw [if_neg c11] at H
        exact absurd H (by simp)
      ·
       rw [if_neg c10] at H
       have c10b0 : (((rd_T49 l0 x5_1).f1) == 1) = false := beq_eq_false_iff_ne.mpr c10
       have c10b1 : (((rd_T49 l0 x5_1).f1) != 1) = true := bne_iff_ne.mpr c10
       by_cases c14 : a1 < ((rd_T49 l0 x5_1).f0)
       ·
        rw [if_pos c14] at H
        have c14b0 : decide (a1 < ((rd_T49 l0 x5_1).f0)) = true := decide_eq_true c14
        clear c14
        by_cases c15 : x6_1.length < 17592186044416
        ·
         rw [if_pos c15] at H
         have LMc15 := Aside0.mk c15
         clear c15
         obtain ⟨y210, hy210⟩ : ∃ y_ : List Int, y_ = (x6_1 ++ [(rd_T49 l0 x5_1).f4]) := ⟨_, rfl⟩
         replace H : (table_path.l0 k1 l0 a1 ((rd_T49 l0 x5_1).f4) y210) = some r := by first | (rw [hy210]; with_reducible exact H) | (have H2_ := (Option.bind_some _ _).symm.trans H; rw [hy210]; with_reducible exact H2_) | (have H2_ := (Option.bind_some _ _).symm.trans H; with_reducible exact H2_) | with_reducible exact H | (rw [hy210]; exact H) | exact H
         have Ny210 := Aside0.mk hy210
         clear hy210
         have H' := Aside0.mk H
         clear H
         have p201 : 0 ≤ (x5_1 : Int) := of_decide_eq_true (by first | (with_reducible assumption) | assumption)
         have q201 : x5_1 < (l0.length : Int) := of_decide_eq_true (by first | (with_reducible assumption) | assumption)
         obtain ⟨ad201, e201, hx201_0, hx201_1, hx201_2, hx201_3, hx201_4, hx201_5⟩ := at_T49 HR0.out x5_1 p201 q201
         cases e201
         replace hx201_0 := (HB.out.cell (World.block_lt_of_cell? w _ hx201_0)).trans hx201_0
         replace hx201_1 := (HB.out.cell (World.block_lt_of_cell? w _ hx201_1)).trans hx201_1
         replace hx201_2 := (HB.out.cell (World.block_lt_of_cell? w _ hx201_2)).trans hx201_2
         replace hx201_3 := (HB.out.cell (World.block_lt_of_cell? w _ hx201_3)).trans hx201_3
         replace hx201_4 := (HB.out.cell (World.block_lt_of_cell? w _ hx201_4)).trans hx201_4
         replace hx201_5 := (HB.out.cell (World.block_lt_of_cell? w _ hx201_5)).trans hx201_5
         replace p201 := eq_true p201
         replace q201 := eq_true q201
         go_wp2_with (first | ((with_reducible refine gate_callee (f := 66) rfl ?_); refine goesL_ (some 13) rfl rfl Try.func66 (by kernel_rfl) rfl #[.agg #[.int .i64 ((rd_T49 l0 x5_1).f0), .int .i64 ((rd_T49 l0 x5_1).f1), .int .i64 ((rd_T49 l0 x5_1).f2), .int .i64 ((rd_T49 l0 x5_1).f3), .int .i64 ((rd_T49 l0 x5_1).f4), .int .i64 ((rd_T49 l0 x5_1).f5)]] rfl (by (try simp only [List.map_toArray, List.map_cons, List.map_nil]); first | done | rfl | (simp only [List.length_drop, List.length_take]; rfl)) ?_; (with_reducible refine (table_isLeaf.calls ((rd_T49 l0 x5_1).f0) ((rd_T49 l0 x5_1).f1) ((rd_T49 l0 x5_1).f2) ((rd_T49 l0 x5_1).f3) ((rd_T49 l0 x5_1).f4) ((rd_T49 l0 x5_1).f5) false _ A7.out).mono ?_); rintro e w16 ⟨rfl, hb⟩; refine ⟨_, rfl, ?_⟩; have n0_ := Aside0.mk (Kd.R_below (by (with_reducible repeat (first | apply Kd.R_alloc | apply Kd.R_drewN | apply Kd.R_drew)); exact HO_6.out) hb); have n1_ := Aside0.mk (below_step (by repeat (first | (with_reducible first | exact HB.out | apply below_alloc | apply pw_below_drewN | apply below_drew1) | exact HB.out)) hb); clear HO_6; clear HB; have HO_6 := n0_; have HB := n1_; clear n0_ n1_; (try clear hb); (try clear hb2); (try clear hk); (try clear hi); have p203 : 0 ≤ (x5_1 : Int) := of_decide_eq_true (by first | (with_reducible assumption) | assumption); have q203 : x5_1 < (l0.length : Int) := of_decide_eq_true (by first | (with_reducible assumption) | assumption); obtain ⟨ad203, e203, hx203_0, hx203_1, hx203_2, hx203_3, hx203_4, hx203_5⟩ := at_T49 HR0.out x5_1 p203 q203; obtain rfl : ad201 = ad203 := (by injection e203); replace hx203_0 := (HB.out.cell (World.block_lt_of_cell? w _ hx203_0)).trans hx203_0; replace hx203_1 := (HB.out.cell (World.block_lt_of_cell? w _ hx203_1)).trans hx203_1; replace hx203_2 := (HB.out.cell (World.block_lt_of_cell? w _ hx203_2)).trans hx203_2; replace hx203_3 := (HB.out.cell (World.block_lt_of_cell? w _ hx203_3)).trans hx203_3; replace hx203_4 := (HB.out.cell (World.block_lt_of_cell? w _ hx203_4)).trans hx203_4; replace hx203_5 := (HB.out.cell (World.block_lt_of_cell? w _ hx203_5)).trans hx203_5; replace p203 := eq_true p203; replace q203 := eq_true q203; have p208 : 0 ≤ (x5_1 : Int) := of_decide_eq_true (by first | (with_reducible assumption) | assumption); have q208 : x5_1 < (l0.length : Int) := of_decide_eq_true (by first | (with_reducible assumption) | assumption); obtain ⟨ad208, e208, hx208_0, hx208_1, hx208_2, hx208_3, hx208_4, hx208_5⟩ := at_T49 HR0.out x5_1 p208 q208; obtain rfl : ad201 = ad208 := (by injection e208); replace hx208_0 := (HB.out.cell (World.block_lt_of_cell? w _ hx208_0)).trans hx208_0; replace hx208_1 := (HB.out.cell (World.block_lt_of_cell? w _ hx208_1)).trans hx208_1; replace hx208_2 := (HB.out.cell (World.block_lt_of_cell? w _ hx208_2)).trans hx208_2; replace hx208_3 := (HB.out.cell (World.block_lt_of_cell? w _ hx208_3)).trans hx208_3; replace hx208_4 := (HB.out.cell (World.block_lt_of_cell? w _ hx208_4)).trans hx208_4; replace hx208_5 := (HB.out.cell (World.block_lt_of_cell? w _ hx208_5)).trans hx208_5; replace p208 := eq_true p208; replace q208 := eq_true q208; have p209 : 0 ≤ (x5_1 : Int) := of_decide_eq_true (by first | (with_reducible assumption) | assumption); have q209 : x5_1 < (l0.length : Int) := of_decide_eq_true (by first | (with_reducible assumption) | assumption); obtain ⟨ad209, e209, hx209_0, hx209_1, hx209_2, hx209_3, hx209_4, hx209_5⟩ := at_T49 HR0.out x5_1 p209 q209; obtain rfl : ad201 = ad209 := (by injection e209); replace hx209_0 := (HB.out.cell (World.block_lt_of_cell? w _ hx209_0)).trans hx209_0; replace hx209_1 := (HB.out.cell (World.block_lt_of_cell? w _ hx209_1)).trans hx209_1; replace hx209_2 := (HB.out.cell (World.block_lt_of_cell? w _ hx209_2)).trans hx209_2; replace hx209_3 := (HB.out.cell (World.block_lt_of_cell? w _ hx209_3)).trans hx209_3; replace hx209_4 := (HB.out.cell (World.block_lt_of_cell? w _ hx209_4)).trans hx209_4; replace hx209_5 := (HB.out.cell (World.block_lt_of_cell? w _ hx209_5)).trans hx209_5; replace p209 := eq_true p209; replace q209 := eq_true q209) | ((with_reducible refine gate_builtin (b := .append) (xs := #[.tmp 40, .tmp 42]) rfl ?_); at_builtin; refine Kd.R_append (Kd.int .i64) (w0 := w) w.heap.size rfl (.tmp 40) (.tmp 42) 23 3 (.int .i64 0) 8 rfl Try.underlying23 info3 rfl (by decide) (by omega) u6 x6_1 ((rd_T49 l0 x5_1).f4) [.int .i64 ((rd_T49 l0 x5_1).f4)] (fun _ => True) (fun _ => False) rfl rfl ?aP (fun _ hk => hk.elim) ?aF ?aO ?aB ?aS ?aL ?_; (case aP => exact rfl); (case aB => exact (by repeat (first | (with_reducible first | exact HB.out | apply below_alloc | apply pw_below_drewN | apply below_drew1) | exact HB.out))); (case aF => exact (fun _ _ => trivial)); (case aO => exact (by (with_reducible repeat (first | apply Kd.R_alloc | apply Kd.R_drewN | apply Kd.R_drew)); exact HO_6.out)); (case aS => exact (below_size (by repeat (first | (with_reducible first | exact HB.out | apply below_alloc | apply pw_below_drewN | apply below_drew1) | exact HB.out)))); (case aL => have := LMc15.out; omega); intro v211 w17 ho hb hg hat; rw [← Ny210.out] at ho; have n0_ := Aside0.mk (hb); have n1_ := Aside0.mk (ho); clear HB; clear HO_6; have HB := n0_; have HO212 := n1_; clear n0_ n1_; clear ho hb hg hat))
         go_roundg k1
         case measure => have := HK1.out; omega
         case rel => exact ⟨((rd_T49 l0 x5_1).f4), (y210), (by first | rfl | (simp; done) | (simp [*]; done)), H', ⟨by have := HK1.out; omega⟩, ⟨by (with_reducible repeat (first | apply Kd.R_alloc | apply Kd.R_drewN | apply Kd.R_drew)); exact HO212.out⟩, ⟨by repeat (first | (with_reducible first | exact HB.out | apply below_alloc | apply pw_below_drewN | apply below_drew1) | exact HB.out)⟩⟩
        ·
         rw [if_neg c15] at H
         exact absurd H (by simp)
       ·
        rw [if_neg c14] at H
        have c14b0 : decide (a1 < ((rd_T49 l0 x5_1).f0)) = false := decide_eq_false c14
        clear c14
        by_cases c18 : x6_1.length < 17592186044416
        ·
         rw [if_pos c18] at H
         have LMc18 := Aside0.mk c18
         clear c18
         obtain ⟨y214, hy214⟩ : ∃ y_ : List Int, y_ = (x6_1 ++ [(rd_T49 l0 x5_1).f5]) := ⟨_, rfl⟩
         replace H : (table_path.l0 k1 l0 a1 ((rd_T49 l0 x5_1).f5) y214) = some r := by first | (rw [hy214]; with_reducible exact H) | (have H2_ := (Option.bind_some _ _).symm.trans H; rw [hy214]; with_reducible exact H2_) | (have H2_ := (Option.bind_some _ _).symm.trans H; with_reducible exact H2_) | with_reducible exact H | (rw [hy214]; exact H) | exact H
         have Ny214 := Aside0.mk hy214
         clear hy214
         have H' := Aside0.mk H
         clear H
         have p201 : 0 ≤ (x5_1 : Int) := of_decide_eq_true (by first | (with_reducible assumption) | assumption)
         have q201 : x5_1 < (l0.length : Int) := of_decide_eq_true (by first | (with_reducible assumption) | assumption)
         obtain ⟨ad201, e201, hx201_0, hx201_1, hx201_2, hx201_3, hx201_4, hx201_5⟩ := at_T49 HR0.out x5_1 p201 q201
         cases e201
         replace hx201_0 := (HB.out.cell (World.block_lt_of_cell? w _ hx201_0)).trans hx201_0
         replace hx201_1 := (HB.out.cell (World.block_lt_of_cell? w _ hx201_1)).trans hx201_1
         replace hx201_2 := (HB.out.cell (World.block_lt_of_cell? w _ hx201_2)).trans hx201_2
         replace hx201_3 := (HB.out.cell (World.block_lt_of_cell? w _ hx201_3)).trans hx201_3
         replace hx201_4 := (HB.out.cell (World.block_lt_of_cell? w _ hx201_4)).trans hx201_4
         replace hx201_5 := (HB.out.cell (World.block_lt_of_cell? w _ hx201_5)).trans hx201_5
         replace p201 := eq_true p201
         replace q201 := eq_true q201
         go_wp2_with (first | ((with_reducible refine gate_callee (f := 66) rfl ?_); refine goesL_ (some 13) rfl rfl Try.func66 (by kernel_rfl) rfl #[.agg #[.int .i64 ((rd_T49 l0 x5_1).f0), .int .i64 ((rd_T49 l0 x5_1).f1), .int .i64 ((rd_T49 l0 x5_1).f2), .int .i64 ((rd_T49 l0 x5_1).f3), .int .i64 ((rd_T49 l0 x5_1).f4), .int .i64 ((rd_T49 l0 x5_1).f5)]] rfl (by (try simp only [List.map_toArray, List.map_cons, List.map_nil]); first | done | rfl | (simp only [List.length_drop, List.length_take]; rfl)) ?_; (with_reducible refine (table_isLeaf.calls ((rd_T49 l0 x5_1).f0) ((rd_T49 l0 x5_1).f1) ((rd_T49 l0 x5_1).f2) ((rd_T49 l0 x5_1).f3) ((rd_T49 l0 x5_1).f4) ((rd_T49 l0 x5_1).f5) false _ A7.out).mono ?_); rintro e w19 ⟨rfl, hb⟩; refine ⟨_, rfl, ?_⟩; have n0_ := Aside0.mk (Kd.R_below (by (with_reducible repeat (first | apply Kd.R_alloc | apply Kd.R_drewN | apply Kd.R_drew)); exact HO_6.out) hb); have n1_ := Aside0.mk (below_step (by repeat (first | (with_reducible first | exact HB.out | apply below_alloc | apply pw_below_drewN | apply below_drew1) | exact HB.out)) hb); clear HO_6; clear HB; have HO_6 := n0_; have HB := n1_; clear n0_ n1_; (try clear hb); (try clear hb2); (try clear hk); (try clear hi); have p203 : 0 ≤ (x5_1 : Int) := of_decide_eq_true (by first | (with_reducible assumption) | assumption); have q203 : x5_1 < (l0.length : Int) := of_decide_eq_true (by first | (with_reducible assumption) | assumption); obtain ⟨ad203, e203, hx203_0, hx203_1, hx203_2, hx203_3, hx203_4, hx203_5⟩ := at_T49 HR0.out x5_1 p203 q203; obtain rfl : ad201 = ad203 := (by injection e203); replace hx203_0 := (HB.out.cell (World.block_lt_of_cell? w _ hx203_0)).trans hx203_0; replace hx203_1 := (HB.out.cell (World.block_lt_of_cell? w _ hx203_1)).trans hx203_1; replace hx203_2 := (HB.out.cell (World.block_lt_of_cell? w _ hx203_2)).trans hx203_2; replace hx203_3 := (HB.out.cell (World.block_lt_of_cell? w _ hx203_3)).trans hx203_3; replace hx203_4 := (HB.out.cell (World.block_lt_of_cell? w _ hx203_4)).trans hx203_4; replace hx203_5 := (HB.out.cell (World.block_lt_of_cell? w _ hx203_5)).trans hx203_5; replace p203 := eq_true p203; replace q203 := eq_true q203; have p208 : 0 ≤ (x5_1 : Int) := of_decide_eq_true (by first | (with_reducible assumption) | assumption); have q208 : x5_1 < (l0.length : Int) := of_decide_eq_true (by first | (with_reducible assumption) | assumption); obtain ⟨ad208, e208, hx208_0, hx208_1, hx208_2, hx208_3, hx208_4, hx208_5⟩ := at_T49 HR0.out x5_1 p208 q208; obtain rfl : ad201 = ad208 := (by injection e208); replace hx208_0 := (HB.out.cell (World.block_lt_of_cell? w _ hx208_0)).trans hx208_0; replace hx208_1 := (HB.out.cell (World.block_lt_of_cell? w _ hx208_1)).trans hx208_1; replace hx208_2 := (HB.out.cell (World.block_lt_of_cell? w _ hx208_2)).trans hx208_2; replace hx208_3 := (HB.out.cell (World.block_lt_of_cell? w _ hx208_3)).trans hx208_3; replace hx208_4 := (HB.out.cell (World.block_lt_of_cell? w _ hx208_4)).trans hx208_4; replace hx208_5 := (HB.out.cell (World.block_lt_of_cell? w _ hx208_5)).trans hx208_5; replace p208 := eq_true p208; replace q208 := eq_true q208; have p213 : 0 ≤ (x5_1 : Int) := of_decide_eq_true (by first | (with_reducible assumption) | assumption); have q213 : x5_1 < (l0.length : Int) := of_decide_eq_true (by first | (with_reducible assumption) | assumption); obtain ⟨ad213, e213, hx213_0, hx213_1, hx213_2, hx213_3, hx213_4, hx213_5⟩ := at_T49 HR0.out x5_1 p213 q213; obtain rfl : ad201 = ad213 := (by injection e213); replace hx213_0 := (HB.out.cell (World.block_lt_of_cell? w _ hx213_0)).trans hx213_0; replace hx213_1 := (HB.out.cell (World.block_lt_of_cell? w _ hx213_1)).trans hx213_1; replace hx213_2 := (HB.out.cell (World.block_lt_of_cell? w _ hx213_2)).trans hx213_2; replace hx213_3 := (HB.out.cell (World.block_lt_of_cell? w _ hx213_3)).trans hx213_3; replace hx213_4 := (HB.out.cell (World.block_lt_of_cell? w _ hx213_4)).trans hx213_4; replace hx213_5 := (HB.out.cell (World.block_lt_of_cell? w _ hx213_5)).trans hx213_5; replace p213 := eq_true p213; replace q213 := eq_true q213) | ((with_reducible refine gate_builtin (b := .append) (xs := #[.tmp 40, .tmp 42]) rfl ?_); at_builtin; refine Kd.R_append (Kd.int .i64) (w0 := w) w.heap.size rfl (.tmp 40) (.tmp 42) 23 3 (.int .i64 0) 8 rfl Try.underlying23 info3 rfl (by decide) (by omega) u6 x6_1 ((rd_T49 l0 x5_1).f5) [.int .i64 ((rd_T49 l0 x5_1).f5)] (fun _ => True) (fun _ => False) rfl rfl ?aP (fun _ hk => hk.elim) ?aF ?aO ?aB ?aS ?aL ?_; (case aP => exact rfl); (case aB => exact (by repeat (first | (with_reducible first | exact HB.out | apply below_alloc | apply pw_below_drewN | apply below_drew1) | exact HB.out))); (case aF => exact (fun _ _ => trivial)); (case aO => exact (by (with_reducible repeat (first | apply Kd.R_alloc | apply Kd.R_drewN | apply Kd.R_drew)); exact HO_6.out)); (case aS => exact (below_size (by repeat (first | (with_reducible first | exact HB.out | apply below_alloc | apply pw_below_drewN | apply below_drew1) | exact HB.out)))); (case aL => have := LMc18.out; omega); intro v215 w20 ho hb hg hat; rw [← Ny214.out] at ho; have n0_ := Aside0.mk (hb); have n1_ := Aside0.mk (ho); clear HB; clear HO_6; have HB := n0_; have HO216 := n1_; clear n0_ n1_; clear ho hb hg hat))
         go_roundg k1
         case measure => have := HK1.out; omega
         case rel => exact ⟨((rd_T49 l0 x5_1).f5), (y214), (by first | rfl | (simp; done) | (simp [*]; done)), H', ⟨by have := HK1.out; omega⟩, ⟨by (with_reducible repeat (first | apply Kd.R_alloc | apply Kd.R_drewN | apply Kd.R_drew)); exact HO216.out⟩, ⟨by repeat (first | (with_reducible first | exact HB.out | apply below_alloc | apply pw_below_drewN | apply below_drew1) | exact HB.out)⟩⟩
        ·
         rw [if_neg c18] at H
         exact absurd H (by simp)
    ·
     rw [if_neg c6] at H
     exact absurd H (by simp)
   ·
    rw [if_neg c5] at H
    exact absurd H (by simp)
end Go.Proofs.Ytmmjkebboonnkaa.P
/- F27 -/
namespace Go.Proofs.Ytmmjkebboonnkaa.P
open Go.RowKit Go.Proofs.YtmmjkebboonnkaaW.PrintWords Go.Proofs.YtmmjkebboonnkaaW.PrintLast Go.Proofs.YtmmjkebboonnkaaW.PrintMore
attribute [local go_sem] max2_int min2_int max_two min_two max_three min_three max_four min_four   -- for this text's walks alone
set_option linter.unusedVariables false
set_option linter.unusedSimpArgs false
def larchlaw17_copied.f (l0 : List (S49)) : Option ((List (S49))) := (some (([] : List (S49)) : List (S49))).bind fun y276 => (if y276.length + l0.length < 2932031007402 then (some (y276 ++ l0)) else (none))
set_option maxHeartbeats 8000000 in
set_option maxRecDepth 100000 in
theorem larchlaw17_copied.calls (A0 : Option Addr) (c0 : Nat) (l0 : List (S49)) (r : List (S49)) (w : World) (hr0 : Kd.C k49 w A0 l0.length l0) (hc0 : l0.length ≤ c0) (h : larchlaw17_copied.f l0 = some r) :
  Calls Try.prog 10 #[.slice A0 l0.length c0] w fun e w' => ∃ v0_ : Value, e = .returned (v0_) ∧ Kd.R k49 49 w' w.heap.size (fun _ => True) v0_ r ∧ Below w.heap.size w w' := by
 have HR0 := Aside0.mk hr0
 have HC0 := Aside0.mk hc0
 clear hr0 hc0
 have HB := Aside0.mk (Below.refl w.heap.size w)
 have H : ((some (([] : List (S49)) : List (S49))).bind fun y276 => (if y276.length + l0.length < 2932031007402 then (some (y276 ++ l0)) else (none))) = some r := h
 clear h
 obtain ⟨y276, hy276⟩ : ∃ y_ : List (S49), y_ = (([] : List (S49))) := ⟨_, rfl⟩
 replace H : (if y276.length + l0.length < 2932031007402 then (some (y276 ++ l0)) else (none)) = some r := by first | (rw [hy276]; with_reducible exact H) | (have H2_ := (Option.bind_some _ _).symm.trans H; rw [hy276]; with_reducible exact H2_) | (have H2_ := (Option.bind_some _ _).symm.trans H; with_reducible exact H2_) | with_reducible exact H | (rw [hy276]; exact H) | exact H
 have Ny276 := Aside0.mk hy276
 clear hy276
 by_cases c2 : y276.length + l0.length < 2932031007402
 ·
  rw [if_pos c2] at H
  have LMc2 := Aside0.mk c2
  clear c2
  obtain ⟨y279, hy279⟩ : ∃ y_ : List (S49), y_ = (y276 ++ l0) := ⟨_, rfl⟩
  replace H : (some y279) = some r := by first | (rw [hy279]; with_reducible exact H) | (have H2_ := (Option.bind_some _ _).symm.trans H; rw [hy279]; with_reducible exact H2_) | (have H2_ := (Option.bind_some _ _).symm.trans H; with_reducible exact H2_) | with_reducible exact H | (rw [hy279]; exact H) | exact H
  have Ny279 := Aside0.mk hy279
  clear hy279
  obtain rfl := Option.some.inj H
  go_enter Try.func10, Try.ntmps10
  go_wp2_with (first | ((with_reducible refine gate_dst (N := 3) rfl ?_); refine Kd.R_lit k49 _ 49 ?hg (N := 3) ?hd (xs := ([] : List (S49))) (inner := []) (ok := fun _ => True) (okp := fun _ => True) ?hr ?hp (fun _ hk => hk) trivial (Below.refl _ _) (Nat.le_refl _) (by simp) ?_; (case hd => rfl); (case hg => rfl); (case hr => first | (go_simp; done) | (go_simp; rfl)); (case hp => exact (Reps.none _ _)); intro v277 w3 ho4 hb hg_ hnew_; clear hg_ hnew_; (first | rw [← Ny276.out] at ho4 | (simp only [Int.reduceToNat] at ho4; rw [← Ny276.out] at ho4)); have n0_ := Aside0.mk (Kd.R_lower ho4 (below_size (by repeat (first | (with_reducible first | exact HB.out | apply below_alloc | apply pw_below_drewN | apply below_drew1) | exact HB.out)))); have n1_ := Aside0.mk (below_step (by repeat (first | (with_reducible first | exact HB.out | apply below_alloc | apply pw_below_drewN | apply below_drew1) | exact HB.out)) hb); clear HB; have HO278 := n0_; have HB := n1_; clear n0_ n1_; clear hb ho4) | ((with_reducible refine gate_builtin (b := .append) (xs := #[.tmp 3, .tmp 4]) rfl ?_); at_builtin; refine Kd.R_append_rows k49 (w0 := w) w.heap.size rfl (.tmp 3) (.tmp 4) 22 49 (.agg #[(.int .i64 0), (.int .i64 0), (.int .i64 0), (.int .i64 0), (.int .i64 0), (.int .i64 0)]) 48 rfl Try.underlying22 info49 rfl (by decide) (by omega) v277 y276 l0 _ _ _ (fun _ => True) (fun _ => False) rfl rfl ?aO ?aR (fun _ _ h => h) (fun _ h => h.elim) ?aF ?aB ?aS ?aL ?_; (case aR => repeat (first | exact (Kd.C_below HR0.out HB.out) | (with_reducible refine Kd.C_alloc ?_ _) | (with_reducible refine Kd.C_drewN ?_ _) | (with_reducible refine Kd.C_drew ?_))); (case aB => exact (by repeat (first | (with_reducible first | exact HB.out | apply below_alloc | apply pw_below_drewN | apply below_drew1) | exact HB.out))); (case aF => exact (fun _ _ => trivial)); (case aO => exact (by (with_reducible repeat (first | apply Kd.R_alloc | apply Kd.R_drewN | apply Kd.R_drew)); exact HO278.out)); (case aS => exact (below_size (by repeat (first | (with_reducible first | exact HB.out | apply below_alloc | apply pw_below_drewN | apply below_drew1) | exact HB.out)))); (case aL => have := LMc2.out; omega); intro v280 w5 ho hb hg hat; rw [← Ny279.out] at ho; have n0_ := Aside0.mk (hb); have n1_ := Aside0.mk (ho); clear HB; clear HO278; have HB := n0_; have HO281 := n1_; clear n0_ n1_; clear ho hb hg hat))
  go_ret
  exact ⟨_, by first | rfl | (simp [errW_none, errW_some] <;> rfl) | (simp [*, errW_none, errW_some] <;> rfl), by (with_reducible repeat (first | apply Kd.R_alloc | apply Kd.R_drewN | apply Kd.R_drew)); exact HO281.out, by repeat (first | (with_reducible first | exact HB.out | apply below_alloc | apply pw_below_drewN | apply below_drew1) | exact HB.out)⟩
 ·
  rw [if_neg c2] at H
  exact absurd H (by simp)
end Go.Proofs.Ytmmjkebboonnkaa.P
/- F44 -/
namespace Go.Proofs.Ytmmjkebboonnkaa.P
open Go.RowKit Go.Proofs.YtmmjkebboonnkaaW.PrintWords Go.Proofs.YtmmjkebboonnkaaW.PrintLast Go.Proofs.YtmmjkebboonnkaaW.PrintMore
attribute [local go_sem] max2_int min2_int max_two min_two max_three min_three max_four min_four   -- for this text's walks alone
set_option linter.unusedVariables false
set_option linter.unusedSimpArgs false
def larchlaw17_ints.f (l0 : List Int) : Option (List Int) := (some (([] : List Int) : List Int)).bind fun y511 => (if y511.length + l0.length < 17592186044416 then (some (y511 ++ l0)) else (none))
set_option maxHeartbeats 8000000 in
set_option maxRecDepth 100000 in
theorem larchlaw17_ints.calls (A0 : Option Addr) (c0 : Nat) (l0 : List Int) (r : List Int) (w : World) (hr0 : Kd.C (Kd.int .i64) w A0 l0.length l0) (hc0 : l0.length ≤ c0) (h : larchlaw17_ints.f l0 = some r) :
  Calls Try.prog 22 #[.slice A0 l0.length c0] w fun e w' => ∃ v0_ : Value, e = .returned (v0_) ∧ Kd.R (Kd.int .i64) 3 w' w.heap.size (fun _ => True) v0_ r ∧ Below w.heap.size w w' := by
 have HR0 := Aside0.mk hr0
 have HC0 := Aside0.mk hc0
 clear hr0 hc0
 have HB := Aside0.mk (Below.refl w.heap.size w)
 have H : ((some (([] : List Int) : List Int)).bind fun y511 => (if y511.length + l0.length < 17592186044416 then (some (y511 ++ l0)) else (none))) = some r := h
 clear h
 obtain ⟨y511, hy511⟩ : ∃ y_ : List Int, y_ = (([] : List Int)) := ⟨_, rfl⟩
 replace H : (if y511.length + l0.length < 17592186044416 then (some (y511 ++ l0)) else (none)) = some r := by first | (rw [hy511]; with_reducible exact H) | (have H2_ := (Option.bind_some _ _).symm.trans H; rw [hy511]; with_reducible exact H2_) | (have H2_ := (Option.bind_some _ _).symm.trans H; with_reducible exact H2_) | with_reducible exact H | (rw [hy511]; exact H) | exact H
 have Ny511 := Aside0.mk hy511
 clear hy511
 by_cases c2 : y511.length + l0.length < 17592186044416
 ·
  rw [if_pos c2] at H
  have LMc2 := Aside0.mk c2
  clear c2
  obtain ⟨y514, hy514⟩ : ∃ y_ : List Int, y_ = (y511 ++ l0) := ⟨_, rfl⟩
  replace H : (some y514) = some r := by first | (rw [hy514]; with_reducible exact H) | (have H2_ := (Option.bind_some _ _).symm.trans H; rw [hy514]; with_reducible exact H2_) | (have H2_ := (Option.bind_some _ _).symm.trans H; with_reducible exact H2_) | with_reducible exact H | (rw [hy514]; exact H) | exact H
  have Ny514 := Aside0.mk hy514
  clear hy514
  obtain rfl := Option.some.inj H
  go_enter Try.func22, Try.ntmps22
  go_wp2_with (first | ((with_reducible refine gate_dst (N := 3) rfl ?_); refine Kd.R_lit (Kd.int .i64) _ 3 ?hg (N := 3) ?hd (xs := ([] : List Int)) (inner := []) (ok := fun _ => True) (okp := fun _ => True) ?hr ?hp (fun _ hk => hk) trivial (Below.refl _ _) (Nat.le_refl _) (by simp) ?_; (case hd => rfl); (case hg => rfl); (case hr => first | (go_simp; done) | (go_simp; rfl)); (case hp => exact (Reps.none _ _)); intro v512 w3 ho4 hb hg_ hnew_; clear hg_ hnew_; (first | rw [← Ny511.out] at ho4 | (simp only [Int.reduceToNat] at ho4; rw [← Ny511.out] at ho4)); have n0_ := Aside0.mk (Kd.R_lower ho4 (below_size (by repeat (first | (with_reducible first | exact HB.out | apply below_alloc | apply pw_below_drewN | apply below_drew1) | exact HB.out)))); have n1_ := Aside0.mk (below_step (by repeat (first | (with_reducible first | exact HB.out | apply below_alloc | apply pw_below_drewN | apply below_drew1) | exact HB.out)) hb); clear HB; have HO513 := n0_; have HB := n1_; clear n0_ n1_; clear hb ho4) | ((with_reducible refine gate_builtin (b := .append) (xs := #[.tmp 3, .tmp 4]) rfl ?_); at_builtin; refine Kd.R_append_rows (Kd.int .i64) (w0 := w) w.heap.size rfl (.tmp 3) (.tmp 4) 23 3 (.int .i64 0) 8 rfl Try.underlying23 info3 rfl (by decide) (by omega) v512 y511 l0 _ _ _ (fun _ => True) (fun _ => False) rfl rfl ?aO ?aR (fun _ _ h => h) (fun _ h => h.elim) ?aF ?aB ?aS ?aL ?_; (case aR => repeat (first | exact (Kd.C_below HR0.out HB.out) | (with_reducible refine Kd.C_alloc ?_ _) | (with_reducible refine Kd.C_drewN ?_ _) | (with_reducible refine Kd.C_drew ?_))); (case aB => exact (by repeat (first | (with_reducible first | exact HB.out | apply below_alloc | apply pw_below_drewN | apply below_drew1) | exact HB.out))); (case aF => exact (fun _ _ => trivial)); (case aO => exact (by (with_reducible repeat (first | apply Kd.R_alloc | apply Kd.R_drewN | apply Kd.R_drew)); exact HO513.out)); (case aS => exact (below_size (by repeat (first | (with_reducible first | exact HB.out | apply below_alloc | apply pw_below_drewN | apply below_drew1) | exact HB.out)))); (case aL => have := LMc2.out; omega); intro v515 w5 ho hb hg hat; rw [← Ny514.out] at ho; have n0_ := Aside0.mk (hb); have n1_ := Aside0.mk (ho); clear HB; clear HO513; have HB := n0_; have HO516 := n1_; clear n0_ n1_; clear ho hb hg hat))
  go_ret
  exact ⟨_, by first | rfl | (simp [errW_none, errW_some] <;> rfl) | (simp [*, errW_none, errW_some] <;> rfl), by (with_reducible repeat (first | apply Kd.R_alloc | apply Kd.R_drewN | apply Kd.R_drew)); exact HO516.out, by repeat (first | (with_reducible first | exact HB.out | apply below_alloc | apply pw_below_drewN | apply below_drew1) | exact HB.out)⟩
 ·
  rw [if_neg c2] at H
  exact absurd H (by simp)
end Go.Proofs.Ytmmjkebboonnkaa.P
/- F48 -/
namespace Go.Proofs.Ytmmjkebboonnkaa.P
open Go.RowKit Go.Proofs.YtmmjkebboonnkaaW.PrintWords Go.Proofs.YtmmjkebboonnkaaW.PrintLast Go.Proofs.YtmmjkebboonnkaaW.PrintMore
attribute [local go_sem] max2_int min2_int max_two min_two max_three min_three max_four min_four   -- for this text's walks alone
set_option linter.unusedVariables false
set_option linter.unusedSimpArgs false
attribute [local go_sem high] eqA49
def larchref17_Same.l0 : Nat → List (S49) → List (S49) → Int → Option (Bool)
 | 0, _, _, _ => none
 | k + 1, x0, x1, x5 => if x5 < (x0.length : Int) then (if 0 ≤ x5 then (if x5 < (x1.length : Int) then (if (!(((rd_T49 x0 x5).f0) == ((rd_T49 x1 x5).f0)) || (!(((rd_T49 x0 x5).f1) == ((rd_T49 x1 x5).f1)) || (!(((rd_T49 x0 x5).f2) == ((rd_T49 x1 x5).f2)) || (!(((rd_T49 x0 x5).f3) == ((rd_T49 x1 x5).f3)) || (!(((rd_T49 x0 x5).f4) == ((rd_T49 x1 x5).f4)) || (!(((rd_T49 x0 x5).f5) == ((rd_T49 x1 x5).f5)))))))) = true then (some false) else (larchref17_Same.l0 k x0 x1 (wrap64 (x5 + 1)))) else (none)) else (none)) else (some true)
def larchref17_Same.f (k : Nat) (l0 : List (S49)) (l1 : List (S49)) : Option (Bool) := if (l0.length : Int) = (l1.length : Int) then (larchref17_Same.l0 k l0 l1 0) else (some false)
theorem larchref17_Same.mono_l : ∀ k, (∀ y0 y1 y2, LeO (larchref17_Same.l0 k y0 y1 y2) (larchref17_Same.l0 (k + 1) y0 y1 y2))
 | 0 => fun _ _ _ r h => by simp [larchref17_Same.l0] at h
 | k + 1 => by
  have ih0 := larchref17_Same.mono_l k
  ·
   intro y0 y1 y2
   unfold larchref17_Same.l0
   repeat' first
   | (with_reducible exact ih0 _ _ _)
   | (with_reducible exact LeO.refl _)
   | (with_reducible exact LeO.none _)
   | (with_reducible refine LeO.ite ?_ ?_)
   | (with_reducible refine LeO.bind ?_ (fun _ => ?_))
   | exact ih0 _ _ _
   | exact LeO.none _
   | refine LeO.ite ?_ ?_
   | refine LeO.bind ?_ (fun _ => ?_)
theorem larchref17_Same.mono : ∀ a0 a1 k, LeO (larchref17_Same.f k a0 a1) (larchref17_Same.f (k + 1) a0 a1) := by
 intro a0 a1 k
 have ih0 := larchref17_Same.mono_l k
 unfold larchref17_Same.f
 repeat' first
   | (with_reducible exact ih0 _ _ _)
   | (with_reducible exact LeO.refl _)
   | (with_reducible exact LeO.none _)
   | (with_reducible refine LeO.ite ?_ ?_)
   | (with_reducible refine LeO.bind ?_ (fun _ => ?_))
   | exact ih0 _ _ _
   | exact LeO.none _
   | refine LeO.ite ?_ ?_
   | refine LeO.bind ?_ (fun _ => ?_)
set_option maxHeartbeats 8000000 in
set_option maxRecDepth 100000 in
theorem larchref17_Same.calls (k : Nat) (A0 : Option Addr) (c0 : Nat) (l0 : List (S49)) (A1 : Option Addr) (c1 : Nat) (l1 : List (S49)) (r : Bool) (w : World) (hr0 : Kd.C k49 w A0 l0.length l0) (hc0 : l0.length ≤ c0) (hr1 : Kd.C k49 w A1 l1.length l1) (hc1 : l1.length ≤ c1) (h : larchref17_Same.f k l0 l1 = some r) :
  Calls Try.prog 24 #[.slice A0 l0.length c0, .slice A1 l1.length c1] w fun e w' => e = .returned (.bool r) ∧ Drawn0 w w' := by
 have hu49 := Try.underlying49
 have HR0 := Aside0.mk hr0
 have HC0 := Aside0.mk hc0
 clear hr0 hc0
 have HR1 := Aside0.mk hr1
 have HC1 := Aside0.mk hc1
 clear hr1 hc1
 have H : (if (l0.length : Int) = (l1.length : Int) then (larchref17_Same.l0 k l0 l1 0) else (some false)) = some r := h
 clear h
 by_cases c3 : (l0.length : Int) = (l1.length : Int)
 ·
  rw [if_pos c3] at H
  have c3b0 : ((l0.length : Int) == (l1.length : Int)) = true := beq_iff_eq.mpr c3
  have c3b1 : ((l0.length : Int) != (l1.length : Int)) = false := bne_eq_false_iff_eq.mpr c3
  have c3b2 : (l0.length == l1.length) = true := by first | simpa using c3 | (simp at c3 ⊢; omega)
  clear c3
  have H' := Aside0.mk H
  clear H
  go_enter Try.func24, Try.ntmps24
  go_wp2
  repeat (go_quiet (fail); try go_wp2)
  go_loopg [5] k (fun kq v5 w' => ∃ (x5_1 : Int), v5 = .int .i64 x5_1 ∧ Aside0 (larchref17_Same.l0 kq l0 l1 x5_1 = some r) ∧ Aside0 (kq ≤ k) ∧ Drawn0 w w')
  case atStart => exact ⟨(0), (by first | rfl | (simp; done) | (simp [*]; done)), H', ⟨Nat.le_refl _⟩, by repeat (first | exact Drawn0.refl _ | apply Drawn0.step)⟩
  case round =>
   clear H'
   try clear c1
   try clear c2
   try clear p2
   try clear c3
   try clear c3b0
   try clear c3b1
   try clear c3b2
   obtain ⟨x5_1, rfl, HA, HK1, ⟨m1, rfl⟩⟩ := hrel
   cases gk with
   | zero => exact absurd HA.out (by simp [larchref17_Same.l0])
   | succ k1 =>
    have H := HA.out
    clear HA
    simp only [larchref17_Same.l0] at H
    by_cases c4 : x5_1 < (l0.length : Int)
    ·
     rw [if_pos c4] at H
     have c4b0 : decide (x5_1 < (l0.length : Int)) = true := decide_eq_true c4
     clear c4
     by_cases c5 : 0 ≤ x5_1
     ·
      rw [if_pos c5] at H
      have c5b0 : decide (0 ≤ x5_1) = true := decide_eq_true c5
      clear c5
      by_cases c6 : x5_1 < (l1.length : Int)
      ·
       rw [if_pos c6] at H
       have c6b0 : decide (x5_1 < (l1.length : Int)) = true := decide_eq_true c6
       clear c6
       by_cases c7 : (!(((rd_T49 l0 x5_1).f0) == ((rd_T49 l1 x5_1).f0)) || (!(((rd_T49 l0 x5_1).f1) == ((rd_T49 l1 x5_1).f1)) || (!(((rd_T49 l0 x5_1).f2) == ((rd_T49 l1 x5_1).f2)) || (!(((rd_T49 l0 x5_1).f3) == ((rd_T49 l1 x5_1).f3)) || (!(((rd_T49 l0 x5_1).f4) == ((rd_T49 l1 x5_1).f4)) || (!(((rd_T49 l0 x5_1).f5) == ((rd_T49 l1 x5_1).f5)))))))) = true
       ·
        rw [if_pos c7] at H
        have c7b0 : (!(((rd_T49 l0 x5_1).f0) == ((rd_T49 l1 x5_1).f0)) || (!(((rd_T49 l0 x5_1).f1) == ((rd_T49 l1 x5_1).f1)) || (!(((rd_T49 l0 x5_1).f2) == ((rd_T49 l1 x5_1).f2)) || (!(((rd_T49 l0 x5_1).f3) == ((rd_T49 l1 x5_1).f3)) || (!(((rd_T49 l0 x5_1).f4) == ((rd_T49 l1 x5_1).f4)) || (!(((rd_T49 l0 x5_1).f5) == ((rd_T49 l1 x5_1).f5)))))))) = true := c7
        clear c7
        obtain rfl := Option.some.inj H
        have p538 : 0 ≤ (x5_1 : Int) := of_decide_eq_true (by first | (with_reducible assumption) | assumption)
        have q538 : x5_1 < (l0.length : Int) := of_decide_eq_true (by first | (with_reducible assumption) | assumption)
        obtain ⟨ad538, e538, hx538_0, hx538_1, hx538_2, hx538_3, hx538_4, hx538_5⟩ := at_T49 HR0.out x5_1 p538 q538
        cases e538
        replace p538 := eq_true p538
        replace q538 := eq_true q538
        have p539 : 0 ≤ (x5_1 : Int) := of_decide_eq_true (by first | (with_reducible assumption) | assumption)
        have q539 : x5_1 < (l1.length : Int) := of_decide_eq_true (by first | (with_reducible assumption) | assumption)
        obtain ⟨ad539, e539, hx539_0, hx539_1, hx539_2, hx539_3, hx539_4, hx539_5⟩ := at_T49 HR1.out x5_1 p539 q539
        cases e539
        replace p539 := eq_true p539
        replace q539 := eq_true q539
        go_wp2
        repeat (go_quiet (fail); try go_wp2)
        go_ret
        exact ⟨by first | rfl | (simp; done) | (simp [*]; done), by repeat (first | exact Drawn0.refl _ | apply Drawn0.step)⟩
       ·
        rw [if_neg c7] at H
        have c7b0 : (!(((rd_T49 l0 x5_1).f0) == ((rd_T49 l1 x5_1).f0)) || (!(((rd_T49 l0 x5_1).f1) == ((rd_T49 l1 x5_1).f1)) || (!(((rd_T49 l0 x5_1).f2) == ((rd_T49 l1 x5_1).f2)) || (!(((rd_T49 l0 x5_1).f3) == ((rd_T49 l1 x5_1).f3)) || (!(((rd_T49 l0 x5_1).f4) == ((rd_T49 l1 x5_1).f4)) || (!(((rd_T49 l0 x5_1).f5) == ((rd_T49 l1 x5_1).f5)))))))) = false := by simpa using c7
        clear c7
        have H' := Aside0.mk H
        clear H
        have p538 : 0 ≤ (x5_1 : Int) := of_decide_eq_true (by first | (with_reducible assumption) | assumption)
        have q538 : x5_1 < (l0.length : Int) := of_decide_eq_true (by first | (with_reducible assumption) | assumption)
        obtain ⟨ad538, e538, hx538_0, hx538_1, hx538_2, hx538_3, hx538_4, hx538_5⟩ := at_T49 HR0.out x5_1 p538 q538
        cases e538
        replace p538 := eq_true p538
        replace q538 := eq_true q538
        have p539 : 0 ≤ (x5_1 : Int) := of_decide_eq_true (by first | (with_reducible assumption) | assumption)
        have q539 : x5_1 < (l1.length : Int) := of_decide_eq_true (by first | (with_reducible assumption) | assumption)
        obtain ⟨ad539, e539, hx539_0, hx539_1, hx539_2, hx539_3, hx539_4, hx539_5⟩ := at_T49 HR1.out x5_1 p539 q539
        cases e539
        replace p539 := eq_true p539
        replace q539 := eq_true q539
        go_wp2
        repeat (go_quiet (fail); try go_wp2)
        go_roundg k1
        case measure => have := HK1.out; omega
        case rel => exact ⟨(wrap64 (x5_1 + 1)), (by first | rfl | (simp; done) | (simp [*]; done)), H', ⟨by have := HK1.out; omega⟩, by repeat (first | exact Drawn0.refl _ | apply Drawn0.step)⟩
      ·
       rw [if_neg c6] at H
       exact absurd H (by simp)
     ·
      rw [if_neg c5] at H
      exact absurd H (by simp)
    ·
     rw [if_neg c4] at H
     have c4b0 : decide (x5_1 < (l0.length : Int)) = false := decide_eq_false c4
     clear c4
     obtain rfl := Option.some.inj H
     go_wp2
     repeat (go_quiet (fail); try go_wp2)
     go_ret
     exact ⟨by first | rfl | (simp; done) | (simp [*]; done), by repeat (first | exact Drawn0.refl _ | apply Drawn0.step)⟩
 ·
  rw [if_neg c3] at H
  have c3b0 : ((l0.length : Int) == (l1.length : Int)) = false := beq_eq_false_iff_ne.mpr c3
  have c3b1 : ((l0.length : Int) != (l1.length : Int)) = true := bne_iff_ne.mpr c3
  have c3b2 : (l0.length == l1.length) = false := by first | simpa using c3 | (simp at c3 ⊢; omega)
  obtain rfl := Option.some.inj H
  go_enter Try.func24, Try.ntmps24
  go_wp2
  repeat (go_quiet (fail); try go_wp2)
  go_ret
  exact ⟨by first | rfl | (simp; done) | (simp [*]; done), by repeat (first | exact Drawn0.refl _ | apply Drawn0.step)⟩
end Go.Proofs.Ytmmjkebboonnkaa.P
