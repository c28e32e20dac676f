/- P.weighSums_holds, part 4 of 24: the contracts of the Go functions that the law calls, its own walk, and its plain law, for every input that the statement speaks of. -/
import Derived.Test.YtmmjkebboonnkaaMSums2
import Derived.Test.YtmmjkebboonnkaaMSums1
set_option linter.unusedVariables false
set_option linter.unusedSimpArgs false
/- F31 -/
namespace Go.Proofs.Ytmmjkebboonnkaa.P
open Go.RowKit Go.Proofs.YtmmjkebboonnkaaW.PrintWords Go.Proofs.YtmmjkebboonnkaaW.PrintLast Go.Proofs.YtmmjkebboonnkaaW.PrintMore
attribute [local go_sem] max2_int min2_int max_two min_two max_three min_three max_four min_four   -- for this text's walks alone
set_option linter.unusedVariables false
set_option linter.unusedSimpArgs false
mutual
def larchref17_Root.j0 : Nat → List (S49) → Bool → Int → Int → Int → Int → Int → Int → Option (Int × Bool)
 | 0, _, _, _, _, _, _, _, _ => none
 | k + 1, x0, x31, x307000, x307001, x307002, x307003, x307004, x307005 => if x31 = true then (some ((-1), false)) else (if 0 ≤ x307004 then (if x307004 < (x0.length : Int) then ((larchref17_sentinel.f ((J49 x0 x307004).f0) ((J49 x0 x307004).f1) ((J49 x0 x307004).f2) ((J49 x0 x307004).f3) ((J49 x0 x307004).f4) ((J49 x0 x307004).f5)).bind fun t311 => (if t311 = true then (some ((-1), true)) else ((larchref17_leaf.f ((J49 x0 x307004).f0) ((J49 x0 x307004).f1) ((J49 x0 x307004).f2) ((J49 x0 x307004).f3) ((J49 x0 x307004).f4) ((J49 x0 x307004).f5)).bind fun t314 => (if t314 = true then (larchref17_Root.j1 k x0 true ((J49 x0 x307004).f0) ((J49 x0 x307004).f1) ((J49 x0 x307004).f2) ((J49 x0 x307004).f3) ((J49 x0 x307004).f4) ((J49 x0 x307004).f5)) else (if ((J49 x0 x307004).f1) = 1 then (if ((J49 x0 x307004).f2) = 1 then (if 0 ≤ ((J49 x0 x307004).f5) then (if ((J49 x0 x307004).f5) < (x0.length : Int) then ((larchref17_sentinel.f ((J49 x0 ((J49 x0 x307004).f5)).f0) ((J49 x0 ((J49 x0 x307004).f5)).f1) ((J49 x0 ((J49 x0 x307004).f5)).f2) ((J49 x0 ((J49 x0 x307004).f5)).f3) ((J49 x0 ((J49 x0 x307004).f5)).f4) ((J49 x0 ((J49 x0 x307004).f5)).f5)).bind fun t316 => (larchref17_Root.j1 k x0 (!t316) ((J49 x0 x307004).f0) ((J49 x0 x307004).f1) ((J49 x0 x307004).f2) ((J49 x0 x307004).f3) ((J49 x0 x307004).f4) ((J49 x0 x307004).f5))) else (none)) else (none)) else (larchref17_Root.j1 k x0 true ((J49 x0 x307004).f0) ((J49 x0 x307004).f1) ((J49 x0 x307004).f2) ((J49 x0 x307004).f3) ((J49 x0 x307004).f4) ((J49 x0 x307004).f5))) else (larchref17_Root.j1 k x0 true ((J49 x0 x307004).f0) ((J49 x0 x307004).f1) ((J49 x0 x307004).f2) ((J49 x0 x307004).f3) ((J49 x0 x307004).f4) ((J49 x0 x307004).f5))))))) else (none)) else (none))
def larchref17_Root.j1 : Nat → List (S49) → Bool → Int → Int → Int → Int → Int → Int → Option (Int × Bool)
 | 0, _, _, _, _, _, _, _, _ => none
 | k + 1, x0, x63, x314000, x314001, x314002, x314003, x314004, x314005 => if x63 = true then (some ((-1), false)) else ((larchref17_Order.f k x0 x314004).bind fun t317 => (larchref17_Root.l0 k x0 t317 0 x314000 x314001 x314002 x314003 x314004 x314005))
def larchref17_Root.l0 : Nat → List (S49) → List Int → Int → Int → Int → Int → Int → Int → Int → Option (Int × Bool)
 | 0, _, _, _, _, _, _, _, _, _ => none
 | k + 1, x0, x6, x7, x314000, x314001, x314002, x314003, x314004, x314005 => if x7 < (x6.length : Int) then (if 0 ≤ x7 then (if 0 ≤ (rd x6 x7) then (if (rd x6 x7) < (x0.length : Int) then (if ((J49 x0 (rd x6 x7)).f1) = 0 then (larchref17_Root.l0 k x0 x6 (wrap64 (x7 + 1)) x314000 x314001 x314002 x314003 x314004 x314005) else (some ((-1), false))) else (none)) else (none)) else (none)) else (some (x314004, true))
end
def larchref17_Root.f (k : Nat) (l0 : List (S49)) : Option (Int × Bool) := if 0 < (l0.length : Int) then ((larchref17_leaf.f ((J49 l0 0).f0) ((J49 l0 0).f1) ((J49 l0 0).f2) ((J49 l0 0).f3) ((J49 l0 0).f4) ((J49 l0 0).f5)).bind fun t307 => (if t307 = true then (larchref17_Root.j0 k l0 true ((J49 l0 0).f0) ((J49 l0 0).f1) ((J49 l0 0).f2) ((J49 l0 0).f3) ((J49 l0 0).f4) ((J49 l0 0).f5)) else (if ((J49 l0 0).f1) = 1 then (if ((J49 l0 0).f2) = 1 then (if 0 ≤ ((J49 l0 0).f5) then (if ((J49 l0 0).f5) < (l0.length : Int) then ((larchref17_sentinel.f ((J49 l0 ((J49 l0 0).f5)).f0) ((J49 l0 ((J49 l0 0).f5)).f1) ((J49 l0 ((J49 l0 0).f5)).f2) ((J49 l0 ((J49 l0 0).f5)).f3) ((J49 l0 ((J49 l0 0).f5)).f4) ((J49 l0 ((J49 l0 0).f5)).f5)).bind fun t309 => (larchref17_Root.j0 k l0 (!t309) ((J49 l0 0).f0) ((J49 l0 0).f1) ((J49 l0 0).f2) ((J49 l0 0).f3) ((J49 l0 0).f4) ((J49 l0 0).f5))) else (none)) else (none)) else (larchref17_Root.j0 k l0 true ((J49 l0 0).f0) ((J49 l0 0).f1) ((J49 l0 0).f2) ((J49 l0 0).f3) ((J49 l0 0).f4) ((J49 l0 0).f5))) else (larchref17_Root.j0 k l0 true ((J49 l0 0).f0) ((J49 l0 0).f1) ((J49 l0 0).f2) ((J49 l0 0).f3) ((J49 l0 0).f4) ((J49 l0 0).f5))))) else (none)
set_option maxHeartbeats 8000000 in
set_option maxRecDepth 100000 in
theorem larchref17_Root.calls (k : Nat) (A0 : Option Addr) (c0 : Nat) (l0 : List (S49)) (r1 : Int) (r2 : Bool) (w : World) (hr0 : Kd.C k49 w A0 l0.length l0) (hc0 : l0.length ≤ c0) (h : larchref17_Root.f k l0 = some (r1, r2)) :
  Calls Try.prog 26 #[.slice A0 l0.length c0] w fun e w' => e = .returned (.tuple #[.int .i64 r1, .bool r2]) ∧ Below w.heap.size w w' := by
 have hu49 := Try.underlying49
 have HR0 := asd hr0
 have HC0 := asd hc0
 clear hr0 hc0
 have HB := asd (Below.refl w.heap.size w)
 have H : (if 0 < (l0.length : Int) then ((larchref17_leaf.f ((J49 l0 0).f0) ((J49 l0 0).f1) ((J49 l0 0).f2) ((J49 l0 0).f3) ((J49 l0 0).f4) ((J49 l0 0).f5)).bind fun t307 => (if t307 = true then (larchref17_Root.j0 k l0 true ((J49 l0 0).f0) ((J49 l0 0).f1) ((J49 l0 0).f2) ((J49 l0 0).f3) ((J49 l0 0).f4) ((J49 l0 0).f5)) else (if ((J49 l0 0).f1) = 1 then (if ((J49 l0 0).f2) = 1 then (if 0 ≤ ((J49 l0 0).f5) then (if ((J49 l0 0).f5) < (l0.length : Int) then ((larchref17_sentinel.f ((J49 l0 ((J49 l0 0).f5)).f0) ((J49 l0 ((J49 l0 0).f5)).f1) ((J49 l0 ((J49 l0 0).f5)).f2) ((J49 l0 ((J49 l0 0).f5)).f3) ((J49 l0 ((J49 l0 0).f5)).f4) ((J49 l0 ((J49 l0 0).f5)).f5)).bind fun t309 => (larchref17_Root.j0 k l0 (!t309) ((J49 l0 0).f0) ((J49 l0 0).f1) ((J49 l0 0).f2) ((J49 l0 0).f3) ((J49 l0 0).f4) ((J49 l0 0).f5))) else (none)) else (none)) else (larchref17_Root.j0 k l0 true ((J49 l0 0).f0) ((J49 l0 0).f1) ((J49 l0 0).f2) ((J49 l0 0).f3) ((J49 l0 0).f4) ((J49 l0 0).f5))) else (larchref17_Root.j0 k l0 true ((J49 l0 0).f0) ((J49 l0 0).f1) ((J49 l0 0).f2) ((J49 l0 0).f3) ((J49 l0 0).f4) ((J49 l0 0).f5))))) else (none)) = some (r1, r2) := h
 clear h
 by_cases c2 : 0 < (l0.length : Int)
 ·
  rw [if_pos c2] at H
  have c2b0 : decide (0 < (l0.length : Int)) = true := decide_eq_true c2
  have c2b1 : decide (0 < l0.length) = true := decide_eq_true (by omega)
  clear c2
  have HC3 := asd H
  clear H
  have p305 : 0 ≤ (0 : Int) := (by omega)
  have q305 : 0 < (l0.length : Int) := dt
  obtain ⟨ad305, e305, hx305_0, hx305_1, hx305_2, hx305_3, hx305_4, hx305_5⟩ := at_T49 HR0.out 0 p305 q305
  cases e305
  have qi305 : (0 < l0.length) = True := eq_true (by omega)
  (try rw [show ((0 : Int)).toNat = 0 from rfl] at hx305_0)
  (try rw [show 0 * 6 = 0 from rfl] at hx305_0)
  (try rw [Addr.add_zero'] at hx305_0)
  (try rw [show ((0 : Int)).toNat = 0 from rfl] at hx305_1)
  (try rw [show 0 * 6 = 0 from rfl] at hx305_1)
  (try rw [Addr.add_zero'] at hx305_1)
  (try rw [show ((0 : Int)).toNat = 0 from rfl] at hx305_2)
  (try rw [show 0 * 6 = 0 from rfl] at hx305_2)
  (try rw [Addr.add_zero'] at hx305_2)
  (try rw [show ((0 : Int)).toNat = 0 from rfl] at hx305_3)
  (try rw [show 0 * 6 = 0 from rfl] at hx305_3)
  (try rw [Addr.add_zero'] at hx305_3)
  (try rw [show ((0 : Int)).toNat = 0 from rfl] at hx305_4)
  (try rw [show 0 * 6 = 0 from rfl] at hx305_4)
  (try rw [Addr.add_zero'] at hx305_4)
  (try rw [show ((0 : Int)).toNat = 0 from rfl] at hx305_5)
  (try rw [show 0 * 6 = 0 from rfl] at hx305_5)
  (try rw [Addr.add_zero'] at hx305_5)
  replace p305 := eq_true p305
  replace q305 := eq_true q305
  go_enter Try.func26, Try.ntmps26
  go_upto_region 2 with (first | ((with_reducible refine gate_dst (N := 4) rfl ?_); refine box_event ?hg (N := 4) ?hd (cs := #[.int .i64 0, .int .i64 0, .int .i64 0, .int .i64 0, .int .i64 0, .int .i64 0]) (t := 49) ?hr ?_; (case hd => rfl); (case hg => rfl); (case hr => first | (go_simp; done) | (go_simp; rfl)); intro gb306 hg w4 hbox hb; have n0_ := asd (below_step (skB HB.out) hb); have n1_ := asd (hbox); have n2_ := asd ((by rw [hg]; exact (below_size (skB HB.out)) : w.heap.size ≤ gb306)); have n3_ := asd ((by rw [hg]; exact (below_size (skB HB.out)) : w.heap.size ≤ gb306)); clear HB; have HB := n0_; have BK306 := n1_; have GW306 := n2_; have GE306 := n3_; clear n0_ n1_ n2_ n3_; clear hb hbox hg; obtain ⟨hcz5_0, hcz5_1, hcz5_2, hcz5_3, hcz5_4, hcz5_5, hfz5_0, hfz5_1, hfz5_2, hfz5_3, hfz5_4, hfz5_5⟩ := bk6 BK306.out))
  (try simp only [Act.put, List.setIfInBounds_toArray, List.set_cons_zero, List.set_cons_succ])
  go_cut [31] (fun v31 wc => ∃ (kq : Nat) (x31_2 : Bool), v31 = .bool x31_2 ∧ Aside0 (larchref17_Root.j0 kq l0 x31_2 ((J49 l0 0).f0) ((J49 l0 0).f1) ((J49 l0 0).f2) ((J49 l0 0).f3) ((J49 l0 0).f4) ((J49 l0 0).f5) = some (r1, r2)) ∧ Aside0 (kq ≤ k) ∧ Aside0 (wc.heap[gb306]? = some (.cells #[.int .i64 ((J49 l0 0).f0), .int .i64 ((J49 l0 0).f1), .int .i64 ((J49 l0 0).f2), .int .i64 ((J49 l0 0).f3), .int .i64 ((J49 l0 0).f4), .int .i64 ((J49 l0 0).f5)] 49 (0, 0))) ∧ Aside0 (Below w.heap.size w wc))
  case first =>
   have H := HC3.out
   clear HC3
   replace H := Option.bind_eq_some_iff.mp H
   obtain ⟨t307, A60, H⟩ := H
   replace H : (if t307 = true then (larchref17_Root.j0 k l0 true ((J49 l0 0).f0) ((J49 l0 0).f1) ((J49 l0 0).f2) ((J49 l0 0).f3) ((J49 l0 0).f4) ((J49 l0 0).f5)) else (if ((J49 l0 0).f1) = 1 then (if ((J49 l0 0).f2) = 1 then (if 0 ≤ ((J49 l0 0).f5) then (if ((J49 l0 0).f5) < (l0.length : Int) then ((larchref17_sentinel.f ((J49 l0 ((J49 l0 0).f5)).f0) ((J49 l0 ((J49 l0 0).f5)).f1) ((J49 l0 ((J49 l0 0).f5)).f2) ((J49 l0 ((J49 l0 0).f5)).f3) ((J49 l0 ((J49 l0 0).f5)).f4) ((J49 l0 ((J49 l0 0).f5)).f5)).bind fun t309 => (larchref17_Root.j0 k l0 (!t309) ((J49 l0 0).f0) ((J49 l0 0).f1) ((J49 l0 0).f2) ((J49 l0 0).f3) ((J49 l0 0).f4) ((J49 l0 0).f5))) else (none)) else (none)) else (larchref17_Root.j0 k l0 true ((J49 l0 0).f0) ((J49 l0 0).f1) ((J49 l0 0).f2) ((J49 l0 0).f3) ((J49 l0 0).f4) ((J49 l0 0).f5))) else (larchref17_Root.j0 k l0 true ((J49 l0 0).f0) ((J49 l0 0).f1) ((J49 l0 0).f2) ((J49 l0 0).f3) ((J49 l0 0).f4) ((J49 l0 0).f5)))) = some (r1, r2) := H
   have A6 := asd A60
   clear A60
   by_cases c7 : t307 = true
   ·
    subst c7
    have H1 : (larchref17_Root.j0 k l0 true ((J49 l0 0).f0) ((J49 l0 0).f1) ((J49 l0 0).f2) ((J49 l0 0).f3) ((J49 l0 0).f4) ((J49 l0 0).f5)) = some (r1, r2) := by rw [if_pos rfl] at H; exact H
    clear H
    have H := H1
    clear H1
    have H' := asd H
    clear H
    obtain ⟨hcz8_0, hcz8_1, hcz8_2, hcz8_3, hcz8_4, hcz8_5, hfz8_0, hfz8_1, hfz8_2, hfz8_3, hfz8_4, hfz8_5⟩ := bk6 BK306.out
    go_wp2_with (first | ((with_reducible refine gate_callee (f := 53) rfl ?_); refine goesL_ (some 12) rfl rfl Try.func53 (by kernel_rfl) rfl #[.agg #[.int .i64 ((J49 l0 0).f0), .int .i64 ((J49 l0 0).f1), .int .i64 ((J49 l0 0).f2), .int .i64 ((J49 l0 0).f3), .int .i64 ((J49 l0 0).f4), .int .i64 ((J49 l0 0).f5)]] rfl ags ?_; (with_reducible refine (larchref17_leaf.calls ((J49 l0 0).f0) ((J49 l0 0).f1) ((J49 l0 0).f2) ((J49 l0 0).f3) ((J49 l0 0).f4) ((J49 l0 0).f5) true _ A6.out).mono ?_); rintro e w9 ⟨rfl, hb⟩; refine ⟨_, rfl, ?_⟩; have n0_ := asd (blk_below (g := gb306) (o := .cells #[.int .i64 ((J49 l0 0).f0), .int .i64 ((J49 l0 0).f1), .int .i64 ((J49 l0 0).f2), .int .i64 ((J49 l0 0).f3), .int .i64 ((J49 l0 0).f4), .int .i64 ((J49 l0 0).f5)] 49 (0, 0)) (by refine skk ?_; refine blk_put (cs := #[.int .i64 ((J49 l0 0).f0), .int .i64 ((J49 l0 0).f1), .int .i64 ((J49 l0 0).f2), .int .i64 ((J49 l0 0).f3), .int .i64 ((J49 l0 0).f4), .int .i64 0]) ?_ 5 _ rfl; refine skk ?_; refine blk_put (cs := #[.int .i64 ((J49 l0 0).f0), .int .i64 ((J49 l0 0).f1), .int .i64 ((J49 l0 0).f2), .int .i64 ((J49 l0 0).f3), .int .i64 0, .int .i64 0]) ?_ 4 _ rfl; refine skk ?_; refine blk_put (cs := #[.int .i64 ((J49 l0 0).f0), .int .i64 ((J49 l0 0).f1), .int .i64 ((J49 l0 0).f2), .int .i64 0, .int .i64 0, .int .i64 0]) ?_ 3 _ rfl; refine skk ?_; refine blk_put (cs := #[.int .i64 ((J49 l0 0).f0), .int .i64 ((J49 l0 0).f1), .int .i64 0, .int .i64 0, .int .i64 0, .int .i64 0]) ?_ 2 _ rfl; refine skk ?_; refine blk_put (cs := #[.int .i64 ((J49 l0 0).f0), .int .i64 0, .int .i64 0, .int .i64 0, .int .i64 0, .int .i64 0]) ?_ 1 _ rfl; refine skk ?_; refine blk_put (cs := #[.int .i64 0, .int .i64 0, .int .i64 0, .int .i64 0, .int .i64 0, .int .i64 0]) ?_ 0 _ rfl; refine skk ?_; exact BK306.out) hb); have n1_ := asd (below_step (skG HB.out GE306.out GE306.out) hb); clear BK306; clear HB; have BK306 := n0_; have HB := n1_; clear n0_ n1_; (try clear hb); (try clear hb2); (try clear hk); (try clear hi)))
    go_meet
    case rel => exact ⟨_, (true), rs, H', ⟨by first | omega | exact Nat.le_refl _⟩, ⟨skK BK306.out⟩, ⟨skG HB.out GE306.out GE306.out⟩⟩
   ·
    replace c7 := Bool.eq_false_iff.mpr c7
    subst c7
    have H1 : (if ((J49 l0 0).f1) = 1 then (if ((J49 l0 0).f2) = 1 then (if 0 ≤ ((J49 l0 0).f5) then (if ((J49 l0 0).f5) < (l0.length : Int) then ((larchref17_sentinel.f ((J49 l0 ((J49 l0 0).f5)).f0) ((J49 l0 ((J49 l0 0).f5)).f1) ((J49 l0 ((J49 l0 0).f5)).f2) ((J49 l0 ((J49 l0 0).f5)).f3) ((J49 l0 ((J49 l0 0).f5)).f4) ((J49 l0 ((J49 l0 0).f5)).f5)).bind fun t309 => (larchref17_Root.j0 k l0 (!t309) ((J49 l0 0).f0) ((J49 l0 0).f1) ((J49 l0 0).f2) ((J49 l0 0).f3) ((J49 l0 0).f4) ((J49 l0 0).f5))) else (none)) else (none)) else (larchref17_Root.j0 k l0 true ((J49 l0 0).f0) ((J49 l0 0).f1) ((J49 l0 0).f2) ((J49 l0 0).f3) ((J49 l0 0).f4) ((J49 l0 0).f5))) else (larchref17_Root.j0 k l0 true ((J49 l0 0).f0) ((J49 l0 0).f1) ((J49 l0 0).f2) ((J49 l0 0).f3) ((J49 l0 0).f4) ((J49 l0 0).f5))) = some (r1, r2) := by rw [if_neg (show ¬ (false = true) by decide)] at H; exact H
    clear H
    have H := H1
    clear H1
    by_cases c10 : ((J49 l0 0).f1) = 1
    ·
     rw [if_pos c10] at H
     have c10b0 : (((J49 l0 0).f1) == 1) = true := beq_iff_eq.mpr c10
     have c10b1 : (((J49 l0 0).f1) != 1) = false := bne_eq_false_iff_eq.mpr c10
     clear c10
     (first | rw [c10b0] | (simp only [i64_w, i32_w]; rw [c10b0]) | skip)
     by_cases c11 : ((J49 l0 0).f2) = 1
     ·
      rw [if_pos c11] at H
      have c11b0 : (((J49 l0 0).f2) == 1) = true := beq_iff_eq.mpr c11
      have c11b1 : (((J49 l0 0).f2) != 1) = false := bne_eq_false_iff_eq.mpr c11
      clear c11
      by_cases c12 : 0 ≤ ((J49 l0 0).f5)
      ·
       rw [if_pos c12] at H
       have c12b0 : decide (0 ≤ ((J49 l0 0).f5)) = true := decide_eq_true c12
       clear c12
       by_cases c13 : ((J49 l0 0).f5) < (l0.length : Int)
       ·
        rw [if_pos c13] at H
        have c13b0 : decide (((J49 l0 0).f5) < (l0.length : Int)) = true := decide_eq_true c13
        clear c13
        replace H := Option.bind_eq_some_iff.mp H
        obtain ⟨t309, A140, H⟩ := H
        replace H : (larchref17_Root.j0 k l0 (!t309) ((J49 l0 0).f0) ((J49 l0 0).f1) ((J49 l0 0).f2) ((J49 l0 0).f3) ((J49 l0 0).f4) ((J49 l0 0).f5)) = some (r1, r2) := H
        have A14 := asd A140
        clear A140
        have H' := asd H
        clear H
        obtain ⟨hcz15_0, hcz15_1, hcz15_2, hcz15_3, hcz15_4, hcz15_5, hfz15_0, hfz15_1, hfz15_2, hfz15_3, hfz15_4, hfz15_5⟩ := bk6 BK306.out
        go_wp2_with (first | ((with_reducible refine gate_callee (f := 53) rfl ?_); refine goesL_ (some 12) rfl rfl Try.func53 (by kernel_rfl) rfl #[.agg #[.int .i64 ((J49 l0 0).f0), .int .i64 ((J49 l0 0).f1), .int .i64 ((J49 l0 0).f2), .int .i64 ((J49 l0 0).f3), .int .i64 ((J49 l0 0).f4), .int .i64 ((J49 l0 0).f5)]] rfl ags ?_; (with_reducible refine (larchref17_leaf.calls ((J49 l0 0).f0) ((J49 l0 0).f1) ((J49 l0 0).f2) ((J49 l0 0).f3) ((J49 l0 0).f4) ((J49 l0 0).f5) false _ A6.out).mono ?_); rintro e w16 ⟨rfl, hb⟩; refine ⟨_, rfl, ?_⟩; have n0_ := asd (blk_below (g := gb306) (o := .cells #[.int .i64 ((J49 l0 0).f0), .int .i64 ((J49 l0 0).f1), .int .i64 ((J49 l0 0).f2), .int .i64 ((J49 l0 0).f3), .int .i64 ((J49 l0 0).f4), .int .i64 ((J49 l0 0).f5)] 49 (0, 0)) (by refine skk ?_; refine blk_put (cs := #[.int .i64 ((J49 l0 0).f0), .int .i64 ((J49 l0 0).f1), .int .i64 ((J49 l0 0).f2), .int .i64 ((J49 l0 0).f3), .int .i64 ((J49 l0 0).f4), .int .i64 0]) ?_ 5 _ rfl; refine skk ?_; refine blk_put (cs := #[.int .i64 ((J49 l0 0).f0), .int .i64 ((J49 l0 0).f1), .int .i64 ((J49 l0 0).f2), .int .i64 ((J49 l0 0).f3), .int .i64 0, .int .i64 0]) ?_ 4 _ rfl; refine skk ?_; refine blk_put (cs := #[.int .i64 ((J49 l0 0).f0), .int .i64 ((J49 l0 0).f1), .int .i64 ((J49 l0 0).f2), .int .i64 0, .int .i64 0, .int .i64 0]) ?_ 3 _ rfl; refine skk ?_; refine blk_put (cs := #[.int .i64 ((J49 l0 0).f0), .int .i64 ((J49 l0 0).f1), .int .i64 0, .int .i64 0, .int .i64 0, .int .i64 0]) ?_ 2 _ rfl; refine skk ?_; refine blk_put (cs := #[.int .i64 ((J49 l0 0).f0), .int .i64 0, .int .i64 0, .int .i64 0, .int .i64 0, .int .i64 0]) ?_ 1 _ rfl; refine skk ?_; refine blk_put (cs := #[.int .i64 0, .int .i64 0, .int .i64 0, .int .i64 0, .int .i64 0, .int .i64 0]) ?_ 0 _ rfl; refine skk ?_; exact BK306.out) hb); have n1_ := asd (below_step (skG HB.out GE306.out GE306.out) hb); clear BK306; clear HB; have BK306 := n0_; have HB := n1_; clear n0_ n1_; (try clear hb); (try clear hb2); (try clear hk); (try clear hi); obtain ⟨hcz17_0, hcz17_1, hcz17_2, hcz17_3, hcz17_4, hcz17_5, hfz17_0, hfz17_1, hfz17_2, hfz17_3, hfz17_4, hfz17_5⟩ := bk6 BK306.out; have p308 : 0 ≤ (((J49 l0 0).f5) : Int) := dt; have q308 : ((J49 l0 0).f5) < (l0.length : Int) := dt; obtain ⟨ad308, e308, hx308_0, hx308_1, hx308_2, hx308_3, hx308_4, hx308_5⟩ := at_T49 HR0.out ((J49 l0 0).f5) p308 q308; obtain rfl : ad305 = ad308 := (by injection e308); replace hx308_0 := skc HB.out hx308_0; replace hx308_1 := skc HB.out hx308_1; replace hx308_2 := skc HB.out hx308_2; replace hx308_3 := skc HB.out hx308_3; replace hx308_4 := skc HB.out hx308_4; replace hx308_5 := skc HB.out hx308_5; replace p308 := eq_true p308; replace q308 := eq_true q308) | (go_at_call 54; (with_reducible refine (larchref17_sentinel.calls ((J49 l0 ((J49 l0 0).f5)).f0) ((J49 l0 ((J49 l0 0).f5)).f1) ((J49 l0 ((J49 l0 0).f5)).f2) ((J49 l0 ((J49 l0 0).f5)).f3) ((J49 l0 ((J49 l0 0).f5)).f4) ((J49 l0 ((J49 l0 0).f5)).f5) t309 _ A14.out).mono ?_); rintro e w18 ⟨rfl, hb⟩; have n0_ := asd (blk_below (g := gb306) (o := .cells #[.int .i64 ((J49 l0 0).f0), .int .i64 ((J49 l0 0).f1), .int .i64 ((J49 l0 0).f2), .int .i64 ((J49 l0 0).f3), .int .i64 ((J49 l0 0).f4), .int .i64 ((J49 l0 0).f5)] 49 (0, 0)) (skK BK306.out) hb); have n1_ := asd (below_step (skG HB.out GE306.out GE306.out) hb); clear BK306; clear HB; have BK306 := n0_; have HB := n1_; clear n0_ n1_; (try clear hb); (try clear hb2); (try clear hk); (try clear hi)))
        go_meet
        case rel => exact ⟨_, (!t309), rs, H', ⟨by first | omega | exact Nat.le_refl _⟩, ⟨skK BK306.out⟩, ⟨skG HB.out GE306.out GE306.out⟩⟩
       ·
        rw [if_neg c13] at H
        exact absurd H (by simp)
      ·
       rw [if_neg c12] at H
       exact absurd H (by simp)
     ·
      rw [if_neg c11] at H
      have c11b0 : (((J49 l0 0).f2) == 1) = false := beq_eq_false_iff_ne.mpr c11
      have c11b1 : (((J49 l0 0).f2) != 1) = true := bne_iff_ne.mpr c11
      have H' := asd H
      clear H
      obtain ⟨hcz19_0, hcz19_1, hcz19_2, hcz19_3, hcz19_4, hcz19_5, hfz19_0, hfz19_1, hfz19_2, hfz19_3, hfz19_4, hfz19_5⟩ := bk6 BK306.out
      go_wp2_with (first | ((with_reducible refine gate_callee (f := 53) rfl ?_); refine goesL_ (some 12) rfl rfl Try.func53 (by kernel_rfl) rfl #[.agg #[.int .i64 ((J49 l0 0).f0), .int .i64 ((J49 l0 0).f1), .int .i64 ((J49 l0 0).f2), .int .i64 ((J49 l0 0).f3), .int .i64 ((J49 l0 0).f4), .int .i64 ((J49 l0 0).f5)]] rfl ags ?_; (with_reducible refine (larchref17_leaf.calls ((J49 l0 0).f0) ((J49 l0 0).f1) ((J49 l0 0).f2) ((J49 l0 0).f3) ((J49 l0 0).f4) ((J49 l0 0).f5) false _ A6.out).mono ?_); rintro e w20 ⟨rfl, hb⟩; refine ⟨_, rfl, ?_⟩; have n0_ := asd (blk_below (g := gb306) (o := .cells #[.int .i64 ((J49 l0 0).f0), .int .i64 ((J49 l0 0).f1), .int .i64 ((J49 l0 0).f2), .int .i64 ((J49 l0 0).f3), .int .i64 ((J49 l0 0).f4), .int .i64 ((J49 l0 0).f5)] 49 (0, 0)) (by refine skk ?_; refine blk_put (cs := #[.int .i64 ((J49 l0 0).f0), .int .i64 ((J49 l0 0).f1), .int .i64 ((J49 l0 0).f2), .int .i64 ((J49 l0 0).f3), .int .i64 ((J49 l0 0).f4), .int .i64 0]) ?_ 5 _ rfl; refine skk ?_; refine blk_put (cs := #[.int .i64 ((J49 l0 0).f0), .int .i64 ((J49 l0 0).f1), .int .i64 ((J49 l0 0).f2), .int .i64 ((J49 l0 0).f3), .int .i64 0, .int .i64 0]) ?_ 4 _ rfl; refine skk ?_; refine blk_put (cs := #[.int .i64 ((J49 l0 0).f0), .int .i64 ((J49 l0 0).f1), .int .i64 ((J49 l0 0).f2), .int .i64 0, .int .i64 0, .int .i64 0]) ?_ 3 _ rfl; refine skk ?_; refine blk_put (cs := #[.int .i64 ((J49 l0 0).f0), .int .i64 ((J49 l0 0).f1), .int .i64 0, .int .i64 0, .int .i64 0, .int .i64 0]) ?_ 2 _ rfl; refine skk ?_; refine blk_put (cs := #[.int .i64 ((J49 l0 0).f0), .int .i64 0, .int .i64 0, .int .i64 0, .int .i64 0, .int .i64 0]) ?_ 1 _ rfl; refine skk ?_; refine blk_put (cs := #[.int .i64 0, .int .i64 0, .int .i64 0, .int .i64 0, .int .i64 0, .int .i64 0]) ?_ 0 _ rfl; refine skk ?_; exact BK306.out) hb); have n1_ := asd (below_step (skG HB.out GE306.out GE306.out) hb); clear BK306; clear HB; have BK306 := n0_; have HB := n1_; clear n0_ n1_; (try clear hb); (try clear hb2); (try clear hk); (try clear hi); obtain ⟨hcz21_0, hcz21_1, hcz21_2, hcz21_3, hcz21_4, hcz21_5, hfz21_0, hfz21_1, hfz21_2, hfz21_3, hfz21_4, hfz21_5⟩ := bk6 BK306.out))
      go_meet
      case rel => exact ⟨_, (true), rs, H', ⟨by first | omega | exact Nat.le_refl _⟩, ⟨skK BK306.out⟩, ⟨skG HB.out GE306.out GE306.out⟩⟩
    ·
     rw [if_neg c10] at H
     have c10b0 : (((J49 l0 0).f1) == 1) = false := beq_eq_false_iff_ne.mpr c10
     have c10b1 : (((J49 l0 0).f1) != 1) = true := bne_iff_ne.mpr c10
     (first | rw [c10b0] | (simp only [i64_w, i32_w]; rw [c10b0]) | skip)
     have H' := asd H
     clear H
     obtain ⟨hcz22_0, hcz22_1, hcz22_2, hcz22_3, hcz22_4, hcz22_5, hfz22_0, hfz22_1, hfz22_2, hfz22_3, hfz22_4, hfz22_5⟩ := bk6 BK306.out
     go_wp2_with (first | ((with_reducible refine gate_callee (f := 53) rfl ?_); refine goesL_ (some 12) rfl rfl Try.func53 (by kernel_rfl) rfl #[.agg #[.int .i64 ((J49 l0 0).f0), .int .i64 ((J49 l0 0).f1), .int .i64 ((J49 l0 0).f2), .int .i64 ((J49 l0 0).f3), .int .i64 ((J49 l0 0).f4), .int .i64 ((J49 l0 0).f5)]] rfl ags ?_; (with_reducible refine (larchref17_leaf.calls ((J49 l0 0).f0) ((J49 l0 0).f1) ((J49 l0 0).f2) ((J49 l0 0).f3) ((J49 l0 0).f4) ((J49 l0 0).f5) false _ A6.out).mono ?_); rintro e w23 ⟨rfl, hb⟩; refine ⟨_, rfl, ?_⟩; have n0_ := asd (blk_below (g := gb306) (o := .cells #[.int .i64 ((J49 l0 0).f0), .int .i64 ((J49 l0 0).f1), .int .i64 ((J49 l0 0).f2), .int .i64 ((J49 l0 0).f3), .int .i64 ((J49 l0 0).f4), .int .i64 ((J49 l0 0).f5)] 49 (0, 0)) (by refine skk ?_; refine blk_put (cs := #[.int .i64 ((J49 l0 0).f0), .int .i64 ((J49 l0 0).f1), .int .i64 ((J49 l0 0).f2), .int .i64 ((J49 l0 0).f3), .int .i64 ((J49 l0 0).f4), .int .i64 0]) ?_ 5 _ rfl; refine skk ?_; refine blk_put (cs := #[.int .i64 ((J49 l0 0).f0), .int .i64 ((J49 l0 0).f1), .int .i64 ((J49 l0 0).f2), .int .i64 ((J49 l0 0).f3), .int .i64 0, .int .i64 0]) ?_ 4 _ rfl; refine skk ?_; refine blk_put (cs := #[.int .i64 ((J49 l0 0).f0), .int .i64 ((J49 l0 0).f1), .int .i64 ((J49 l0 0).f2), .int .i64 0, .int .i64 0, .int .i64 0]) ?_ 3 _ rfl; refine skk ?_; refine blk_put (cs := #[.int .i64 ((J49 l0 0).f0), .int .i64 ((J49 l0 0).f1), .int .i64 0, .int .i64 0, .int .i64 0, .int .i64 0]) ?_ 2 _ rfl; refine skk ?_; refine blk_put (cs := #[.int .i64 ((J49 l0 0).f0), .int .i64 0, .int .i64 0, .int .i64 0, .int .i64 0, .int .i64 0]) ?_ 1 _ rfl; refine skk ?_; refine blk_put (cs := #[.int .i64 0, .int .i64 0, .int .i64 0, .int .i64 0, .int .i64 0, .int .i64 0]) ?_ 0 _ rfl; refine skk ?_; exact BK306.out) hb); have n1_ := asd (below_step (skG HB.out GE306.out GE306.out) hb); clear BK306; clear HB; have BK306 := n0_; have HB := n1_; clear n0_ n1_; (try clear hb); (try clear hb2); (try clear hk); (try clear hi); obtain ⟨hcz24_0, hcz24_1, hcz24_2, hcz24_3, hcz24_4, hcz24_5, hfz24_0, hfz24_1, hfz24_2, hfz24_3, hfz24_4, hfz24_5⟩ := bk6 BK306.out))
     go_meet
     case rel => exact ⟨_, (true), rs, H', ⟨by first | omega | exact Nat.le_refl _⟩, ⟨skK BK306.out⟩, ⟨skG HB.out GE306.out GE306.out⟩⟩
  case rest =>
   clear HC3
   try clear c1
   try clear c2
   try clear c2b0
   try clear c2b1
   try clear p2
   try clear p3
   try clear q3
   try clear hx3
   try clear qi3
   try clear c5
   try clear c7
   try clear c10
   try clear c10b0
   try clear c10b1
   try clear c11
   try clear c11b0
   try clear c11b1
   try clear c12
   try clear c12b0
   try clear c13
   try clear c13b0
   try clear hcz15_0
   try clear hcz15_1
   try clear hcz15_2
   try clear hcz15_3
   try clear hcz15_4
   try clear hcz15_5
   try clear hcz17_0
   try clear hcz17_1
   try clear hcz17_2
   try clear hcz17_3
   try clear hcz17_4
   try clear hcz17_5
   try clear hcz19_0
   try clear hcz19_1
   try clear hcz19_2
   try clear hcz19_3
   try clear hcz19_4
   try clear hcz19_5
   try clear hcz21_0
   try clear hcz21_1
   try clear hcz21_2
   try clear hcz21_3
   try clear hcz21_4
   try clear hcz21_5
   try clear hcz22_0
   try clear hcz22_1
   try clear hcz22_2
   try clear hcz22_3
   try clear hcz22_4
   try clear hcz22_5
   try clear hcz24_0
   try clear hcz24_1
   try clear hcz24_2
   try clear hcz24_3
   try clear hcz24_4
   try clear hcz24_5
   try clear hcz5_0
   try clear hcz5_1
   try clear hcz5_2
   try clear hcz5_3
   try clear hcz5_4
   try clear hcz5_5
   try clear hcz8_0
   try clear hcz8_1
   try clear hcz8_2
   try clear hcz8_3
   try clear hcz8_4
   try clear hcz8_5
   try clear hfz15_0
   try clear hfz15_1
   try clear hfz15_2
   try clear hfz15_3
   try clear hfz15_4
   try clear hfz15_5
   try clear hfz17_0
   try clear hfz17_1
   try clear hfz17_2
   try clear hfz17_3
   try clear hfz17_4
   try clear hfz17_5
   try clear hfz19_0
   try clear hfz19_1
   try clear hfz19_2
   try clear hfz19_3
   try clear hfz19_4
   try clear hfz19_5
   try clear hfz21_0
   try clear hfz21_1
   try clear hfz21_2
   try clear hfz21_3
   try clear hfz21_4
   try clear hfz21_5
   try clear hfz22_0
   try clear hfz22_1
   try clear hfz22_2
   try clear hfz22_3
   try clear hfz22_4
   try clear hfz22_5
   try clear hfz24_0
   try clear hfz24_1
   try clear hfz24_2
   try clear hfz24_3
   try clear hfz24_4
   try clear hfz24_5
   try clear hfz5_0
   try clear hfz5_1
   try clear hfz5_2
   try clear hfz5_3
   try clear hfz5_4
   try clear hfz5_5
   try clear hfz8_0
   try clear hfz8_1
   try clear hfz8_2
   try clear hfz8_3
   try clear hfz8_4
   try clear hfz8_5
   try clear hx305_0
   try clear hx305_1
   try clear hx305_2
   try clear hx305_3
   try clear hx305_4
   try clear hx305_5
   try clear hx308_0
   try clear hx308_1
   try clear hx308_2
   try clear hx308_3
   try clear hx308_4
   try clear hx308_5
   try clear p305
   try clear p308
   try clear q305
   try clear q308
   obtain ⟨kq, x31_2, rfl, HA, HJ2, BK306, HB⟩ := hcut
   cases kq with
   | zero => exact absurd HA.out (by simp [larchref17_Root.j0])
   | succ kj2 =>
    have H := HA.out
    clear HA
    simp only [larchref17_Root.j0] at H
    by_cases c25 : x31_2 = true
    ·
     subst c25
     have H1 : (some ((-1), false)) = some (r1, r2) := by rw [if_pos rfl] at H; exact H
     clear H
     have H := H1
     clear H1
     simp only [Option.some.injEq, Prod.mk.injEq] at H
     obtain ⟨rfl, rfl⟩ := H
     go_wp2
     go_ret2
     exact ⟨re, skG HB.out GE306.out GE306.out⟩
    ·
     replace c25 := Bool.eq_false_iff.mpr c25
     subst c25
     have H1 : (if 0 ≤ ((J49 l0 0).f4) then (if ((J49 l0 0).f4) < (l0.length : Int) then ((larchref17_sentinel.f ((J49 l0 ((J49 l0 0).f4)).f0) ((J49 l0 ((J49 l0 0).f4)).f1) ((J49 l0 ((J49 l0 0).f4)).f2) ((J49 l0 ((J49 l0 0).f4)).f3) ((J49 l0 ((J49 l0 0).f4)).f4) ((J49 l0 ((J49 l0 0).f4)).f5)).bind fun t311 => (if t311 = true then (some ((-1), true)) else ((larchref17_leaf.f ((J49 l0 ((J49 l0 0).f4)).f0) ((J49 l0 ((J49 l0 0).f4)).f1) ((J49 l0 ((J49 l0 0).f4)).f2) ((J49 l0 ((J49 l0 0).f4)).f3) ((J49 l0 ((J49 l0 0).f4)).f4) ((J49 l0 ((J49 l0 0).f4)).f5)).bind fun t314 => (if t314 = true then (larchref17_Root.j1 kj2 l0 true ((J49 l0 ((J49 l0 0).f4)).f0) ((J49 l0 ((J49 l0 0).f4)).f1) ((J49 l0 ((J49 l0 0).f4)).f2) ((J49 l0 ((J49 l0 0).f4)).f3) ((J49 l0 ((J49 l0 0).f4)).f4) ((J49 l0 ((J49 l0 0).f4)).f5)) else (if ((J49 l0 ((J49 l0 0).f4)).f1) = 1 then (if ((J49 l0 ((J49 l0 0).f4)).f2) = 1 then (if 0 ≤ ((J49 l0 ((J49 l0 0).f4)).f5) then (if ((J49 l0 ((J49 l0 0).f4)).f5) < (l0.length : Int) then ((larchref17_sentinel.f ((J49 l0 ((J49 l0 ((J49 l0 0).f4)).f5)).f0) ((J49 l0 ((J49 l0 ((J49 l0 0).f4)).f5)).f1) ((J49 l0 ((J49 l0 ((J49 l0 0).f4)).f5)).f2) ((J49 l0 ((J49 l0 ((J49 l0 0).f4)).f5)).f3) ((J49 l0 ((J49 l0 ((J49 l0 0).f4)).f5)).f4) ((J49 l0 ((J49 l0 ((J49 l0 0).f4)).f5)).f5)).bind fun t316 => (larchref17_Root.j1 kj2 l0 (!t316) ((J49 l0 ((J49 l0 0).f4)).f0) ((J49 l0 ((J49 l0 0).f4)).f1) ((J49 l0 ((J49 l0 0).f4)).f2) ((J49 l0 ((J49 l0 0).f4)).f3) ((J49 l0 ((J49 l0 0).f4)).f4) ((J49 l0 ((J49 l0 0).f4)).f5))) else (none)) else (none)) else (larchref17_Root.j1 kj2 l0 true ((J49 l0 ((J49 l0 0).f4)).f0) ((J49 l0 ((J49 l0 0).f4)).f1) ((J49 l0 ((J49 l0 0).f4)).f2) ((J49 l0 ((J49 l0 0).f4)).f3) ((J49 l0 ((J49 l0 0).f4)).f4) ((J49 l0 ((J49 l0 0).f4)).f5))) else (larchref17_Root.j1 kj2 l0 true ((J49 l0 ((J49 l0 0).f4)).f0) ((J49 l0 ((J49 l0 0).f4)).f1) ((J49 l0 ((J49 l0 0).f4)).f2) ((J49 l0 ((J49 l0 0).f4)).f3) ((J49 l0 ((J49 l0 0).f4)).f4) ((J49 l0 ((J49 l0 0).f4)).f5))))))) else (none)) else (none)) = some (r1, r2) := by rw [if_neg (show ¬ (false = true) by decide)] at H; exact H
     clear H
     have H := H1
     clear H1
     by_cases c26 : 0 ≤ ((J49 l0 0).f4)
     ·
      rw [if_pos c26] at H
      have c26b0 : decide (0 ≤ ((J49 l0 0).f4)) = true := decide_eq_true c26
      clear c26
      by_cases c27 : ((J49 l0 0).f4) < (l0.length : Int)
      ·
       rw [if_pos c27] at H
       have c27b0 : decide (((J49 l0 0).f4) < (l0.length : Int)) = true := decide_eq_true c27
       clear c27
       replace H := Option.bind_eq_some_iff.mp H
       obtain ⟨t311, A280, H⟩ := H
       replace H : (if t311 = true then (some ((-1), true)) else ((larchref17_leaf.f ((J49 l0 ((J49 l0 0).f4)).f0) ((J49 l0 ((J49 l0 0).f4)).f1) ((J49 l0 ((J49 l0 0).f4)).f2) ((J49 l0 ((J49 l0 0).f4)).f3) ((J49 l0 ((J49 l0 0).f4)).f4) ((J49 l0 ((J49 l0 0).f4)).f5)).bind fun t314 => (if t314 = true then (larchref17_Root.j1 kj2 l0 true ((J49 l0 ((J49 l0 0).f4)).f0) ((J49 l0 ((J49 l0 0).f4)).f1) ((J49 l0 ((J49 l0 0).f4)).f2) ((J49 l0 ((J49 l0 0).f4)).f3) ((J49 l0 ((J49 l0 0).f4)).f4) ((J49 l0 ((J49 l0 0).f4)).f5)) else (if ((J49 l0 ((J49 l0 0).f4)).f1) = 1 then (if ((J49 l0 ((J49 l0 0).f4)).f2) = 1 then (if 0 ≤ ((J49 l0 ((J49 l0 0).f4)).f5) then (if ((J49 l0 ((J49 l0 0).f4)).f5) < (l0.length : Int) then ((larchref17_sentinel.f ((J49 l0 ((J49 l0 ((J49 l0 0).f4)).f5)).f0) ((J49 l0 ((J49 l0 ((J49 l0 0).f4)).f5)).f1) ((J49 l0 ((J49 l0 ((J49 l0 0).f4)).f5)).f2) ((J49 l0 ((J49 l0 ((J49 l0 0).f4)).f5)).f3) ((J49 l0 ((J49 l0 ((J49 l0 0).f4)).f5)).f4) ((J49 l0 ((J49 l0 ((J49 l0 0).f4)).f5)).f5)).bind fun t316 => (larchref17_Root.j1 kj2 l0 (!t316) ((J49 l0 ((J49 l0 0).f4)).f0) ((J49 l0 ((J49 l0 0).f4)).f1) ((J49 l0 ((J49 l0 0).f4)).f2) ((J49 l0 ((J49 l0 0).f4)).f3) ((J49 l0 ((J49 l0 0).f4)).f4) ((J49 l0 ((J49 l0 0).f4)).f5))) else (none)) else (none)) else (larchref17_Root.j1 kj2 l0 true ((J49 l0 ((J49 l0 0).f4)).f0) ((J49 l0 ((J49 l0 0).f4)).f1) ((J49 l0 ((J49 l0 0).f4)).f2) ((J49 l0 ((J49 l0 0).f4)).f3) ((J49 l0 ((J49 l0 0).f4)).f4) ((J49 l0 ((J49 l0 0).f4)).f5))) else (larchref17_Root.j1 kj2 l0 true ((J49 l0 ((J49 l0 0).f4)).f0) ((J49 l0 ((J49 l0 0).f4)).f1) ((J49 l0 ((J49 l0 0).f4)).f2) ((J49 l0 ((J49 l0 0).f4)).f3) ((J49 l0 ((J49 l0 0).f4)).f4) ((J49 l0 ((J49 l0 0).f4)).f5)))))) = some (r1, r2) := H
       have A28 := asd A280
       clear A280
       by_cases c29 : t311 = true
       ·
        subst c29
        have H1 : (some ((-1), true)) = some (r1, r2) := by rw [if_pos rfl] at H; exact H
        clear H
        have H := H1
        clear H1
        simp only [Option.some.injEq, Prod.mk.injEq] at H
        obtain ⟨rfl, rfl⟩ := H
        obtain ⟨hcz30_0, hcz30_1, hcz30_2, hcz30_3, hcz30_4, hcz30_5, hfz30_0, hfz30_1, hfz30_2, hfz30_3, hfz30_4, hfz30_5⟩ := bk6 BK306.out
        have p310 : 0 ≤ (((J49 l0 0).f4) : Int) := dt
        have q310 : ((J49 l0 0).f4) < (l0.length : Int) := dt
        obtain ⟨ad310, e310, hx310_0, hx310_1, hx310_2, hx310_3, hx310_4, hx310_5⟩ := at_T49 HR0.out ((J49 l0 0).f4) p310 q310
        obtain rfl : ad305 = ad310 := (by injection e310)
        replace hx310_0 := skc HB.out hx310_0
        replace hx310_1 := skc HB.out hx310_1
        replace hx310_2 := skc HB.out hx310_2
        replace hx310_3 := skc HB.out hx310_3
        replace hx310_4 := skc HB.out hx310_4
        replace hx310_5 := skc HB.out hx310_5
        replace p310 := eq_true p310
        replace q310 := eq_true q310
        go_wp2_with (first | ((with_reducible refine gate_callee (f := 54) rfl ?_); refine goesL_ (some 37) rfl rfl Try.func54 (by kernel_rfl) rfl #[.agg #[.int .i64 ((J49 l0 ((J49 l0 0).f4)).f0), .int .i64 ((J49 l0 ((J49 l0 0).f4)).f1), .int .i64 ((J49 l0 ((J49 l0 0).f4)).f2), .int .i64 ((J49 l0 ((J49 l0 0).f4)).f3), .int .i64 ((J49 l0 ((J49 l0 0).f4)).f4), .int .i64 ((J49 l0 ((J49 l0 0).f4)).f5)]] rfl ags ?_; (with_reducible refine (larchref17_sentinel.calls ((J49 l0 ((J49 l0 0).f4)).f0) ((J49 l0 ((J49 l0 0).f4)).f1) ((J49 l0 ((J49 l0 0).f4)).f2) ((J49 l0 ((J49 l0 0).f4)).f3) ((J49 l0 ((J49 l0 0).f4)).f4) ((J49 l0 ((J49 l0 0).f4)).f5) true _ A28.out).mono ?_); rintro e w31 ⟨rfl, hb⟩; refine ⟨_, rfl, ?_⟩; have n0_ := asd (blk_below (g := gb306) (o := .cells #[.int .i64 ((J49 l0 0).f0), .int .i64 ((J49 l0 0).f1), .int .i64 ((J49 l0 0).f2), .int .i64 ((J49 l0 0).f3), .int .i64 ((J49 l0 0).f4), .int .i64 ((J49 l0 0).f5)] 49 (0, 0)) (skK BK306.out) hb); have n1_ := asd (below_step (skG HB.out GE306.out GE306.out) hb); clear BK306; clear HB; have BK306 := n0_; have HB := n1_; clear n0_ n1_; (try clear hb); (try clear hb2); (try clear hk); (try clear hi)))
        go_ret2
        exact ⟨re, skG HB.out GE306.out GE306.out⟩
       ·
        replace c29 := Bool.eq_false_iff.mpr c29
        subst c29
        have H1 : ((larchref17_leaf.f ((J49 l0 ((J49 l0 0).f4)).f0) ((J49 l0 ((J49 l0 0).f4)).f1) ((J49 l0 ((J49 l0 0).f4)).f2) ((J49 l0 ((J49 l0 0).f4)).f3) ((J49 l0 ((J49 l0 0).f4)).f4) ((J49 l0 ((J49 l0 0).f4)).f5)).bind fun t314 => (if t314 = true then (larchref17_Root.j1 kj2 l0 true ((J49 l0 ((J49 l0 0).f4)).f0) ((J49 l0 ((J49 l0 0).f4)).f1) ((J49 l0 ((J49 l0 0).f4)).f2) ((J49 l0 ((J49 l0 0).f4)).f3) ((J49 l0 ((J49 l0 0).f4)).f4) ((J49 l0 ((J49 l0 0).f4)).f5)) else (if ((J49 l0 ((J49 l0 0).f4)).f1) = 1 then (if ((J49 l0 ((J49 l0 0).f4)).f2) = 1 then (if 0 ≤ ((J49 l0 ((J49 l0 0).f4)).f5) then (if ((J49 l0 ((J49 l0 0).f4)).f5) < (l0.length : Int) then ((larchref17_sentinel.f ((J49 l0 ((J49 l0 ((J49 l0 0).f4)).f5)).f0) ((J49 l0 ((J49 l0 ((J49 l0 0).f4)).f5)).f1) ((J49 l0 ((J49 l0 ((J49 l0 0).f4)).f5)).f2) ((J49 l0 ((J49 l0 ((J49 l0 0).f4)).f5)).f3) ((J49 l0 ((J49 l0 ((J49 l0 0).f4)).f5)).f4) ((J49 l0 ((J49 l0 ((J49 l0 0).f4)).f5)).f5)).bind fun t316 => (larchref17_Root.j1 kj2 l0 (!t316) ((J49 l0 ((J49 l0 0).f4)).f0) ((J49 l0 ((J49 l0 0).f4)).f1) ((J49 l0 ((J49 l0 0).f4)).f2) ((J49 l0 ((J49 l0 0).f4)).f3) ((J49 l0 ((J49 l0 0).f4)).f4) ((J49 l0 ((J49 l0 0).f4)).f5))) else (none)) else (none)) else (larchref17_Root.j1 kj2 l0 true ((J49 l0 ((J49 l0 0).f4)).f0) ((J49 l0 ((J49 l0 0).f4)).f1) ((J49 l0 ((J49 l0 0).f4)).f2) ((J49 l0 ((J49 l0 0).f4)).f3) ((J49 l0 ((J49 l0 0).f4)).f4) ((J49 l0 ((J49 l0 0).f4)).f5))) else (larchref17_Root.j1 kj2 l0 true ((J49 l0 ((J49 l0 0).f4)).f0) ((J49 l0 ((J49 l0 0).f4)).f1) ((J49 l0 ((J49 l0 0).f4)).f2) ((J49 l0 ((J49 l0 0).f4)).f3) ((J49 l0 ((J49 l0 0).f4)).f4) ((J49 l0 ((J49 l0 0).f4)).f5))))) = some (r1, r2) := by rw [if_neg (show ¬ (false = true) by decide)] at H; exact H
        clear H
        have H := H1
        clear H1
        have HC32 := asd H
        clear H
        obtain ⟨hcz33_0, hcz33_1, hcz33_2, hcz33_3, hcz33_4, hcz33_5, hfz33_0, hfz33_1, hfz33_2, hfz33_3, hfz33_4, hfz33_5⟩ := bk6 BK306.out
        have p310 : 0 ≤ (((J49 l0 0).f4) : Int) := dt
        have q310 : ((J49 l0 0).f4) < (l0.length : Int) := dt
        obtain ⟨ad310, e310, hx310_0, hx310_1, hx310_2, hx310_3, hx310_4, hx310_5⟩ := at_T49 HR0.out ((J49 l0 0).f4) p310 q310
        obtain rfl : ad305 = ad310 := (by injection e310)
        replace hx310_0 := skc HB.out hx310_0
        replace hx310_1 := skc HB.out hx310_1
        replace hx310_2 := skc HB.out hx310_2
        replace hx310_3 := skc HB.out hx310_3
        replace hx310_4 := skc HB.out hx310_4
        replace hx310_5 := skc HB.out hx310_5
        replace p310 := eq_true p310
        replace q310 := eq_true q310
        go_upto_region 7 with (first | ((with_reducible refine gate_callee (f := 54) rfl ?_); refine goesL_ (some 37) rfl rfl Try.func54 (by kernel_rfl) rfl #[.agg #[.int .i64 ((J49 l0 ((J49 l0 0).f4)).f0), .int .i64 ((J49 l0 ((J49 l0 0).f4)).f1), .int .i64 ((J49 l0 ((J49 l0 0).f4)).f2), .int .i64 ((J49 l0 ((J49 l0 0).f4)).f3), .int .i64 ((J49 l0 ((J49 l0 0).f4)).f4), .int .i64 ((J49 l0 ((J49 l0 0).f4)).f5)]] rfl ags ?_; (with_reducible refine (larchref17_sentinel.calls ((J49 l0 ((J49 l0 0).f4)).f0) ((J49 l0 ((J49 l0 0).f4)).f1) ((J49 l0 ((J49 l0 0).f4)).f2) ((J49 l0 ((J49 l0 0).f4)).f3) ((J49 l0 ((J49 l0 0).f4)).f4) ((J49 l0 ((J49 l0 0).f4)).f5) false _ A28.out).mono ?_); rintro e w34 ⟨rfl, hb⟩; refine ⟨_, rfl, ?_⟩; have n0_ := asd (blk_below (g := gb306) (o := .cells #[.int .i64 ((J49 l0 0).f0), .int .i64 ((J49 l0 0).f1), .int .i64 ((J49 l0 0).f2), .int .i64 ((J49 l0 0).f3), .int .i64 ((J49 l0 0).f4), .int .i64 ((J49 l0 0).f5)] 49 (0, 0)) (skK BK306.out) hb); have n1_ := asd (below_step (skG HB.out GE306.out GE306.out) hb); clear BK306; clear HB; have BK306 := n0_; have HB := n1_; clear n0_ n1_; (try clear hb); (try clear hb2); (try clear hk); (try clear hi); obtain ⟨hcz35_0, hcz35_1, hcz35_2, hcz35_3, hcz35_4, hcz35_5, hfz35_0, hfz35_1, hfz35_2, hfz35_3, hfz35_4, hfz35_5⟩ := bk6 BK306.out; have p312 : 0 ≤ (((J49 l0 0).f4) : Int) := dt; have q312 : ((J49 l0 0).f4) < (l0.length : Int) := dt; obtain ⟨ad312, e312, hx312_0, hx312_1, hx312_2, hx312_3, hx312_4, hx312_5⟩ := at_T49 HR0.out ((J49 l0 0).f4) p312 q312; obtain rfl : ad305 = ad312 := (by injection e312); replace hx312_0 := skc HB.out hx312_0; replace hx312_1 := skc HB.out hx312_1; replace hx312_2 := skc HB.out hx312_2; replace hx312_3 := skc HB.out hx312_3; replace hx312_4 := skc HB.out hx312_4; replace hx312_5 := skc HB.out hx312_5; replace p312 := eq_true p312; replace q312 := eq_true q312) | ((with_reducible refine gate_dst (N := 5) rfl ?_); refine box_event ?hg (N := 5) ?hd (cs := #[.int .i64 0, .int .i64 0, .int .i64 0, .int .i64 0, .int .i64 0, .int .i64 0]) (t := 49) ?hr ?_; (case hd => rfl); (case hg => rfl); (case hr => first | (go_simp; done) | (go_simp; rfl)); intro gb313 hg w36 hbox hb; have n0_ := asd (blk_below (g := gb306) (o := .cells #[.int .i64 ((J49 l0 0).f0), .int .i64 ((J49 l0 0).f1), .int .i64 ((J49 l0 0).f2), .int .i64 ((J49 l0 0).f3), .int .i64 ((J49 l0 0).f4), .int .i64 ((J49 l0 0).f5)] 49 (0, 0)) (skK BK306.out) hb); have n1_ := asd (below_step (skG HB.out GE306.out GE306.out) hb); have n2_ := asd (hbox); have n3_ := asd ((by rw [hg]; exact (below_size (skG HB.out GE306.out GE306.out)) : w.heap.size ≤ gb313)); have n4_ := asd ((by rw [hg]; exact (below_size (skG HB.out GE306.out GE306.out)) : w.heap.size ≤ gb313)); have n5_ := asd ((by rw [hg]; exact Nat.ne_of_lt (blk_lt (g := gb306) (o := .cells #[.int .i64 ((J49 l0 0).f0), .int .i64 ((J49 l0 0).f1), .int .i64 ((J49 l0 0).f2), .int .i64 ((J49 l0 0).f3), .int .i64 ((J49 l0 0).f4), .int .i64 ((J49 l0 0).f5)] 49 (0, 0)) (skK BK306.out)) : gb306 ≠ gb313)); have n6_ := asd ((by rw [hg]; exact Nat.ne_of_gt (blk_lt (g := gb306) (o := .cells #[.int .i64 ((J49 l0 0).f0), .int .i64 ((J49 l0 0).f1), .int .i64 ((J49 l0 0).f2), .int .i64 ((J49 l0 0).f3), .int .i64 ((J49 l0 0).f4), .int .i64 ((J49 l0 0).f5)] 49 (0, 0)) (skK BK306.out)) : gb313 ≠ gb306)); clear BK306; clear HB; have BK306 := n0_; have HB := n1_; have BK313 := n2_; have GW313 := n3_; have GE313 := n4_; have NB306_313 := n5_; have NB313_306 := n6_; clear n0_ n1_ n2_ n3_ n4_ n5_ n6_; clear hb hbox hg; have hnb37 := NB313_306.out; have hnc37 := NB306_313.out; obtain ⟨hcz38_0, hcz38_1, hcz38_2, hcz38_3, hcz38_4, hcz38_5, hfz38_0, hfz38_1, hfz38_2, hfz38_3, hfz38_4, hfz38_5⟩ := bk6 BK313.out))
        (try simp only [Act.put, List.setIfInBounds_toArray, List.set_cons_zero, List.set_cons_succ])
        go_cut [63] (fun v63 wc => ∃ (kq : Nat) (x63_31 : Bool), v63 = .bool x63_31 ∧ Aside0 (larchref17_Root.j1 kq l0 x63_31 ((J49 l0 ((J49 l0 0).f4)).f0) ((J49 l0 ((J49 l0 0).f4)).f1) ((J49 l0 ((J49 l0 0).f4)).f2) ((J49 l0 ((J49 l0 0).f4)).f3) ((J49 l0 ((J49 l0 0).f4)).f4) ((J49 l0 ((J49 l0 0).f4)).f5) = some (r1, r2)) ∧ Aside0 (kq ≤ kj2) ∧ Aside0 (wc.heap[gb306]? = some (.cells #[.int .i64 ((J49 l0 0).f0), .int .i64 ((J49 l0 0).f1), .int .i64 ((J49 l0 0).f2), .int .i64 ((J49 l0 0).f3), .int .i64 ((J49 l0 0).f4), .int .i64 ((J49 l0 0).f5)] 49 (0, 0))) ∧ Aside0 (wc.heap[gb313]? = some (.cells #[.int .i64 ((J49 l0 ((J49 l0 0).f4)).f0), .int .i64 ((J49 l0 ((J49 l0 0).f4)).f1), .int .i64 ((J49 l0 ((J49 l0 0).f4)).f2), .int .i64 ((J49 l0 ((J49 l0 0).f4)).f3), .int .i64 ((J49 l0 ((J49 l0 0).f4)).f4), .int .i64 ((J49 l0 ((J49 l0 0).f4)).f5)] 49 (0, 0))) ∧ Aside0 (Below w.heap.size w wc))
        case first =>
         have H := HC32.out
         clear HC32
         replace H := Option.bind_eq_some_iff.mp H
         obtain ⟨t314, A390, H⟩ := H
         replace H : (if t314 = true then (larchref17_Root.j1 kj2 l0 true ((J49 l0 ((J49 l0 0).f4)).f0) ((J49 l0 ((J49 l0 0).f4)).f1) ((J49 l0 ((J49 l0 0).f4)).f2) ((J49 l0 ((J49 l0 0).f4)).f3) ((J49 l0 ((J49 l0 0).f4)).f4) ((J49 l0 ((J49 l0 0).f4)).f5)) else (if ((J49 l0 ((J49 l0 0).f4)).f1) = 1 then (if ((J49 l0 ((J49 l0 0).f4)).f2) = 1 then (if 0 ≤ ((J49 l0 ((J49 l0 0).f4)).f5) then (if ((J49 l0 ((J49 l0 0).f4)).f5) < (l0.length : Int) then ((larchref17_sentinel.f ((J49 l0 ((J49 l0 ((J49 l0 0).f4)).f5)).f0) ((J49 l0 ((J49 l0 ((J49 l0 0).f4)).f5)).f1) ((J49 l0 ((J49 l0 ((J49 l0 0).f4)).f5)).f2) ((J49 l0 ((J49 l0 ((J49 l0 0).f4)).f5)).f3) ((J49 l0 ((J49 l0 ((J49 l0 0).f4)).f5)).f4) ((J49 l0 ((J49 l0 ((J49 l0 0).f4)).f5)).f5)).bind fun t316 => (larchref17_Root.j1 kj2 l0 (!t316) ((J49 l0 ((J49 l0 0).f4)).f0) ((J49 l0 ((J49 l0 0).f4)).f1) ((J49 l0 ((J49 l0 0).f4)).f2) ((J49 l0 ((J49 l0 0).f4)).f3) ((J49 l0 ((J49 l0 0).f4)).f4) ((J49 l0 ((J49 l0 0).f4)).f5))) else (none)) else (none)) else (larchref17_Root.j1 kj2 l0 true ((J49 l0 ((J49 l0 0).f4)).f0) ((J49 l0 ((J49 l0 0).f4)).f1) ((J49 l0 ((J49 l0 0).f4)).f2) ((J49 l0 ((J49 l0 0).f4)).f3) ((J49 l0 ((J49 l0 0).f4)).f4) ((J49 l0 ((J49 l0 0).f4)).f5))) else (larchref17_Root.j1 kj2 l0 true ((J49 l0 ((J49 l0 0).f4)).f0) ((J49 l0 ((J49 l0 0).f4)).f1) ((J49 l0 ((J49 l0 0).f4)).f2) ((J49 l0 ((J49 l0 0).f4)).f3) ((J49 l0 ((J49 l0 0).f4)).f4) ((J49 l0 ((J49 l0 0).f4)).f5)))) = some (r1, r2) := H
         have A39 := asd A390
         clear A390
         by_cases c40 : t314 = true
         ·
          subst c40
          have H1 : (larchref17_Root.j1 kj2 l0 true ((J49 l0 ((J49 l0 0).f4)).f0) ((J49 l0 ((J49 l0 0).f4)).f1) ((J49 l0 ((J49 l0 0).f4)).f2) ((J49 l0 ((J49 l0 0).f4)).f3) ((J49 l0 ((J49 l0 0).f4)).f4) ((J49 l0 ((J49 l0 0).f4)).f5)) = some (r1, r2) := by rw [if_pos rfl] at H; exact H
          clear H
          have H := H1
          clear H1
          have H' := asd H
          clear H
          have hnb41 := NB313_306.out
          have hnc41 := NB306_313.out
          obtain ⟨hcz42_0, hcz42_1, hcz42_2, hcz42_3, hcz42_4, hcz42_5, hfz42_0, hfz42_1, hfz42_2, hfz42_3, hfz42_4, hfz42_5⟩ := bk6 BK313.out
          go_wp2_with (first | ((with_reducible refine gate_callee (f := 53) rfl ?_); refine goesL_ (some 44) rfl rfl Try.func53 (by kernel_rfl) rfl #[.agg #[.int .i64 ((J49 l0 ((J49 l0 0).f4)).f0), .int .i64 ((J49 l0 ((J49 l0 0).f4)).f1), .int .i64 ((J49 l0 ((J49 l0 0).f4)).f2), .int .i64 ((J49 l0 ((J49 l0 0).f4)).f3), .int .i64 ((J49 l0 ((J49 l0 0).f4)).f4), .int .i64 ((J49 l0 ((J49 l0 0).f4)).f5)]] rfl ags ?_; (with_reducible refine (larchref17_leaf.calls ((J49 l0 ((J49 l0 0).f4)).f0) ((J49 l0 ((J49 l0 0).f4)).f1) ((J49 l0 ((J49 l0 0).f4)).f2) ((J49 l0 ((J49 l0 0).f4)).f3) ((J49 l0 ((J49 l0 0).f4)).f4) ((J49 l0 ((J49 l0 0).f4)).f5) true _ A39.out).mono ?_); rintro e w43 ⟨rfl, hb⟩; refine ⟨_, rfl, ?_⟩; have n0_ := asd (blk_below (g := gb306) (o := .cells #[.int .i64 ((J49 l0 0).f0), .int .i64 ((J49 l0 0).f1), .int .i64 ((J49 l0 0).f2), .int .i64 ((J49 l0 0).f3), .int .i64 ((J49 l0 0).f4), .int .i64 ((J49 l0 0).f5)] 49 (0, 0)) (by refine skk ?_; refine blk_far ?_ NB306_313.out _; refine skk ?_; refine blk_far ?_ NB306_313.out _; refine skk ?_; refine blk_far ?_ NB306_313.out _; refine skk ?_; refine blk_far ?_ NB306_313.out _; refine skk ?_; refine blk_far ?_ NB306_313.out _; refine skk ?_; refine blk_far ?_ NB306_313.out _; refine skk ?_; exact BK306.out) hb); have n1_ := asd (blk_below (g := gb313) (o := .cells #[.int .i64 ((J49 l0 ((J49 l0 0).f4)).f0), .int .i64 ((J49 l0 ((J49 l0 0).f4)).f1), .int .i64 ((J49 l0 ((J49 l0 0).f4)).f2), .int .i64 ((J49 l0 ((J49 l0 0).f4)).f3), .int .i64 ((J49 l0 ((J49 l0 0).f4)).f4), .int .i64 ((J49 l0 ((J49 l0 0).f4)).f5)] 49 (0, 0)) (by refine skk ?_; refine blk_put (cs := #[.int .i64 ((J49 l0 ((J49 l0 0).f4)).f0), .int .i64 ((J49 l0 ((J49 l0 0).f4)).f1), .int .i64 ((J49 l0 ((J49 l0 0).f4)).f2), .int .i64 ((J49 l0 ((J49 l0 0).f4)).f3), .int .i64 ((J49 l0 ((J49 l0 0).f4)).f4), .int .i64 0]) ?_ 5 _ rfl; refine skk ?_; refine blk_put (cs := #[.int .i64 ((J49 l0 ((J49 l0 0).f4)).f0), .int .i64 ((J49 l0 ((J49 l0 0).f4)).f1), .int .i64 ((J49 l0 ((J49 l0 0).f4)).f2), .int .i64 ((J49 l0 ((J49 l0 0).f4)).f3), .int .i64 0, .int .i64 0]) ?_ 4 _ rfl; refine skk ?_; refine blk_put (cs := #[.int .i64 ((J49 l0 ((J49 l0 0).f4)).f0), .int .i64 ((J49 l0 ((J49 l0 0).f4)).f1), .int .i64 ((J49 l0 ((J49 l0 0).f4)).f2), .int .i64 0, .int .i64 0, .int .i64 0]) ?_ 3 _ rfl; refine skk ?_; refine blk_put (cs := #[.int .i64 ((J49 l0 ((J49 l0 0).f4)).f0), .int .i64 ((J49 l0 ((J49 l0 0).f4)).f1), .int .i64 0, .int .i64 0, .int .i64 0, .int .i64 0]) ?_ 2 _ rfl; refine skk ?_; refine blk_put (cs := #[.int .i64 ((J49 l0 ((J49 l0 0).f4)).f0), .int .i64 0, .int .i64 0, .int .i64 0, .int .i64 0, .int .i64 0]) ?_ 1 _ rfl; refine skk ?_; refine blk_put (cs := #[.int .i64 0, .int .i64 0, .int .i64 0, .int .i64 0, .int .i64 0, .int .i64 0]) ?_ 0 _ rfl; refine skk ?_; exact BK313.out) hb); have n2_ := asd (below_step (skG HB.out GE306.out GE313.out) hb); clear BK306; clear BK313; clear HB; have BK306 := n0_; have BK313 := n1_; have HB := n2_; clear n0_ n1_ n2_; (try clear hb); (try clear hb2); (try clear hk); (try clear hi)))
          go_meet
          case rel => exact ⟨_, (true), rs, H', ⟨by have := HJ2.out; first | omega | exact Nat.le_refl _⟩, ⟨skK BK306.out⟩, ⟨skK BK313.out⟩, ⟨skG HB.out GE306.out GE313.out⟩⟩
         ·
          replace c40 := Bool.eq_false_iff.mpr c40
          subst c40
          have H1 : (if ((J49 l0 ((J49 l0 0).f4)).f1) = 1 then (if ((J49 l0 ((J49 l0 0).f4)).f2) = 1 then (if 0 ≤ ((J49 l0 ((J49 l0 0).f4)).f5) then (if ((J49 l0 ((J49 l0 0).f4)).f5) < (l0.length : Int) then ((larchref17_sentinel.f ((J49 l0 ((J49 l0 ((J49 l0 0).f4)).f5)).f0) ((J49 l0 ((J49 l0 ((J49 l0 0).f4)).f5)).f1) ((J49 l0 ((J49 l0 ((J49 l0 0).f4)).f5)).f2) ((J49 l0 ((J49 l0 ((J49 l0 0).f4)).f5)).f3) ((J49 l0 ((J49 l0 ((J49 l0 0).f4)).f5)).f4) ((J49 l0 ((J49 l0 ((J49 l0 0).f4)).f5)).f5)).bind fun t316 => (larchref17_Root.j1 kj2 l0 (!t316) ((J49 l0 ((J49 l0 0).f4)).f0) ((J49 l0 ((J49 l0 0).f4)).f1) ((J49 l0 ((J49 l0 0).f4)).f2) ((J49 l0 ((J49 l0 0).f4)).f3) ((J49 l0 ((J49 l0 0).f4)).f4) ((J49 l0 ((J49 l0 0).f4)).f5))) else (none)) else (none)) else (larchref17_Root.j1 kj2 l0 true ((J49 l0 ((J49 l0 0).f4)).f0) ((J49 l0 ((J49 l0 0).f4)).f1) ((J49 l0 ((J49 l0 0).f4)).f2) ((J49 l0 ((J49 l0 0).f4)).f3) ((J49 l0 ((J49 l0 0).f4)).f4) ((J49 l0 ((J49 l0 0).f4)).f5))) else (larchref17_Root.j1 kj2 l0 true ((J49 l0 ((J49 l0 0).f4)).f0) ((J49 l0 ((J49 l0 0).f4)).f1) ((J49 l0 ((J49 l0 0).f4)).f2) ((J49 l0 ((J49 l0 0).f4)).f3) ((J49 l0 ((J49 l0 0).f4)).f4) ((J49 l0 ((J49 l0 0).f4)).f5))) = some (r1, r2) := by rw [if_neg (show ¬ (false = true) by decide)] at H; exact H
          clear H
          have H := H1
          clear H1
          by_cases c44 : ((J49 l0 ((J49 l0 0).f4)).f1) = 1
          ·
           rw [if_pos c44] at H
           have c44b0 : (((J49 l0 ((J49 l0 0).f4)).f1) == 1) = true := beq_iff_eq.mpr c44
           have c44b1 : (((J49 l0 ((J49 l0 0).f4)).f1) != 1) = false := bne_eq_false_iff_eq.mpr c44
           clear c44
           (first | rw [c44b0] | (simp only [i64_w, i32_w]; rw [c44b0]) | skip)
           by_cases c45 : ((J49 l0 ((J49 l0 0).f4)).f2) = 1
           ·
            rw [if_pos c45] at H
            have c45b0 : (((J49 l0 ((J49 l0 0).f4)).f2) == 1) = true := beq_iff_eq.mpr c45
            have c45b1 : (((J49 l0 ((J49 l0 0).f4)).f2) != 1) = false := bne_eq_false_iff_eq.mpr c45
            clear c45
            by_cases c46 : 0 ≤ ((J49 l0 ((J49 l0 0).f4)).f5)
            ·
             rw [if_pos c46] at H
             have c46b0 : decide (0 ≤ ((J49 l0 ((J49 l0 0).f4)).f5)) = true := decide_eq_true c46
             clear c46
             by_cases c47 : ((J49 l0 ((J49 l0 0).f4)).f5) < (l0.length : Int)
             ·
              rw [if_pos c47] at H
              have c47b0 : decide (((J49 l0 ((J49 l0 0).f4)).f5) < (l0.length : Int)) = true := decide_eq_true c47
              clear c47
              replace H := Option.bind_eq_some_iff.mp H
              obtain ⟨t316, A480, H⟩ := H
              replace H : (larchref17_Root.j1 kj2 l0 (!t316) ((J49 l0 ((J49 l0 0).f4)).f0) ((J49 l0 ((J49 l0 0).f4)).f1) ((J49 l0 ((J49 l0 0).f4)).f2) ((J49 l0 ((J49 l0 0).f4)).f3) ((J49 l0 ((J49 l0 0).f4)).f4) ((J49 l0 ((J49 l0 0).f4)).f5)) = some (r1, r2) := H
              have A48 := asd A480
              clear A480
              have H' := asd H
              clear H
              have hnb49 := NB313_306.out
              have hnc49 := NB306_313.out
              obtain ⟨hcz50_0, hcz50_1, hcz50_2, hcz50_3, hcz50_4, hcz50_5, hfz50_0, hfz50_1, hfz50_2, hfz50_3, hfz50_4, hfz50_5⟩ := bk6 BK313.out
              go_wp2_with (first | ((with_reducible refine gate_callee (f := 53) rfl ?_); refine goesL_ (some 44) rfl rfl Try.func53 (by kernel_rfl) rfl #[.agg #[.int .i64 ((J49 l0 ((J49 l0 0).f4)).f0), .int .i64 ((J49 l0 ((J49 l0 0).f4)).f1), .int .i64 ((J49 l0 ((J49 l0 0).f4)).f2), .int .i64 ((J49 l0 ((J49 l0 0).f4)).f3), .int .i64 ((J49 l0 ((J49 l0 0).f4)).f4), .int .i64 ((J49 l0 ((J49 l0 0).f4)).f5)]] rfl ags ?_; (with_reducible refine (larchref17_leaf.calls ((J49 l0 ((J49 l0 0).f4)).f0) ((J49 l0 ((J49 l0 0).f4)).f1) ((J49 l0 ((J49 l0 0).f4)).f2) ((J49 l0 ((J49 l0 0).f4)).f3) ((J49 l0 ((J49 l0 0).f4)).f4) ((J49 l0 ((J49 l0 0).f4)).f5) false _ A39.out).mono ?_); rintro e w51 ⟨rfl, hb⟩; refine ⟨_, rfl, ?_⟩; have n0_ := asd (blk_below (g := gb306) (o := .cells #[.int .i64 ((J49 l0 0).f0), .int .i64 ((J49 l0 0).f1), .int .i64 ((J49 l0 0).f2), .int .i64 ((J49 l0 0).f3), .int .i64 ((J49 l0 0).f4), .int .i64 ((J49 l0 0).f5)] 49 (0, 0)) (by refine skk ?_; refine blk_far ?_ NB306_313.out _; refine skk ?_; refine blk_far ?_ NB306_313.out _; refine skk ?_; refine blk_far ?_ NB306_313.out _; refine skk ?_; refine blk_far ?_ NB306_313.out _; refine skk ?_; refine blk_far ?_ NB306_313.out _; refine skk ?_; refine blk_far ?_ NB306_313.out _; refine skk ?_; exact BK306.out) hb); have n1_ := asd (blk_below (g := gb313) (o := .cells #[.int .i64 ((J49 l0 ((J49 l0 0).f4)).f0), .int .i64 ((J49 l0 ((J49 l0 0).f4)).f1), .int .i64 ((J49 l0 ((J49 l0 0).f4)).f2), .int .i64 ((J49 l0 ((J49 l0 0).f4)).f3), .int .i64 ((J49 l0 ((J49 l0 0).f4)).f4), .int .i64 ((J49 l0 ((J49 l0 0).f4)).f5)] 49 (0, 0)) (by refine skk ?_; refine blk_put (cs := #[.int .i64 ((J49 l0 ((J49 l0 0).f4)).f0), .int .i64 ((J49 l0 ((J49 l0 0).f4)).f1), .int .i64 ((J49 l0 ((J49 l0 0).f4)).f2), .int .i64 ((J49 l0 ((J49 l0 0).f4)).f3), .int .i64 ((J49 l0 ((J49 l0 0).f4)).f4), .int .i64 0]) ?_ 5 _ rfl; refine skk ?_; refine blk_put (cs := #[.int .i64 ((J49 l0 ((J49 l0 0).f4)).f0), .int .i64 ((J49 l0 ((J49 l0 0).f4)).f1), .int .i64 ((J49 l0 ((J49 l0 0).f4)).f2), .int .i64 ((J49 l0 ((J49 l0 0).f4)).f3), .int .i64 0, .int .i64 0]) ?_ 4 _ rfl; refine skk ?_; refine blk_put (cs := #[.int .i64 ((J49 l0 ((J49 l0 0).f4)).f0), .int .i64 ((J49 l0 ((J49 l0 0).f4)).f1), .int .i64 ((J49 l0 ((J49 l0 0).f4)).f2), .int .i64 0, .int .i64 0, .int .i64 0]) ?_ 3 _ rfl; refine skk ?_; refine blk_put (cs := #[.int .i64 ((J49 l0 ((J49 l0 0).f4)).f0), .int .i64 ((J49 l0 ((J49 l0 0).f4)).f1), .int .i64 0, .int .i64 0, .int .i64 0, .int .i64 0]) ?_ 2 _ rfl; refine skk ?_; refine blk_put (cs := #[.int .i64 ((J49 l0 ((J49 l0 0).f4)).f0), .int .i64 0, .int .i64 0, .int .i64 0, .int .i64 0, .int .i64 0]) ?_ 1 _ rfl; refine skk ?_; refine blk_put (cs := #[.int .i64 0, .int .i64 0, .int .i64 0, .int .i64 0, .int .i64 0, .int .i64 0]) ?_ 0 _ rfl; refine skk ?_; exact BK313.out) hb); have n2_ := asd (below_step (skG HB.out GE306.out GE313.out) hb); clear BK306; clear BK313; clear HB; have BK306 := n0_; have BK313 := n1_; have HB := n2_; clear n0_ n1_ n2_; (try clear hb); (try clear hb2); (try clear hk); (try clear hi); obtain ⟨hcz52_0, hcz52_1, hcz52_2, hcz52_3, hcz52_4, hcz52_5, hfz52_0, hfz52_1, hfz52_2, hfz52_3, hfz52_4, hfz52_5⟩ := bk6 BK313.out; have p315 : 0 ≤ (((J49 l0 ((J49 l0 0).f4)).f5) : Int) := dt; have q315 : ((J49 l0 ((J49 l0 0).f4)).f5) < (l0.length : Int) := dt; obtain ⟨ad315, e315, hx315_0, hx315_1, hx315_2, hx315_3, hx315_4, hx315_5⟩ := at_T49 HR0.out ((J49 l0 ((J49 l0 0).f4)).f5) p315 q315; obtain rfl : ad305 = ad315 := (by injection e315); replace hx315_0 := skc HB.out hx315_0; replace hx315_1 := skc HB.out hx315_1; replace hx315_2 := skc HB.out hx315_2; replace hx315_3 := skc HB.out hx315_3; replace hx315_4 := skc HB.out hx315_4; replace hx315_5 := skc HB.out hx315_5; replace p315 := eq_true p315; replace q315 := eq_true q315) | (go_at_call 54; (with_reducible refine (larchref17_sentinel.calls ((J49 l0 ((J49 l0 ((J49 l0 0).f4)).f5)).f0) ((J49 l0 ((J49 l0 ((J49 l0 0).f4)).f5)).f1) ((J49 l0 ((J49 l0 ((J49 l0 0).f4)).f5)).f2) ((J49 l0 ((J49 l0 ((J49 l0 0).f4)).f5)).f3) ((J49 l0 ((J49 l0 ((J49 l0 0).f4)).f5)).f4) ((J49 l0 ((J49 l0 ((J49 l0 0).f4)).f5)).f5) t316 _ A48.out).mono ?_); rintro e w53 ⟨rfl, hb⟩; have n0_ := asd (blk_below (g := gb306) (o := .cells #[.int .i64 ((J49 l0 0).f0), .int .i64 ((J49 l0 0).f1), .int .i64 ((J49 l0 0).f2), .int .i64 ((J49 l0 0).f3), .int .i64 ((J49 l0 0).f4), .int .i64 ((J49 l0 0).f5)] 49 (0, 0)) (skK BK306.out) hb); have n1_ := asd (blk_below (g := gb313) (o := .cells #[.int .i64 ((J49 l0 ((J49 l0 0).f4)).f0), .int .i64 ((J49 l0 ((J49 l0 0).f4)).f1), .int .i64 ((J49 l0 ((J49 l0 0).f4)).f2), .int .i64 ((J49 l0 ((J49 l0 0).f4)).f3), .int .i64 ((J49 l0 ((J49 l0 0).f4)).f4), .int .i64 ((J49 l0 ((J49 l0 0).f4)).f5)] 49 (0, 0)) (skK BK313.out) hb); have n2_ := asd (below_step (skG HB.out GE306.out GE313.out) hb); clear BK306; clear BK313; clear HB; have BK306 := n0_; have BK313 := n1_; have HB := n2_; clear n0_ n1_ n2_; (try clear hb); (try clear hb2); (try clear hk); (try clear hi)))
              go_meet
              case rel => exact ⟨_, (!t316), rs, H', ⟨by have := HJ2.out; first | omega | exact Nat.le_refl _⟩, ⟨skK BK306.out⟩, ⟨skK BK313.out⟩, ⟨skG HB.out GE306.out GE313.out⟩⟩
             ·
              rw [if_neg c47] at H
              exact absurd H (by simp)
            ·
             rw [if_neg c46] at H
             exact absurd H (by simp)
           ·
            rw [if_neg c45] at H
            have c45b0 : (((J49 l0 ((J49 l0 0).f4)).f2) == 1) = false := beq_eq_false_iff_ne.mpr c45
            have c45b1 : (((J49 l0 ((J49 l0 0).f4)).f2) != 1) = true := bne_iff_ne.mpr c45
            have H' := asd H
            clear H
            have hnb54 := NB313_306.out
            have hnc54 := NB306_313.out
            obtain ⟨hcz55_0, hcz55_1, hcz55_2, hcz55_3, hcz55_4, hcz55_5, hfz55_0, hfz55_1, hfz55_2, hfz55_3, hfz55_4, hfz55_5⟩ := bk6 BK313.out
            go_wp2_with (first | ((with_reducible refine gate_callee (f := 53) rfl ?_); refine goesL_ (some 44) rfl rfl Try.func53 (by kernel_rfl) rfl #[.agg #[.int .i64 ((J49 l0 ((J49 l0 0).f4)).f0), .int .i64 ((J49 l0 ((J49 l0 0).f4)).f1), .int .i64 ((J49 l0 ((J49 l0 0).f4)).f2), .int .i64 ((J49 l0 ((J49 l0 0).f4)).f3), .int .i64 ((J49 l0 ((J49 l0 0).f4)).f4), .int .i64 ((J49 l0 ((J49 l0 0).f4)).f5)]] rfl ags ?_; (with_reducible refine (larchref17_leaf.calls ((J49 l0 ((J49 l0 0).f4)).f0) ((J49 l0 ((J49 l0 0).f4)).f1) ((J49 l0 ((J49 l0 0).f4)).f2) ((J49 l0 ((J49 l0 0).f4)).f3) ((J49 l0 ((J49 l0 0).f4)).f4) ((J49 l0 ((J49 l0 0).f4)).f5) false _ A39.out).mono ?_); rintro e w56 ⟨rfl, hb⟩; refine ⟨_, rfl, ?_⟩; have n0_ := asd (blk_below (g := gb306) (o := .cells #[.int .i64 ((J49 l0 0).f0), .int .i64 ((J49 l0 0).f1), .int .i64 ((J49 l0 0).f2), .int .i64 ((J49 l0 0).f3), .int .i64 ((J49 l0 0).f4), .int .i64 ((J49 l0 0).f5)] 49 (0, 0)) (by refine skk ?_; refine blk_far ?_ NB306_313.out _; refine skk ?_; refine blk_far ?_ NB306_313.out _; refine skk ?_; refine blk_far ?_ NB306_313.out _; refine skk ?_; refine blk_far ?_ NB306_313.out _; refine skk ?_; refine blk_far ?_ NB306_313.out _; refine skk ?_; refine blk_far ?_ NB306_313.out _; refine skk ?_; exact BK306.out) hb); have n1_ := asd (blk_below (g := gb313) (o := .cells #[.int .i64 ((J49 l0 ((J49 l0 0).f4)).f0), .int .i64 ((J49 l0 ((J49 l0 0).f4)).f1), .int .i64 ((J49 l0 ((J49 l0 0).f4)).f2), .int .i64 ((J49 l0 ((J49 l0 0).f4)).f3), .int .i64 ((J49 l0 ((J49 l0 0).f4)).f4), .int .i64 ((J49 l0 ((J49 l0 0).f4)).f5)] 49 (0, 0)) (by refine skk ?_; refine blk_put (cs := #[.int .i64 ((J49 l0 ((J49 l0 0).f4)).f0), .int .i64 ((J49 l0 ((J49 l0 0).f4)).f1), .int .i64 ((J49 l0 ((J49 l0 0).f4)).f2), .int .i64 ((J49 l0 ((J49 l0 0).f4)).f3), .int .i64 ((J49 l0 ((J49 l0 0).f4)).f4), .int .i64 0]) ?_ 5 _ rfl; refine skk ?_; refine blk_put (cs := #[.int .i64 ((J49 l0 ((J49 l0 0).f4)).f0), .int .i64 ((J49 l0 ((J49 l0 0).f4)).f1), .int .i64 ((J49 l0 ((J49 l0 0).f4)).f2), .int .i64 ((J49 l0 ((J49 l0 0).f4)).f3), .int .i64 0, .int .i64 0]) ?_ 4 _ rfl; refine skk ?_; refine blk_put (cs := #[.int .i64 ((J49 l0 ((J49 l0 0).f4)).f0), .int .i64 ((J49 l0 ((J49 l0 0).f4)).f1), .int .i64 ((J49 l0 ((J49 l0 0).f4)).f2), .int .i64 0, .int .i64 0, .int .i64 0]) ?_ 3 _ rfl; refine skk ?_; refine blk_put (cs := #[.int .i64 ((J49 l0 ((J49 l0 0).f4)).f0), .int .i64 ((J49 l0 ((J49 l0 0).f4)).f1), .int .i64 0, .int .i64 0, .int .i64 0, .int .i64 0]) ?_ 2 _ rfl; refine skk ?_; refine blk_put (cs := #[.int .i64 ((J49 l0 ((J49 l0 0).f4)).f0), .int .i64 0, .int .i64 0, .int .i64 0, .int .i64 0, .int .i64 0]) ?_ 1 _ rfl; refine skk ?_; refine blk_put (cs := #[.int .i64 0, .int .i64 0, .int .i64 0, .int .i64 0, .int .i64 0, .int .i64 0]) ?_ 0 _ rfl; refine skk ?_; exact BK313.out) hb); have n2_ := asd (below_step (skG HB.out GE306.out GE313.out) hb); clear BK306; clear BK313; clear HB; have BK306 := n0_; have BK313 := n1_; have HB := n2_; clear n0_ n1_ n2_; (try clear hb); (try clear hb2); (try clear hk); (try clear hi); obtain ⟨hcz57_0, hcz57_1, hcz57_2, hcz57_3, hcz57_4, hcz57_5, hfz57_0, hfz57_1, hfz57_2, hfz57_3, hfz57_4, hfz57_5⟩ := bk6 BK313.out))
            go_meet
            case rel => exact ⟨_, (true), rs, H', ⟨by have := HJ2.out; first | omega | exact Nat.le_refl _⟩, ⟨skK BK306.out⟩, ⟨skK BK313.out⟩, ⟨skG HB.out GE306.out GE313.out⟩⟩
          ·
           rw [if_neg c44] at H
           have c44b0 : (((J49 l0 ((J49 l0 0).f4)).f1) == 1) = false := beq_eq_false_iff_ne.mpr c44
           have c44b1 : (((J49 l0 ((J49 l0 0).f4)).f1) != 1) = true := bne_iff_ne.mpr c44
           (first | rw [c44b0] | (simp only [i64_w, i32_w]; rw [c44b0]) | skip)
           have H' := asd H
           clear H
           have hnb58 := NB313_306.out
           have hnc58 := NB306_313.out
           obtain ⟨hcz59_0, hcz59_1, hcz59_2, hcz59_3, hcz59_4, hcz59_5, hfz59_0, hfz59_1, hfz59_2, hfz59_3, hfz59_4, hfz59_5⟩ := bk6 BK313.out
           go_wp2_with (first | ((with_reducible refine gate_callee (f := 53) rfl ?_); refine goesL_ (some 44) rfl rfl Try.func53 (by kernel_rfl) rfl #[.agg #[.int .i64 ((J49 l0 ((J49 l0 0).f4)).f0), .int .i64 ((J49 l0 ((J49 l0 0).f4)).f1), .int .i64 ((J49 l0 ((J49 l0 0).f4)).f2), .int .i64 ((J49 l0 ((J49 l0 0).f4)).f3), .int .i64 ((J49 l0 ((J49 l0 0).f4)).f4), .int .i64 ((J49 l0 ((J49 l0 0).f4)).f5)]] rfl ags ?_; (with_reducible refine (larchref17_leaf.calls ((J49 l0 ((J49 l0 0).f4)).f0) ((J49 l0 ((J49 l0 0).f4)).f1) ((J49 l0 ((J49 l0 0).f4)).f2) ((J49 l0 ((J49 l0 0).f4)).f3) ((J49 l0 ((J49 l0 0).f4)).f4) ((J49 l0 ((J49 l0 0).f4)).f5) false _ A39.out).mono ?_); rintro e w60 ⟨rfl, hb⟩; refine ⟨_, rfl, ?_⟩; have n0_ := asd (blk_below (g := gb306) (o := .cells #[.int .i64 ((J49 l0 0).f0), .int .i64 ((J49 l0 0).f1), .int .i64 ((J49 l0 0).f2), .int .i64 ((J49 l0 0).f3), .int .i64 ((J49 l0 0).f4), .int .i64 ((J49 l0 0).f5)] 49 (0, 0)) (by refine skk ?_; refine blk_far ?_ NB306_313.out _; refine skk ?_; refine blk_far ?_ NB306_313.out _; refine skk ?_; refine blk_far ?_ NB306_313.out _; refine skk ?_; refine blk_far ?_ NB306_313.out _; refine skk ?_; refine blk_far ?_ NB306_313.out _; refine skk ?_; refine blk_far ?_ NB306_313.out _; refine skk ?_; exact BK306.out) hb); have n1_ := asd (blk_below (g := gb313) (o := .cells #[.int .i64 ((J49 l0 ((J49 l0 0).f4)).f0), .int .i64 ((J49 l0 ((J49 l0 0).f4)).f1), .int .i64 ((J49 l0 ((J49 l0 0).f4)).f2), .int .i64 ((J49 l0 ((J49 l0 0).f4)).f3), .int .i64 ((J49 l0 ((J49 l0 0).f4)).f4), .int .i64 ((J49 l0 ((J49 l0 0).f4)).f5)] 49 (0, 0)) (by refine skk ?_; refine blk_put (cs := #[.int .i64 ((J49 l0 ((J49 l0 0).f4)).f0), .int .i64 ((J49 l0 ((J49 l0 0).f4)).f1), .int .i64 ((J49 l0 ((J49 l0 0).f4)).f2), .int .i64 ((J49 l0 ((J49 l0 0).f4)).f3), .int .i64 ((J49 l0 ((J49 l0 0).f4)).f4), .int .i64 0]) ?_ 5 _ rfl; refine skk ?_; refine blk_put (cs := #[.int .i64 ((J49 l0 ((J49 l0 0).f4)).f0), .int .i64 ((J49 l0 ((J49 l0 0).f4)).f1), .int .i64 ((J49 l0 ((J49 l0 0).f4)).f2), .int .i64 ((J49 l0 ((J49 l0 0).f4)).f3), .int .i64 0, .int .i64 0]) ?_ 4 _ rfl; refine skk ?_; refine blk_put (cs := #[.int .i64 ((J49 l0 ((J49 l0 0).f4)).f0), .int .i64 ((J49 l0 ((J49 l0 0).f4)).f1), .int .i64 ((J49 l0 ((J49 l0 0).f4)).f2), .int .i64 0, .int .i64 0, .int .i64 0]) ?_ 3 _ rfl; refine skk ?_; refine blk_put (cs := #[.int .i64 ((J49 l0 ((J49 l0 0).f4)).f0), .int .i64 ((J49 l0 ((J49 l0 0).f4)).f1), .int .i64 0, .int .i64 0, .int .i64 0, .int .i64 0]) ?_ 2 _ rfl; refine skk ?_; refine blk_put (cs := #[.int .i64 ((J49 l0 ((J49 l0 0).f4)).f0), .int .i64 0, .int .i64 0, .int .i64 0, .int .i64 0, .int .i64 0]) ?_ 1 _ rfl; refine skk ?_; refine blk_put (cs := #[.int .i64 0, .int .i64 0, .int .i64 0, .int .i64 0, .int .i64 0, .int .i64 0]) ?_ 0 _ rfl; refine skk ?_; exact BK313.out) hb); have n2_ := asd (below_step (skG HB.out GE306.out GE313.out) hb); clear BK306; clear BK313; clear HB; have BK306 := n0_; have BK313 := n1_; have HB := n2_; clear n0_ n1_ n2_; (try clear hb); (try clear hb2); (try clear hk); (try clear hi); obtain ⟨hcz61_0, hcz61_1, hcz61_2, hcz61_3, hcz61_4, hcz61_5, hfz61_0, hfz61_1, hfz61_2, hfz61_3, hfz61_4, hfz61_5⟩ := bk6 BK313.out))
           go_meet
           case rel => exact ⟨_, (true), rs, H', ⟨by have := HJ2.out; first | omega | exact Nat.le_refl _⟩, ⟨skK BK306.out⟩, ⟨skK BK313.out⟩, ⟨skG HB.out GE306.out GE313.out⟩⟩
        case rest =>
         clear HC32
         try clear c1
         try clear c2
         try clear c2b0
         try clear c2b1
         try clear p2
         try clear c3
         try clear p3
         try clear q3
         try clear hx3
         try clear qi3
         try clear c4
         try clear c5
         try clear c7
         try clear c10
         try clear c10b0
         try clear c10b1
         try clear c11
         try clear c11b0
         try clear c11b1
         try clear c12
         try clear c12b0
         try clear c13
         try clear c13b0
         try clear c25
         try clear c26
         try clear c26b0
         try clear c27
         try clear c27b0
         try clear c29
         try clear p30
         try clear q30
         try clear hx30
         try clear qi30
         try clear p31
         try clear q31
         try clear hx31
         try clear c37
         try clear c40
         try clear c41
         try clear c44
         try clear c44b0
         try clear c44b1
         try clear c45
         try clear c45b0
         try clear c45b1
         try clear c46
         try clear c46b0
         try clear c47
         try clear c47b0
         try clear c49
         try clear c53
         try clear c54
         try clear c58
         try clear hcz15_0
         try clear hcz15_1
         try clear hcz15_2
         try clear hcz15_3
         try clear hcz15_4
         try clear hcz15_5
         try clear hcz17_0
         try clear hcz17_1
         try clear hcz17_2
         try clear hcz17_3
         try clear hcz17_4
         try clear hcz17_5
         try clear hcz19_0
         try clear hcz19_1
         try clear hcz19_2
         try clear hcz19_3
         try clear hcz19_4
         try clear hcz19_5
         try clear hcz21_0
         try clear hcz21_1
         try clear hcz21_2
         try clear hcz21_3
         try clear hcz21_4
         try clear hcz21_5
         try clear hcz22_0
         try clear hcz22_1
         try clear hcz22_2
         try clear hcz22_3
         try clear hcz22_4
         try clear hcz22_5
         try clear hcz24_0
         try clear hcz24_1
         try clear hcz24_2
         try clear hcz24_3
         try clear hcz24_4
         try clear hcz24_5
         try clear hcz30_0
         try clear hcz30_1
         try clear hcz30_2
         try clear hcz30_3
         try clear hcz30_4
         try clear hcz30_5
         try clear hcz33_0
         try clear hcz33_1
         try clear hcz33_2
         try clear hcz33_3
         try clear hcz33_4
         try clear hcz33_5
         try clear hcz35_0
         try clear hcz35_1
         try clear hcz35_2
         try clear hcz35_3
         try clear hcz35_4
         try clear hcz35_5
         try clear hcz38_0
         try clear hcz38_1
         try clear hcz38_2
         try clear hcz38_3
         try clear hcz38_4
         try clear hcz38_5
         try clear hcz42_0
         try clear hcz42_1
         try clear hcz42_2
         try clear hcz42_3
         try clear hcz42_4
         try clear hcz42_5
         try clear hcz50_0
         try clear hcz50_1
         try clear hcz50_2
         try clear hcz50_3
         try clear hcz50_4
         try clear hcz50_5
         try clear hcz52_0
         try clear hcz52_1
         try clear hcz52_2
         try clear hcz52_3
         try clear hcz52_4
         try clear hcz52_5
         try clear hcz55_0
         try clear hcz55_1
         try clear hcz55_2
         try clear hcz55_3
         try clear hcz55_4
         try clear hcz55_5
         try clear hcz57_0
         try clear hcz57_1
         try clear hcz57_2
         try clear hcz57_3
         try clear hcz57_4
         try clear hcz57_5
         try clear hcz59_0
         try clear hcz59_1
         try clear hcz59_2
         try clear hcz59_3
         try clear hcz59_4
         try clear hcz59_5
         try clear hcz5_0
         try clear hcz5_1
         try clear hcz5_2
         try clear hcz5_3
         try clear hcz5_4
         try clear hcz5_5
         try clear hcz61_0
         try clear hcz61_1
         try clear hcz61_2
         try clear hcz61_3
         try clear hcz61_4
         try clear hcz61_5
         try clear hcz8_0
         try clear hcz8_1
         try clear hcz8_2
         try clear hcz8_3
         try clear hcz8_4
         try clear hcz8_5
         try clear hfz15_0
         try clear hfz15_1
         try clear hfz15_2
         try clear hfz15_3
         try clear hfz15_4
         try clear hfz15_5
         try clear hfz17_0
         try clear hfz17_1
         try clear hfz17_2
         try clear hfz17_3
         try clear hfz17_4
         try clear hfz17_5
         try clear hfz19_0
         try clear hfz19_1
         try clear hfz19_2
         try clear hfz19_3
         try clear hfz19_4
         try clear hfz19_5
         try clear hfz21_0
         try clear hfz21_1
         try clear hfz21_2
         try clear hfz21_3
         try clear hfz21_4
         try clear hfz21_5
         try clear hfz22_0
         try clear hfz22_1
         try clear hfz22_2
         try clear hfz22_3
         try clear hfz22_4
         try clear hfz22_5
         try clear hfz24_0
         try clear hfz24_1
         try clear hfz24_2
         try clear hfz24_3
         try clear hfz24_4
         try clear hfz24_5
         try clear hfz30_0
         try clear hfz30_1
         try clear hfz30_2
         try clear hfz30_3
         try clear hfz30_4
         try clear hfz30_5
         try clear hfz33_0
         try clear hfz33_1
         try clear hfz33_2
         try clear hfz33_3
         try clear hfz33_4
         try clear hfz33_5
         try clear hfz35_0
         try clear hfz35_1
         try clear hfz35_2
         try clear hfz35_3
         try clear hfz35_4
         try clear hfz35_5
         try clear hfz38_0
         try clear hfz38_1
         try clear hfz38_2
         try clear hfz38_3
         try clear hfz38_4
         try clear hfz38_5
         try clear hfz42_0
         try clear hfz42_1
         try clear hfz42_2
         try clear hfz42_3
         try clear hfz42_4
         try clear hfz42_5
         try clear hfz50_0
         try clear hfz50_1
         try clear hfz50_2
         try clear hfz50_3
         try clear hfz50_4
         try clear hfz50_5
         try clear hfz52_0
         try clear hfz52_1
         try clear hfz52_2
         try clear hfz52_3
         try clear hfz52_4
         try clear hfz52_5
         try clear hfz55_0
         try clear hfz55_1
         try clear hfz55_2
         try clear hfz55_3
         try clear hfz55_4
         try clear hfz55_5
         try clear hfz57_0
         try clear hfz57_1
         try clear hfz57_2
         try clear hfz57_3
         try clear hfz57_4
         try clear hfz57_5
         try clear hfz59_0
         try clear hfz59_1
         try clear hfz59_2
         try clear hfz59_3
         try clear hfz59_4
         try clear hfz59_5
         try clear hfz5_0
         try clear hfz5_1
         try clear hfz5_2
         try clear hfz5_3
         try clear hfz5_4
         try clear hfz5_5
         try clear hfz61_0
         try clear hfz61_1
         try clear hfz61_2
         try clear hfz61_3
         try clear hfz61_4
         try clear hfz61_5
         try clear hfz8_0
         try clear hfz8_1
         try clear hfz8_2
         try clear hfz8_3
         try clear hfz8_4
         try clear hfz8_5
         try clear hx305_0
         try clear hx305_1
         try clear hx305_2
         try clear hx305_3
         try clear hx305_4
         try clear hx305_5
         try clear hx308_0
         try clear hx308_1
         try clear hx308_2
         try clear hx308_3
         try clear hx308_4
         try clear hx308_5
         try clear hx310_0
         try clear hx310_1
         try clear hx310_2
         try clear hx310_3
         try clear hx310_4
         try clear hx310_5
         try clear hx312_0
         try clear hx312_1
         try clear hx312_2
         try clear hx312_3
         try clear hx312_4
         try clear hx312_5
         try clear hx315_0
         try clear hx315_1
         try clear hx315_2
         try clear hx315_3
         try clear hx315_4
         try clear hx315_5
         try clear p2
         try clear p3
         try clear p305
         try clear p308
         try clear p310
         try clear p312
         try clear p315
         try clear q3
         try clear q305
         try clear q308
         try clear q310
         try clear q312
         try clear q315
         obtain ⟨kq, x63_31, rfl, HA, HJ31, BK306, BK313, HB⟩ := hcut
         cases kq with
         | zero => exact absurd HA.out (by simp [larchref17_Root.j1])
         | succ kj31 =>
          have H := HA.out
          clear HA
          simp only [larchref17_Root.j1] at H
          by_cases c62 : x63_31 = true
          ·
           subst c62
           have H1 : (some ((-1), false)) = some (r1, r2) := by rw [if_pos rfl] at H; exact H
           clear H
           have H := H1
           clear H1
           simp only [Option.some.injEq, Prod.mk.injEq] at H
           obtain ⟨rfl, rfl⟩ := H
           go_wp2
           go_ret2
           exact ⟨re, skG HB.out GE306.out GE313.out⟩
          ·
           replace c62 := Bool.eq_false_iff.mpr c62
           subst c62
           have H1 : ((larchref17_Order.f kj31 l0 ((J49 l0 ((J49 l0 0).f4)).f4)).bind fun t317 => (larchref17_Root.l0 kj31 l0 t317 0 ((J49 l0 ((J49 l0 0).f4)).f0) ((J49 l0 ((J49 l0 0).f4)).f1) ((J49 l0 ((J49 l0 0).f4)).f2) ((J49 l0 ((J49 l0 0).f4)).f3) ((J49 l0 ((J49 l0 0).f4)).f4) ((J49 l0 ((J49 l0 0).f4)).f5))) = some (r1, r2) := by rw [if_neg (show ¬ (false = true) by decide)] at H; exact H
           clear H
           have H := H1
           clear H1
           replace H := Option.bind_eq_some_iff.mp H
           obtain ⟨t317, A630, H⟩ := H
           replace H : (larchref17_Root.l0 kj31 l0 t317 0 ((J49 l0 ((J49 l0 0).f4)).f0) ((J49 l0 ((J49 l0 0).f4)).f1) ((J49 l0 ((J49 l0 0).f4)).f2) ((J49 l0 ((J49 l0 0).f4)).f3) ((J49 l0 ((J49 l0 0).f4)).f4) ((J49 l0 ((J49 l0 0).f4)).f5)) = some (r1, r2) := H
           have A63 := asd A630
           clear A630
           have H' := asd H
           clear H
           have hnb64 := NB313_306.out
           have hnc64 := NB306_313.out
           obtain ⟨hcz65_0, hcz65_1, hcz65_2, hcz65_3, hcz65_4, hcz65_5, hfz65_0, hfz65_1, hfz65_2, hfz65_3, hfz65_4, hfz65_5⟩ := bk6 BK313.out
           go_wp2_with (first | ((with_reducible refine gate_callee (f := 27) rfl ?_); refine goesL_ (some 67) rfl rfl Try.func27 (by kernel_rfl) rfl #[.slice (some ad305) l0.length c0, .int .i64 ((J49 l0 ((J49 l0 0).f4)).f4)] rfl ags ?_; (with_reducible refine (larchref17_Order.calls kj31 _ _ l0 ((J49 l0 ((J49 l0 0).f4)).f4) t317 _ ?side1 ?side2 A63.out).mono ?_); (case side1 => exact skC (Kd.C_below HR0.out HB.out)); (case side2 => exact HC0.out); rintro e w66 ⟨v318, rfl, ho0, hb⟩; refine ⟨_, rfl, ?_⟩; have n0_ := asd (Kd.R_lower ho0 (below_size (skG HB.out GE306.out GE313.out))); have n1_ := asd (blk_below (g := gb306) (o := .cells #[.int .i64 ((J49 l0 0).f0), .int .i64 ((J49 l0 0).f1), .int .i64 ((J49 l0 0).f2), .int .i64 ((J49 l0 0).f3), .int .i64 ((J49 l0 0).f4), .int .i64 ((J49 l0 0).f5)] 49 (0, 0)) (skK BK306.out) hb); have n2_ := asd (blk_below (g := gb313) (o := .cells #[.int .i64 ((J49 l0 ((J49 l0 0).f4)).f0), .int .i64 ((J49 l0 ((J49 l0 0).f4)).f1), .int .i64 ((J49 l0 ((J49 l0 0).f4)).f2), .int .i64 ((J49 l0 ((J49 l0 0).f4)).f3), .int .i64 ((J49 l0 ((J49 l0 0).f4)).f4), .int .i64 ((J49 l0 ((J49 l0 0).f4)).f5)] 49 (0, 0)) (skK BK313.out) hb); have n3_ := asd (below_step (skG HB.out GE306.out GE313.out) hb); clear BK306; clear BK313; clear HB; have HO319 := n0_; have BK306 := n1_; have BK313 := n2_; have HB := n3_; clear n0_ n1_ n2_ n3_; (try clear hb); (try clear hb2); (try clear hk); (try clear hi); (try clear ho0)))
           go_loopg [7] kj31 (fun kq v7 w' => ∃ (x7_3 : Int), v7 = .int .i64 x7_3 ∧ Aside0 (larchref17_Root.l0 kq l0 t317 x7_3 ((J49 l0 ((J49 l0 0).f4)).f0) ((J49 l0 ((J49 l0 0).f4)).f1) ((J49 l0 ((J49 l0 0).f4)).f2) ((J49 l0 ((J49 l0 0).f4)).f3) ((J49 l0 ((J49 l0 0).f4)).f4) ((J49 l0 ((J49 l0 0).f4)).f5) = some (r1, r2)) ∧ Aside0 (kq ≤ kj31) ∧ Aside0 (Kd.R (Kd.int .i64) 3 w' w.heap.size (fun _ => True) v318 t317) ∧ Aside0 (w'.heap[gb306]? = some (.cells #[.int .i64 ((J49 l0 0).f0), .int .i64 ((J49 l0 0).f1), .int .i64 ((J49 l0 0).f2), .int .i64 ((J49 l0 0).f3), .int .i64 ((J49 l0 0).f4), .int .i64 ((J49 l0 0).f5)] 49 (0, 0))) ∧ Aside0 (w'.heap[gb313]? = some (.cells #[.int .i64 ((J49 l0 ((J49 l0 0).f4)).f0), .int .i64 ((J49 l0 ((J49 l0 0).f4)).f1), .int .i64 ((J49 l0 ((J49 l0 0).f4)).f2), .int .i64 ((J49 l0 ((J49 l0 0).f4)).f3), .int .i64 ((J49 l0 ((J49 l0 0).f4)).f4), .int .i64 ((J49 l0 ((J49 l0 0).f4)).f5)] 49 (0, 0))) ∧ Aside0 (Below w.heap.size w w'))
           case atStart => exact ⟨(0), rs, H', ⟨Nat.le_refl _⟩, ⟨skR HO319.out⟩, ⟨skK BK306.out⟩, ⟨skK BK313.out⟩, ⟨skG HB.out GE306.out GE313.out⟩⟩
           case round =>
            clear H'
            try clear c1
            try clear c2
            try clear c2b0
            try clear c2b1
            try clear p2
            try clear c3
            try clear p3
            try clear q3
            try clear hx3
            try clear qi3
            try clear c4
            try clear c5
            try clear c6
            try clear c7
            try clear c10
            try clear c10b0
            try clear c10b1
            try clear c11
            try clear c11b0
            try clear c11b1
            try clear c12
            try clear c12b0
            try clear c13
            try clear c13b0
            try clear c25
            try clear c26
            try clear c26b0
            try clear c27
            try clear c27b0
            try clear c29
            try clear p30
            try clear q30
            try clear hx30
            try clear qi30
            try clear p31
            try clear q31
            try clear hx31
            try clear c37
            try clear c40
            try clear c41
            try clear c44
            try clear c44b0
            try clear c44b1
            try clear c45
            try clear c45b0
            try clear c45b1
            try clear c46
            try clear c46b0
            try clear c47
            try clear c47b0
            try clear c49
            try clear c53
            try clear c54
            try clear c58
            try clear c62
            try clear c64
            try clear hcz15_0
            try clear hcz15_1
            try clear hcz15_2
            try clear hcz15_3
            try clear hcz15_4
            try clear hcz15_5
            try clear hcz17_0
            try clear hcz17_1
            try clear hcz17_2
            try clear hcz17_3
            try clear hcz17_4
            try clear hcz17_5
            try clear hcz19_0
            try clear hcz19_1
            try clear hcz19_2
            try clear hcz19_3
            try clear hcz19_4
            try clear hcz19_5
            try clear hcz21_0
            try clear hcz21_1
            try clear hcz21_2
            try clear hcz21_3
            try clear hcz21_4
            try clear hcz21_5
            try clear hcz22_0
            try clear hcz22_1
            try clear hcz22_2
            try clear hcz22_3
            try clear hcz22_4
            try clear hcz22_5
            try clear hcz24_0
            try clear hcz24_1
            try clear hcz24_2
            try clear hcz24_3
            try clear hcz24_4
            try clear hcz24_5
            try clear hcz30_0
            try clear hcz30_1
            try clear hcz30_2
            try clear hcz30_3
            try clear hcz30_4
            try clear hcz30_5
            try clear hcz33_0
            try clear hcz33_1
            try clear hcz33_2
            try clear hcz33_3
            try clear hcz33_4
            try clear hcz33_5
            try clear hcz35_0
            try clear hcz35_1
            try clear hcz35_2
            try clear hcz35_3
            try clear hcz35_4
            try clear hcz35_5
            try clear hcz38_0
            try clear hcz38_1
            try clear hcz38_2
            try clear hcz38_3
            try clear hcz38_4
            try clear hcz38_5
            try clear hcz42_0
            try clear hcz42_1
            try clear hcz42_2
            try clear hcz42_3
            try clear hcz42_4
            try clear hcz42_5
            try clear hcz50_0
            try clear hcz50_1
            try clear hcz50_2
            try clear hcz50_3
            try clear hcz50_4
            try clear hcz50_5
            try clear hcz52_0
            try clear hcz52_1
            try clear hcz52_2
            try clear hcz52_3
            try clear hcz52_4
            try clear hcz52_5
            try clear hcz55_0
            try clear hcz55_1
            try clear hcz55_2
            try clear hcz55_3
            try clear hcz55_4
            try clear hcz55_5
            try clear hcz57_0
            try clear hcz57_1
            try clear hcz57_2
            try clear hcz57_3
            try clear hcz57_4
            try clear hcz57_5
            try clear hcz59_0
            try clear hcz59_1
            try clear hcz59_2
            try clear hcz59_3
            try clear hcz59_4
            try clear hcz59_5
            try clear hcz5_0
            try clear hcz5_1
            try clear hcz5_2
            try clear hcz5_3
            try clear hcz5_4
            try clear hcz5_5
            try clear hcz61_0
            try clear hcz61_1
            try clear hcz61_2
            try clear hcz61_3
            try clear hcz61_4
            try clear hcz61_5
            try clear hcz65_0
            try clear hcz65_1
            try clear hcz65_2
            try clear hcz65_3
            try clear hcz65_4
            try clear hcz65_5
            try clear hcz8_0
            try clear hcz8_1
            try clear hcz8_2
            try clear hcz8_3
            try clear hcz8_4
            try clear hcz8_5
            try clear hfz15_0
            try clear hfz15_1
            try clear hfz15_2
            try clear hfz15_3
            try clear hfz15_4
            try clear hfz15_5
            try clear hfz17_0
            try clear hfz17_1
            try clear hfz17_2
            try clear hfz17_3
            try clear hfz17_4
            try clear hfz17_5
            try clear hfz19_0
            try clear hfz19_1
            try clear hfz19_2
            try clear hfz19_3
            try clear hfz19_4
            try clear hfz19_5
            try clear hfz21_0
            try clear hfz21_1
            try clear hfz21_2
            try clear hfz21_3
            try clear hfz21_4
            try clear hfz21_5
            try clear hfz22_0
            try clear hfz22_1
            try clear hfz22_2
            try clear hfz22_3
            try clear hfz22_4
            try clear hfz22_5
            try clear hfz24_0
            try clear hfz24_1
            try clear hfz24_2
            try clear hfz24_3
            try clear hfz24_4
            try clear hfz24_5
            try clear hfz30_0
            try clear hfz30_1
            try clear hfz30_2
            try clear hfz30_3
            try clear hfz30_4
            try clear hfz30_5
            try clear hfz33_0
            try clear hfz33_1
            try clear hfz33_2
            try clear hfz33_3
            try clear hfz33_4
            try clear hfz33_5
            try clear hfz35_0
            try clear hfz35_1
            try clear hfz35_2
            try clear hfz35_3
            try clear hfz35_4
            try clear hfz35_5
            try clear hfz38_0
            try clear hfz38_1
            try clear hfz38_2
            try clear hfz38_3
            try clear hfz38_4
            try clear hfz38_5
            try clear hfz42_0
            try clear hfz42_1
            try clear hfz42_2
            try clear hfz42_3
            try clear hfz42_4
            try clear hfz42_5
            try clear hfz50_0
            try clear hfz50_1
            try clear hfz50_2
            try clear hfz50_3
            try clear hfz50_4
            try clear hfz50_5
            try clear hfz52_0
            try clear hfz52_1
            try clear hfz52_2
            try clear hfz52_3
            try clear hfz52_4
            try clear hfz52_5
            try clear hfz55_0
            try clear hfz55_1
            try clear hfz55_2
            try clear hfz55_3
            try clear hfz55_4
            try clear hfz55_5
            try clear hfz57_0
            try clear hfz57_1
            try clear hfz57_2
            try clear hfz57_3
            try clear hfz57_4
            try clear hfz57_5
            try clear hfz59_0
            try clear hfz59_1
            try clear hfz59_2
            try clear hfz59_3
            try clear hfz59_4
            try clear hfz59_5
            try clear hfz5_0
            try clear hfz5_1
            try clear hfz5_2
            try clear hfz5_3
            try clear hfz5_4
            try clear hfz5_5
            try clear hfz61_0
            try clear hfz61_1
            try clear hfz61_2
            try clear hfz61_3
            try clear hfz61_4
            try clear hfz61_5
            try clear hfz65_0
            try clear hfz65_1
            try clear hfz65_2
            try clear hfz65_3
            try clear hfz65_4
            try clear hfz65_5
            try clear hfz8_0
            try clear hfz8_1
            try clear hfz8_2
            try clear hfz8_3
            try clear hfz8_4
            try clear hfz8_5
            try clear hx305_0
            try clear hx305_1
            try clear hx305_2
            try clear hx305_3
            try clear hx305_4
            try clear hx305_5
            try clear hx308_0
            try clear hx308_1
            try clear hx308_2
            try clear hx308_3
            try clear hx308_4
            try clear hx308_5
            try clear hx310_0
            try clear hx310_1
            try clear hx310_2
            try clear hx310_3
            try clear hx310_4
            try clear hx310_5
            try clear hx312_0
            try clear hx312_1
            try clear hx312_2
            try clear hx312_3
            try clear hx312_4
            try clear hx312_5
            try clear hx315_0
            try clear hx315_1
            try clear hx315_2
            try clear hx315_3
            try clear hx315_4
            try clear hx315_5
            try clear p2
            try clear p3
            try clear p30
            try clear p305
            try clear p308
            try clear p31
            try clear p310
            try clear p312
            try clear p315
            try clear q3
            try clear q30
            try clear q305
            try clear q308
            try clear q31
            try clear q310
            try clear q312
            try clear q315
            obtain ⟨x7_3, rfl, HA, HK3, HO_6, BK306, BK313, HB⟩ := hrel
            cases gk with
            | zero => exact absurd HA.out (by simp [larchref17_Root.l0])
            | succ k3 =>
             have H := HA.out
             clear HA
             simp only [larchref17_Root.l0] at H
             by_cases c67 : x7_3 < (t317.length : Int)
             ·
              rw [if_pos c67] at H
              have c67b0 : decide (x7_3 < (t317.length : Int)) = true := decide_eq_true c67
              clear c67
              by_cases c68 : 0 ≤ x7_3
              ·
               rw [if_pos c68] at H
               have c68b0 : decide (0 ≤ x7_3) = true := decide_eq_true c68
               clear c68
               by_cases c69 : 0 ≤ (rd t317 x7_3)
               ·
                rw [if_pos c69] at H
                have c69b0 : decide (0 ≤ (rd t317 x7_3)) = true := decide_eq_true c69
                clear c69
                by_cases c70 : (rd t317 x7_3) < (l0.length : Int)
                ·
                 rw [if_pos c70] at H
                 have c70b0 : decide ((rd t317 x7_3) < (l0.length : Int)) = true := decide_eq_true c70
                 clear c70
                 by_cases c71 : ((J49 l0 (rd t317 x7_3)).f1) = 0
                 ·
                  rw [if_pos c71] at H
                  have c71b0 : (((J49 l0 (rd t317 x7_3)).f1) == 0) = true := beq_iff_eq.mpr c71
                  have c71b1 : (((J49 l0 (rd t317 x7_3)).f1) != 0) = false := bne_eq_false_iff_eq.mpr c71
                  clear c71
                  have H' := asd H
                  clear H
                  obtain ⟨Ao72, co72, eo72⟩ := Kd.R_slice HO_6.out
                  subst eo72
                  have p320 : 0 ≤ (x7_3 : Int) := dt
                  have q320 : x7_3 < (t317.length : Int) := dt
                  obtain ⟨ad320, e320, hx320_0⟩ := Kd.at_int (Kd.R_reads' HO_6.out).2.2 x7_3 p320 q320
                  cases e320
                  replace p320 := eq_true p320
                  replace q320 := eq_true q320
                  have p321 : 0 ≤ ((rd t317 x7_3) : Int) := dt
                  have q321 : (rd t317 x7_3) < (l0.length : Int) := dt
                  obtain ⟨ad321, e321, hx321_0, hx321_1, hx321_2, hx321_3, hx321_4, hx321_5⟩ := at_T49 HR0.out (rd t317 x7_3) p321 q321
                  obtain rfl : ad305 = ad321 := (by injection e321)
                  replace hx321_0 := skc HB.out hx321_0
                  replace hx321_1 := skc HB.out hx321_1
                  replace hx321_2 := skc HB.out hx321_2
                  replace hx321_3 := skc HB.out hx321_3
                  replace hx321_4 := skc HB.out hx321_4
                  replace hx321_5 := skc HB.out hx321_5
                  replace p321 := eq_true p321
                  replace q321 := eq_true q321
                  go_wp2
                  go_roundg k3
                  case measure => have := HJ2.out; have := HJ31.out; have := HK3.out; omega
                  case rel => exact ⟨(wrap64 (x7_3 + 1)), rs, H', ⟨by have := HJ2.out; have := HJ31.out; have := HK3.out; omega⟩, ⟨skR HO_6.out⟩, ⟨skK BK306.out⟩, ⟨skK BK313.out⟩, ⟨skG HB.out GE306.out GE313.out⟩⟩
                 ·
                  rw [if_neg c71] at H
                  have c71b0 : (((J49 l0 (rd t317 x7_3)).f1) == 0) = false := beq_eq_false_iff_ne.mpr c71
                  have c71b1 : (((J49 l0 (rd t317 x7_3)).f1) != 0) = true := bne_iff_ne.mpr c71
                  simp only [Option.some.injEq, Prod.mk.injEq] at H
                  obtain ⟨rfl, rfl⟩ := H
                  obtain ⟨Ao73, co73, eo73⟩ := Kd.R_slice HO_6.out
                  subst eo73
                  have p320 : 0 ≤ (x7_3 : Int) := dt
                  have q320 : x7_3 < (t317.length : Int) := dt
                  obtain ⟨ad320, e320, hx320_0⟩ := Kd.at_int (Kd.R_reads' HO_6.out).2.2 x7_3 p320 q320
                  cases e320
                  replace p320 := eq_true p320
                  replace q320 := eq_true q320
                  have p321 : 0 ≤ ((rd t317 x7_3) : Int) := dt
                  have q321 : (rd t317 x7_3) < (l0.length : Int) := dt
                  obtain ⟨ad321, e321, hx321_0, hx321_1, hx321_2, hx321_3, hx321_4, hx321_5⟩ := at_T49 HR0.out (rd t317 x7_3) p321 q321
                  obtain rfl : ad305 = ad321 := (by injection e321)
                  replace hx321_0 := skc HB.out hx321_0
                  replace hx321_1 := skc HB.out hx321_1
                  replace hx321_2 := skc HB.out hx321_2
                  replace hx321_3 := skc HB.out hx321_3
                  replace hx321_4 := skc HB.out hx321_4
                  replace hx321_5 := skc HB.out hx321_5
                  replace p321 := eq_true p321
                  replace q321 := eq_true q321
                  go_wp2
                  go_ret2
                  exact ⟨re, skG HB.out GE306.out GE313.out⟩
                ·
                 rw [if_neg c70] at H
                 exact absurd H (by simp)
               ·
                rw [if_neg c69] at H
                exact absurd H (by simp)
              ·
               rw [if_neg c68] at H
               exact absurd H (by simp)
             ·
              rw [if_neg c67] at H
              have c67b0 : decide (x7_3 < (t317.length : Int)) = false := decide_eq_false c67
              clear c67
              simp only [Option.some.injEq, Prod.mk.injEq] at H
              obtain ⟨rfl, rfl⟩ := H
              obtain ⟨Ao74, co74, eo74⟩ := Kd.R_slice HO_6.out
              subst eo74
              have hnb75 := NB313_306.out
              have hnc75 := NB306_313.out
              obtain ⟨hcz76_0, hcz76_1, hcz76_2, hcz76_3, hcz76_4, hcz76_5, hfz76_0, hfz76_1, hfz76_2, hfz76_3, hfz76_4, hfz76_5⟩ := bk6 BK313.out
              go_wp2
              go_ret2
              exact ⟨re, skG HB.out GE306.out GE313.out⟩
      ·
       rw [if_neg c27] at H
       exact absurd H (by simp)
     ·
      rw [if_neg c26] at H
      exact absurd H (by simp)
 ·
  rw [if_neg c2] at H
  exact absurd H (by simp)
end Go.Proofs.Ytmmjkebboonnkaa.P
/- F33 -/
namespace Go.Proofs.Ytmmjkebboonnkaa.P
open Go.RowKit Go.Proofs.YtmmjkebboonnkaaW.PrintWords Go.Proofs.YtmmjkebboonnkaaW.PrintLast Go.Proofs.YtmmjkebboonnkaaW.PrintMore
attribute [local go_sem] max2_int min2_int max_two min_two max_three min_three max_four min_four   -- for this text's walks alone
set_option linter.unusedVariables false
set_option linter.unusedSimpArgs false
def larchref17_keys.f (k : Nat) (l0 : List (S49)) : Option (List Int × Int) := (larchref17_Check.f k l0).bind fun t337 => (if t337 = 0 then ((larchref17_Root.f k l0).bind fun bt338 => (if bt338.2 = true then (if bt338.1 < 0 then (some (([] : List Int), 0)) else ((larchref17_Order.f k l0 bt338.1).bind fun t340 => (some (t340, 0)))) else (some (([] : List Int), 3)))) else (some (([] : List Int), t337)))
set_option maxHeartbeats 8000000 in
set_option maxRecDepth 100000 in
theorem larchref17_keys.calls (k : Nat) (A0 : Option Addr) (c0 : Nat) (l0 : List (S49)) (r1 : List Int) (r2 : Int) (w : World) (hr0 : Kd.C k49 w A0 l0.length l0) (hc0 : l0.length ≤ c0) (h : larchref17_keys.f k l0 = some (r1, r2)) :
  Calls Try.prog 46 #[.slice A0 l0.length c0] w fun e w' => ∃ v0_ : Value, e = .returned (.tuple #[v0_, .int .i64 r2]) ∧ Kd.R (Kd.int .i64) 3 w' w.heap.size (fun _ => True) v0_ r1 ∧ Below w.heap.size w w' := by
 have HR0 := asd hr0
 have HC0 := asd hc0
 clear hr0 hc0
 have HB := asd (Below.refl w.heap.size w)
 have H : ((larchref17_Check.f k l0).bind fun t337 => (if t337 = 0 then ((larchref17_Root.f k l0).bind fun bt338 => (if bt338.2 = true then (if bt338.1 < 0 then (some (([] : List Int), 0)) else ((larchref17_Order.f k l0 bt338.1).bind fun t340 => (some (t340, 0)))) else (some (([] : List Int), 3)))) else (some (([] : List Int), t337)))) = some (r1, r2) := h
 clear h
 replace H := Option.bind_eq_some_iff.mp H
 obtain ⟨t337, A20, H⟩ := H
 replace H : (if t337 = 0 then ((larchref17_Root.f k l0).bind fun bt338 => (if bt338.2 = true then (if bt338.1 < 0 then (some (([] : List Int), 0)) else ((larchref17_Order.f k l0 bt338.1).bind fun t340 => (some (t340, 0)))) else (some (([] : List Int), 3)))) else (some (([] : List Int), t337))) = some (r1, r2) := H
 have A2 := asd A20
 clear A20
 by_cases c3 : t337 = 0
 ·
  rw [if_pos c3] at H
  have c3b0 : (t337 == 0) = true := beq_iff_eq.mpr c3
  have c3b1 : (t337 != 0) = false := bne_eq_false_iff_eq.mpr c3
  clear c3
  replace H := Option.bind_eq_some_iff.mp H
  obtain ⟨⟨t338, t339⟩, A40, H⟩ := H
  replace H : (if t339 = true then (if t338 < 0 then (some (([] : List Int), 0)) else ((larchref17_Order.f k l0 t338).bind fun t340 => (some (t340, 0)))) else (some (([] : List Int), 3))) = some (r1, r2) := H
  have A4 := asd A40
  clear A40
  by_cases c5 : t339 = true
  ·
   subst c5
   have H1 : (if t338 < 0 then (some (([] : List Int), 0)) else ((larchref17_Order.f k l0 t338).bind fun t340 => (some (t340, 0)))) = some (r1, r2) := by rw [if_pos rfl] at H; exact H
   clear H
   have H := H1
   clear H1
   by_cases c6 : t338 < 0
   ·
    rw [if_pos c6] at H
    have c6b0 : decide (t338 < 0) = true := decide_eq_true c6
    clear c6
    simp only [Option.some.injEq, Prod.mk.injEq] at H
    obtain ⟨rfl, rfl⟩ := H
    go_enter Try.func46, Try.ntmps46
    go_wp2_with (first | ((with_reducible refine gate_callee (f := 59) rfl ?_); refine goesL_ (some 8) rfl rfl Try.func59 (by kernel_rfl) rfl #[.slice A0 l0.length c0] rfl ags ?_; (with_reducible refine (larchref17_Check.calls k _ _ l0 t337 _ ?side1 ?side2 A2.out).mono ?_); (case side1 => exact skC HR0.out); (case side2 => exact HC0.out); rintro e w7 ⟨rfl, hb⟩; refine ⟨_, rfl, ?_⟩; have n0_ := asd (below_step (skB HB.out) hb); clear HB; have HB := n0_; clear n0_; (try clear hb); (try clear hb2); (try clear hk); (try clear hi)) | ((with_reducible refine gate_callee (f := 26) rfl ?_); refine goesL_ (some 14) rfl rfl Try.func26 (by kernel_rfl) rfl #[.slice A0 l0.length c0] rfl ags ?_; (with_reducible refine (larchref17_Root.calls k _ _ l0 t338 true _ ?side1 ?side2 A4.out).mono ?_); (case side1 => exact skC (Kd.C_below HR0.out HB.out)); (case side2 => exact HC0.out); rintro e w8 ⟨rfl, hb⟩; refine ⟨_, rfl, ?_⟩; have n0_ := asd (below_step (skB HB.out) hb); clear HB; have HB := n0_; clear n0_; (try clear hb); (try clear hb2); (try clear hk); (try clear hi)))
    go_ret2
    exact ⟨_, re, by first | exact Kd.R_nil _ _ _ _ _ | exact Kd.N_nil _ _ _ _ _ | exact Kd.V_nil _ _ _ _ _ | exact Kd.Q_nil _ _ _ _ _ | exact Kd.S_nil _ _ _ _ _, skB HB.out⟩
   ·
    rw [if_neg c6] at H
    have c6b0 : decide (t338 < 0) = false := decide_eq_false c6
    clear c6
    replace H := Option.bind_eq_some_iff.mp H
    obtain ⟨t340, A90, H⟩ := H
    replace H : (some (t340, 0)) = some (r1, r2) := H
    have A9 := asd A90
    clear A90
    simp only [Option.some.injEq, Prod.mk.injEq] at H
    obtain ⟨rfl, rfl⟩ := H
    go_enter Try.func46, Try.ntmps46
    go_wp2_with (first | ((with_reducible refine gate_callee (f := 59) rfl ?_); refine goesL_ (some 8) rfl rfl Try.func59 (by kernel_rfl) rfl #[.slice A0 l0.length c0] rfl ags ?_; (with_reducible refine (larchref17_Check.calls k _ _ l0 t337 _ ?side1 ?side2 A2.out).mono ?_); (case side1 => exact skC HR0.out); (case side2 => exact HC0.out); rintro e w10 ⟨rfl, hb⟩; refine ⟨_, rfl, ?_⟩; have n0_ := asd (below_step (skB HB.out) hb); clear HB; have HB := n0_; clear n0_; (try clear hb); (try clear hb2); (try clear hk); (try clear hi)) | ((with_reducible refine gate_callee (f := 26) rfl ?_); refine goesL_ (some 14) rfl rfl Try.func26 (by kernel_rfl) rfl #[.slice A0 l0.length c0] rfl ags ?_; (with_reducible refine (larchref17_Root.calls k _ _ l0 t338 true _ ?side1 ?side2 A4.out).mono ?_); (case side1 => exact skC (Kd.C_below HR0.out HB.out)); (case side2 => exact HC0.out); rintro e w11 ⟨rfl, hb⟩; refine ⟨_, rfl, ?_⟩; have n0_ := asd (below_step (skB HB.out) hb); clear HB; have HB := n0_; clear n0_; (try clear hb); (try clear hb2); (try clear hk); (try clear hi)) | ((with_reducible refine gate_callee (f := 27) rfl ?_); refine goesL_ (some 23) rfl rfl Try.func27 (by kernel_rfl) rfl #[.slice A0 l0.length c0, .int .i64 t338] rfl ags ?_; (with_reducible refine (larchref17_Order.calls k _ _ l0 t338 t340 _ ?side1 ?side2 A9.out).mono ?_); (case side1 => exact skC (Kd.C_below HR0.out HB.out)); (case side2 => exact HC0.out); rintro e w12 ⟨v341, rfl, ho0, hb⟩; refine ⟨_, rfl, ?_⟩; have n0_ := asd (Kd.R_lower ho0 (below_size (skB HB.out))); have n1_ := asd (below_step (skB HB.out) hb); clear HB; have HO342 := n0_; have HB := n1_; clear n0_ n1_; (try clear hb); (try clear hb2); (try clear hk); (try clear hi); (try clear ho0)))
    go_ret2
    exact ⟨_, re, skR HO342.out, skB HB.out⟩
  ·
   replace c5 := Bool.eq_false_iff.mpr c5
   subst c5
   have H1 : (some (([] : List Int), 3)) = some (r1, r2) := by rw [if_neg (show ¬ (false = true) by decide)] at H; exact H
   clear H
   have H := H1
   clear H1
   simp only [Option.some.injEq, Prod.mk.injEq] at H
   obtain ⟨rfl, rfl⟩ := H
   go_enter Try.func46, Try.ntmps46
   go_wp2_with (first | ((with_reducible refine gate_callee (f := 59) rfl ?_); refine goesL_ (some 8) rfl rfl Try.func59 (by kernel_rfl) rfl #[.slice A0 l0.length c0] rfl ags ?_; (with_reducible refine (larchref17_Check.calls k _ _ l0 t337 _ ?side1 ?side2 A2.out).mono ?_); (case side1 => exact skC HR0.out); (case side2 => exact HC0.out); rintro e w13 ⟨rfl, hb⟩; refine ⟨_, rfl, ?_⟩; have n0_ := asd (below_step (skB HB.out) hb); clear HB; have HB := n0_; clear n0_; (try clear hb); (try clear hb2); (try clear hk); (try clear hi)) | ((with_reducible refine gate_callee (f := 26) rfl ?_); refine goesL_ (some 14) rfl rfl Try.func26 (by kernel_rfl) rfl #[.slice A0 l0.length c0] rfl ags ?_; (with_reducible refine (larchref17_Root.calls k _ _ l0 t338 false _ ?side1 ?side2 A4.out).mono ?_); (case side1 => exact skC (Kd.C_below HR0.out HB.out)); (case side2 => exact HC0.out); rintro e w14 ⟨rfl, hb⟩; refine ⟨_, rfl, ?_⟩; have n0_ := asd (below_step (skB HB.out) hb); clear HB; have HB := n0_; clear n0_; (try clear hb); (try clear hb2); (try clear hk); (try clear hi)))
   go_ret2
   exact ⟨_, re, by first | exact Kd.R_nil _ _ _ _ _ | exact Kd.N_nil _ _ _ _ _ | exact Kd.V_nil _ _ _ _ _ | exact Kd.Q_nil _ _ _ _ _ | exact Kd.S_nil _ _ _ _ _, skB HB.out⟩
 ·
  rw [if_neg c3] at H
  have c3b0 : (t337 == 0) = false := beq_eq_false_iff_ne.mpr c3
  have c3b1 : (t337 != 0) = true := bne_iff_ne.mpr c3
  simp only [Option.some.injEq, Prod.mk.injEq] at H
  obtain ⟨rfl, rfl⟩ := H
  go_enter Try.func46, Try.ntmps46
  go_wp2_with (first | ((with_reducible refine gate_callee (f := 59) rfl ?_); refine goesL_ (some 8) rfl rfl Try.func59 (by kernel_rfl) rfl #[.slice A0 l0.length c0] rfl ags ?_; (with_reducible refine (larchref17_Check.calls k _ _ l0 t337 _ ?side1 ?side2 A2.out).mono ?_); (case side1 => exact skC HR0.out); (case side2 => exact HC0.out); rintro e w15 ⟨rfl, hb⟩; refine ⟨_, rfl, ?_⟩; have n0_ := asd (below_step (skB HB.out) hb); clear HB; have HB := n0_; clear n0_; (try clear hb); (try clear hb2); (try clear hk); (try clear hi)))
  go_ret2
  exact ⟨_, re, by first | exact Kd.R_nil _ _ _ _ _ | exact Kd.N_nil _ _ _ _ _ | exact Kd.V_nil _ _ _ _ _ | exact Kd.Q_nil _ _ _ _ _ | exact Kd.S_nil _ _ _ _ _, skB HB.out⟩
end Go.Proofs.Ytmmjkebboonnkaa.P
/- F2 -/
namespace Go.Proofs.Ytmmjkebboonnkaa.P
open Go.RowKit Go.Proofs.YtmmjkebboonnkaaW.PrintWords Go.Proofs.YtmmjkebboonnkaaW.PrintLast Go.Proofs.YtmmjkebboonnkaaW.PrintMore
attribute [local go_sem] max2_int min2_int max_two min_two max_three min_three max_four min_four   -- for this text's walks alone
set_option linter.unusedVariables false
set_option linter.unusedSimpArgs false
def larchref17_SameInts.l0 : Nat → List Int → List Int → Int → Option (Bool)
 | 0, _, _, _ => none
 | k + 1, x0, x1, x5 => if x5 < (x0.length : Int) then (if 0 ≤ x5 then (if x5 < (x1.length : Int) then (if (rd x0 x5) = (rd x1 x5) then (larchref17_SameInts.l0 k x0 x1 (wrap64 (x5 + 1))) else (some false)) else (none)) else (none)) else (some true)
def larchref17_SameInts.f (k : Nat) (l0 : List Int) (l1 : List Int) : Option (Bool) := if (l0.length : Int) = (l1.length : Int) then (larchref17_SameInts.l0 k l0 l1 0) else (some false)
theorem larchref17_SameInts.mono_l : ∀ k, (∀ y0 y1 y2, LeO (larchref17_SameInts.l0 k y0 y1 y2) (larchref17_SameInts.l0 (k + 1) y0 y1 y2))
 | 0 => fun _ _ _ r h => by simp [larchref17_SameInts.l0] at h
 | k + 1 => by
  have ih0 := larchref17_SameInts.mono_l k
  ·
   intro y0 y1 y2
   unfold larchref17_SameInts.l0
   repeat' first
   | (with_reducible exact ih0 _ _ _)
   | (with_reducible exact LeO.refl _)
   | (with_reducible exact LeO.none _)
   | (with_reducible refine LeO.ite ?_ ?_)
   | (with_reducible refine LeO.bind ?_ (fun _ => ?_))
   | exact ih0 _ _ _
   | exact LeO.none _
   | refine LeO.ite ?_ ?_
   | refine LeO.bind ?_ (fun _ => ?_)
theorem larchref17_SameInts.mono : ∀ a0 a1 k, LeO (larchref17_SameInts.f k a0 a1) (larchref17_SameInts.f (k + 1) a0 a1) := by
 intro a0 a1 k
 have ih0 := larchref17_SameInts.mono_l k
 unfold larchref17_SameInts.f
 repeat' first
   | (with_reducible exact ih0 _ _ _)
   | (with_reducible exact LeO.refl _)
   | (with_reducible exact LeO.none _)
   | (with_reducible refine LeO.ite ?_ ?_)
   | (with_reducible refine LeO.bind ?_ (fun _ => ?_))
   | exact ih0 _ _ _
   | exact LeO.none _
   | refine LeO.ite ?_ ?_
   | refine LeO.bind ?_ (fun _ => ?_)
set_option maxHeartbeats 8000000 in
set_option maxRecDepth 100000 in
theorem larchref17_SameInts.calls (k : Nat) (A0 : Option Addr) (c0 : Nat) (l0 : List Int) (A1 : Option Addr) (c1 : Nat) (l1 : List Int) (r : Bool) (w : World) (hr0 : Kd.C (Kd.int .i64) w A0 l0.length l0) (hc0 : l0.length ≤ c0) (hr1 : Kd.C (Kd.int .i64) w A1 l1.length l1) (hc1 : l1.length ≤ c1) (h : larchref17_SameInts.f k l0 l1 = some r) :
  Calls Try.prog 12 #[.slice A0 l0.length c0, .slice A1 l1.length c1] w fun e w' => e = .returned (.bool r) ∧ Drawn0 w w' := by
 have HR0 := asd hr0
 have HC0 := asd hc0
 clear hr0 hc0
 have HR1 := asd hr1
 have HC1 := asd hc1
 clear hr1 hc1
 have H : (if (l0.length : Int) = (l1.length : Int) then (larchref17_SameInts.l0 k l0 l1 0) else (some false)) = some r := h
 clear h
 by_cases c3 : (l0.length : Int) = (l1.length : Int)
 ·
  rw [if_pos c3] at H
  have c3b0 : ((l0.length : Int) == (l1.length : Int)) = true := beq_iff_eq.mpr c3
  have c3b1 : ((l0.length : Int) != (l1.length : Int)) = false := bne_eq_false_iff_eq.mpr c3
  have c3b2 : (l0.length == l1.length) = true := by first | simpa using c3 | (simp at c3 ⊢; omega)
  clear c3
  have H' := asd H
  clear H
  go_enter Try.func12, Try.ntmps12
  go_wp2
  repeat (go_quiet (fail); try go_wp2)
  go_loopg [5] k (fun kq v5 w' => ∃ (x5_1 : Int), v5 = .int .i64 x5_1 ∧ Aside0 (larchref17_SameInts.l0 kq l0 l1 x5_1 = some r) ∧ Aside0 (kq ≤ k) ∧ Drawn0 w w')
  case atStart => exact ⟨(0), rs, H', ⟨Nat.le_refl _⟩, by repeat (first | exact Drawn0.refl _ | apply Drawn0.step)⟩
  case round =>
   clear H'
   try clear c1
   try clear p2
   try clear c3
   try clear c3b0
   try clear c3b1
   try clear c3b2
   obtain ⟨x5_1, rfl, HA, HK1, ⟨m1, rfl⟩⟩ := hrel
   cases gk with
   | zero => exact absurd HA.out (by simp [larchref17_SameInts.l0])
   | succ k1 =>
    have H := HA.out
    clear HA
    simp only [larchref17_SameInts.l0] at H
    by_cases c4 : x5_1 < (l0.length : Int)
    ·
     rw [if_pos c4] at H
     have c4b0 : decide (x5_1 < (l0.length : Int)) = true := decide_eq_true c4
     clear c4
     by_cases c5 : 0 ≤ x5_1
     ·
      rw [if_pos c5] at H
      have c5b0 : decide (0 ≤ x5_1) = true := decide_eq_true c5
      clear c5
      by_cases c6 : x5_1 < (l1.length : Int)
      ·
       rw [if_pos c6] at H
       have c6b0 : decide (x5_1 < (l1.length : Int)) = true := decide_eq_true c6
       clear c6
       by_cases c7 : (rd l0 x5_1) = (rd l1 x5_1)
       ·
        rw [if_pos c7] at H
        have c7b0 : ((rd l0 x5_1) == (rd l1 x5_1)) = true := beq_iff_eq.mpr c7
        have c7b1 : ((rd l0 x5_1) != (rd l1 x5_1)) = false := bne_eq_false_iff_eq.mpr c7
        clear c7
        have H' := asd H
        clear H
        have p101 : 0 ≤ (x5_1 : Int) := dt
        have q101 : x5_1 < (l0.length : Int) := dt
        obtain ⟨ad101, e101, hx101_0⟩ := Kd.at_int HR0.out x5_1 p101 q101
        cases e101
        replace p101 := eq_true p101
        replace q101 := eq_true q101
        have p102 : 0 ≤ (x5_1 : Int) := dt
        have q102 : x5_1 < (l1.length : Int) := dt
        obtain ⟨ad102, e102, hx102_0⟩ := Kd.at_int HR1.out x5_1 p102 q102
        cases e102
        replace p102 := eq_true p102
        replace q102 := eq_true q102
        go_wp2
        repeat (go_quiet (fail); try go_wp2)
        go_roundg k1
        case measure => have := HK1.out; omega
        case rel => exact ⟨(wrap64 (x5_1 + 1)), rs, H', ⟨by have := HK1.out; omega⟩, by repeat (first | exact Drawn0.refl _ | apply Drawn0.step)⟩
       ·
        rw [if_neg c7] at H
        have c7b0 : ((rd l0 x5_1) == (rd l1 x5_1)) = false := beq_eq_false_iff_ne.mpr c7
        have c7b1 : ((rd l0 x5_1) != (rd l1 x5_1)) = true := bne_iff_ne.mpr c7
        obtain rfl := Option.some.inj H
        have p101 : 0 ≤ (x5_1 : Int) := dt
        have q101 : x5_1 < (l0.length : Int) := dt
        obtain ⟨ad101, e101, hx101_0⟩ := Kd.at_int HR0.out x5_1 p101 q101
        cases e101
        replace p101 := eq_true p101
        replace q101 := eq_true q101
        have p102 : 0 ≤ (x5_1 : Int) := dt
        have q102 : x5_1 < (l1.length : Int) := dt
        obtain ⟨ad102, e102, hx102_0⟩ := Kd.at_int HR1.out x5_1 p102 q102
        cases e102
        replace p102 := eq_true p102
        replace q102 := eq_true q102
        go_wp2
        repeat (go_quiet (fail); try go_wp2)
        go_ret
        exact ⟨by first | rfl | (simp; done) | (simp [*]; done), by repeat (first | exact Drawn0.refl _ | apply Drawn0.step)⟩
      ·
       rw [if_neg c6] at H
       exact absurd H (by simp)
     ·
      rw [if_neg c5] at H
      exact absurd H (by simp)
    ·
     rw [if_neg c4] at H
     have c4b0 : decide (x5_1 < (l0.length : Int)) = false := decide_eq_false c4
     clear c4
     obtain rfl := Option.some.inj H
     go_wp2
     repeat (go_quiet (fail); try go_wp2)
     go_ret
     exact ⟨by first | rfl | (simp; done) | (simp [*]; done), by repeat (first | exact Drawn0.refl _ | apply Drawn0.step)⟩
 ·
  rw [if_neg c3] at H
  have c3b0 : ((l0.length : Int) == (l1.length : Int)) = false := beq_eq_false_iff_ne.mpr c3
  have c3b1 : ((l0.length : Int) != (l1.length : Int)) = true := bne_iff_ne.mpr c3
  have c3b2 : (l0.length == l1.length) = false := by first | simpa using c3 | (simp at c3 ⊢; omega)
  obtain rfl := Option.some.inj H
  go_enter Try.func12, Try.ntmps12
  go_wp2
  repeat (go_quiet (fail); try go_wp2)
  go_ret
  exact ⟨by first | rfl | (simp; done) | (simp [*]; done), by repeat (first | exact Drawn0.refl _ | apply Drawn0.step)⟩
end Go.Proofs.Ytmmjkebboonnkaa.P
/- F25 -/
namespace Go.Proofs.Ytmmjkebboonnkaa.P
open Go.RowKit Go.Proofs.YtmmjkebboonnkaaW.PrintWords Go.Proofs.YtmmjkebboonnkaaW.PrintLast Go.Proofs.YtmmjkebboonnkaaW.PrintMore
attribute [local go_sem] max2_int min2_int max_two min_two max_three min_three max_four min_four   -- for this text's walks alone
set_option linter.unusedVariables false
set_option linter.unusedSimpArgs false
def larchlaw17_a.f  : Option ((List (S49))) := some (([(⟨0, 1, 1, 0, 1, 6⟩ : S49), (⟨0, 1, 1, 0, 2, 5⟩ : S49), (⟨7, 0, 1, 0, 3, 4⟩ : S49), (⟨5, 0, 1, 0, (-1), (-1)⟩ : S49), (⟨7, 0, 1, 0, (-1), (-1)⟩ : S49), (⟨0, 1, 1, 0, (-1), (-1)⟩ : S49), (⟨0, 1, 1, 0, (-1), (-1)⟩ : S49)] : List (S49)))
set_option maxHeartbeats 8000000 in
set_option maxRecDepth 100000 in
theorem larchlaw17_a.calls  (r : List (S49)) (w : World) (h : larchlaw17_a.f  = some r) :
  Calls Try.prog 43 #[] w fun e w' => ∃ v0_ : Value, e = .returned (v0_) ∧ Kd.R k49 49 w' w.heap.size (fun _ => True) v0_ r ∧ Below w.heap.size w w' := by
 have hu49 := Try.underlying49
 have HB := asd (Below.refl w.heap.size w)
 have H : (some (([(⟨0, 1, 1, 0, 1, 6⟩ : S49), (⟨0, 1, 1, 0, 2, 5⟩ : S49), (⟨7, 0, 1, 0, 3, 4⟩ : S49), (⟨5, 0, 1, 0, (-1), (-1)⟩ : S49), (⟨7, 0, 1, 0, (-1), (-1)⟩ : S49), (⟨0, 1, 1, 0, (-1), (-1)⟩ : S49), (⟨0, 1, 1, 0, (-1), (-1)⟩ : S49)] : List (S49)))) = some r := h
 clear h
 obtain ⟨y246, hy246⟩ : ∃ y_ : List (S49), y_ = (([(⟨0, 1, 1, 0, 1, 6⟩ : S49), (⟨0, 1, 1, 0, 2, 5⟩ : S49), (⟨7, 0, 1, 0, 3, 4⟩ : S49), (⟨5, 0, 1, 0, (-1), (-1)⟩ : S49), (⟨7, 0, 1, 0, (-1), (-1)⟩ : S49), (⟨0, 1, 1, 0, (-1), (-1)⟩ : S49), (⟨0, 1, 1, 0, (-1), (-1)⟩ : S49)] : List (S49))) := ⟨_, rfl⟩
 replace H : (some y246) = some r := by first | (rw [hy246]; with_reducible exact H) | (have H2_ := (Option.bind_some _ _).symm.trans H; rw [hy246]; with_reducible exact H2_) | (have H2_ := (Option.bind_some _ _).symm.trans H; with_reducible exact H2_) | with_reducible exact H | (rw [hy246]; exact H) | exact H
 have Ny246 := asd hy246
 clear hy246
 obtain rfl := Option.some.inj H
 go_enter Try.func43, Try.ntmps43
 go_wp2_with (first | ((with_reducible refine gate_dst (N := 8) rfl ?_); refine Kd.R_lit k49 _ 49 ?hg (N := 8) ?hd (xs := ([(⟨0, 1, 1, 0, 1, 6⟩ : S49), (⟨0, 1, 1, 0, 2, 5⟩ : S49), (⟨7, 0, 1, 0, 3, 4⟩ : S49), (⟨5, 0, 1, 0, (-1), (-1)⟩ : S49), (⟨7, 0, 1, 0, (-1), (-1)⟩ : S49), (⟨0, 1, 1, 0, (-1), (-1)⟩ : S49), (⟨0, 1, 1, 0, (-1), (-1)⟩ : S49)] : List (S49))) (inner := [.int .i64 0, .int .i64 1, .int .i64 1, .int .i64 0, .int .i64 1, .int .i64 6, .int .i64 0, .int .i64 1, .int .i64 1, .int .i64 0, .int .i64 2, .int .i64 5, .int .i64 7, .int .i64 0, .int .i64 1, .int .i64 0, .int .i64 3, .int .i64 4, .int .i64 5, .int .i64 0, .int .i64 1, .int .i64 0, .int .i64 (-1), .int .i64 (-1), .int .i64 7, .int .i64 0, .int .i64 1, .int .i64 0, .int .i64 (-1), .int .i64 (-1), .int .i64 0, .int .i64 1, .int .i64 1, .int .i64 0, .int .i64 (-1), .int .i64 (-1), .int .i64 0, .int .i64 1, .int .i64 1, .int .i64 0, .int .i64 (-1), .int .i64 (-1)]) (ok := fun _ => True) (okp := fun _ => True) ?hr ?hp (fun _ hk => hk) trivial (Below.refl _ _) (Nat.le_refl _) (by simp) ?_; (case hd => rfl); (case hg => rfl); (case hr => first | (go_simp; done) | (go_simp; rfl)); (case hp => exact (Reps.c6 (show Kd.M k49 _ _ _ (⟨0, 1, 1, 0, 1, 6⟩ : S49) [.int .i64 0, .int .i64 1, .int .i64 1, .int .i64 0, .int .i64 1, .int .i64 6] from (k49_mkM _ _ _ (⟨0, 1, 1, 0, 1, 6⟩ : S49) )) (Reps.c6 (show Kd.M k49 _ _ _ (⟨0, 1, 1, 0, 2, 5⟩ : S49) [.int .i64 0, .int .i64 1, .int .i64 1, .int .i64 0, .int .i64 2, .int .i64 5] from (k49_mkM _ _ _ (⟨0, 1, 1, 0, 2, 5⟩ : S49) )) (Reps.c6 (show Kd.M k49 _ _ _ (⟨7, 0, 1, 0, 3, 4⟩ : S49) [.int .i64 7, .int .i64 0, .int .i64 1, .int .i64 0, .int .i64 3, .int .i64 4] from (k49_mkM _ _ _ (⟨7, 0, 1, 0, 3, 4⟩ : S49) )) (Reps.c6 (show Kd.M k49 _ _ _ (⟨5, 0, 1, 0, (-1), (-1)⟩ : S49) [.int .i64 5, .int .i64 0, .int .i64 1, .int .i64 0, .int .i64 (-1), .int .i64 (-1)] from (k49_mkM _ _ _ (⟨5, 0, 1, 0, (-1), (-1)⟩ : S49) )) (Reps.c6 (show Kd.M k49 _ _ _ (⟨7, 0, 1, 0, (-1), (-1)⟩ : S49) [.int .i64 7, .int .i64 0, .int .i64 1, .int .i64 0, .int .i64 (-1), .int .i64 (-1)] from (k49_mkM _ _ _ (⟨7, 0, 1, 0, (-1), (-1)⟩ : S49) )) (Reps.c6 (show Kd.M k49 _ _ _ (⟨0, 1, 1, 0, (-1), (-1)⟩ : S49) [.int .i64 0, .int .i64 1, .int .i64 1, .int .i64 0, .int .i64 (-1), .int .i64 (-1)] from (k49_mkM _ _ _ (⟨0, 1, 1, 0, (-1), (-1)⟩ : S49) )) (Reps.c6 (show Kd.M k49 _ _ _ (⟨0, 1, 1, 0, (-1), (-1)⟩ : S49) [.int .i64 0, .int .i64 1, .int .i64 1, .int .i64 0, .int .i64 (-1), .int .i64 (-1)] from (k49_mkM _ _ _ (⟨0, 1, 1, 0, (-1), (-1)⟩ : S49) )) (Reps.none _ _))))))))); intro v247 w1 ho2 hb hg_ hnew_; clear hg_ hnew_; (first | rw [← Ny246.out] at ho2 | (simp only [Int.reduceToNat] at ho2; rw [← Ny246.out] at ho2)); have n0_ := asd (Kd.R_lower ho2 (below_size (skB HB.out))); have n1_ := asd (below_step (skB HB.out) hb); clear HB; have HO248 := n0_; have HB := n1_; clear n0_ n1_; clear hb ho2))
 go_ret
 exact ⟨_, re, skR HO248.out, skB HB.out⟩
end Go.Proofs.Ytmmjkebboonnkaa.P
/- F16 -/
namespace Go.Proofs.Ytmmjkebboonnkaa.P
open Go.RowKit Go.Proofs.YtmmjkebboonnkaaW.PrintWords Go.Proofs.YtmmjkebboonnkaaW.PrintLast Go.Proofs.YtmmjkebboonnkaaW.PrintMore
attribute [local go_sem] max2_int min2_int max_two min_two max_three min_three max_four min_four   -- for this text's walks alone
set_option linter.unusedVariables false
set_option linter.unusedSimpArgs false
def table_path.l0 : Nat → List (S49) → Int → Int → List Int → Option (List Int)
 | 0, _, _, _, _ => none
 | k + 1, x0, x1, x5, x6 => if 0 ≤ x5 then (if x5 < (x0.length : Int) then ((table_isLeaf.f ((J49 x0 x5).f0) ((J49 x0 x5).f1) ((J49 x0 x5).f2) ((J49 x0 x5).f3) ((J49 x0 x5).f4) ((J49 x0 x5).f5)).bind fun t202 => (if t202 = true then (some x6) else (if ((J49 x0 x5).f1) = 1 then (if x6.length < 17592186044416 then (table_path.l0 k x0 x1 ((J49 x0 x5).f4) (x6 ++ [(J49 x0 x5).f4])) else (none)) else (if x1 < ((J49 x0 x5).f0) then (if x6.length < 17592186044416 then (table_path.l0 k x0 x1 ((J49 x0 x5).f4) (x6 ++ [(J49 x0 x5).f4])) else (none)) else (if x6.length < 17592186044416 then (table_path.l0 k x0 x1 ((J49 x0 x5).f5) (x6 ++ [(J49 x0 x5).f5])) else (none)))))) else (none)) else (none)
def table_path.f (k : Nat) (l0 : List (S49)) (a1 : Int) : Option (List Int) := table_path.l0 k l0 a1 0 (([0] : List Int))
theorem table_path.mono_l : ∀ k, (∀ y0 y1 y2 y3, LeO (table_path.l0 k y0 y1 y2 y3) (table_path.l0 (k + 1) y0 y1 y2 y3))
 | 0 => fun _ _ _ _ r h => by simp [table_path.l0] at h
 | k + 1 => by
  have ih0 := table_path.mono_l k
  ·
   intro y0 y1 y2 y3
   unfold table_path.l0
   repeat' first
   | (with_reducible exact ih0 _ _ _ _)
   | (with_reducible exact LeO.refl _)
   | (with_reducible exact LeO.none _)
   | (with_reducible refine LeO.ite ?_ ?_)
   | (with_reducible refine LeO.bind ?_ (fun _ => ?_))
   | exact ih0 _ _ _ _
   | exact LeO.none _
   | refine LeO.ite ?_ ?_
   | refine LeO.bind ?_ (fun _ => ?_)
theorem table_path.mono : ∀ a0 a1 k, LeO (table_path.f k a0 a1) (table_path.f (k + 1) a0 a1) := by
 intro a0 a1 k
 have ih0 := table_path.mono_l k
 unfold table_path.f
 repeat' first
   | (with_reducible exact ih0 _ _ _ _)
   | (with_reducible exact LeO.refl _)
   | (with_reducible exact LeO.none _)
   | (with_reducible refine LeO.ite ?_ ?_)
   | (with_reducible refine LeO.bind ?_ (fun _ => ?_))
   | exact ih0 _ _ _ _
   | exact LeO.none _
   | refine LeO.ite ?_ ?_
   | refine LeO.bind ?_ (fun _ => ?_)
set_option maxHeartbeats 8000000 in
set_option maxRecDepth 100000 in
theorem table_path.calls (k : Nat) (A0 : Option Addr) (c0 : Nat) (l0 : List (S49)) (a1 : Int) (r : List Int) (w : World) (hr0 : Kd.C k49 w A0 l0.length l0) (hc0 : l0.length ≤ c0) (h : table_path.f k l0 a1 = some r) :
  Calls Try.prog 61 #[.slice A0 l0.length c0, .int .i64 a1] w fun e w' => ∃ v0_ : Value, e = .returned (v0_) ∧ Kd.R (Kd.int .i64) 3 w' w.heap.size (fun _ => True) v0_ r ∧ Below w.heap.size w w' := by
 have hu49 := Try.underlying49
 have HR0 := asd hr0
 have HC0 := asd hc0
 clear hr0 hc0
 have HB := asd (Below.refl w.heap.size w)
 have H : (table_path.l0 k l0 a1 0 (([0] : List Int))) = some r := h
 clear h
 obtain ⟨y198, hy198⟩ : ∃ y_ : List Int, y_ = (([0] : List Int)) := ⟨_, rfl⟩
 replace H : (table_path.l0 k l0 a1 0 y198) = some r := by first | (rw [hy198]; with_reducible exact H) | (have H2_ := (Option.bind_some _ _).symm.trans H; rw [hy198]; with_reducible exact H2_) | (have H2_ := (Option.bind_some _ _).symm.trans H; with_reducible exact H2_) | with_reducible exact H | (rw [hy198]; exact H) | exact H
 have Ny198 := asd hy198
 clear hy198
 have H' := asd H
 clear H
 go_enter Try.func61, Try.ntmps61
 go_wp2_with (first | ((with_reducible refine gate_dst (N := 8) rfl ?_); refine Kd.R_lit (Kd.int .i64) _ 3 ?hg (N := 8) ?hd (xs := ([0] : List Int)) (inner := [.int .i64 0]) (ok := fun _ => True) (okp := fun _ => True) ?hr ?hp (fun _ hk => hk) trivial (Below.refl _ _) (Nat.le_refl _) (by simp) ?_; (case hd => rfl); (case hg => rfl); (case hr => first | (go_simp; done) | (go_simp; rfl)); (case hp => exact (Reps.one (show Kd.M (Kd.int .i64) _ _ _ 0 [.int .i64 0] from rfl) (Reps.none _ _))); intro v199 w3 ho4 hb hg_ hnew_; clear hg_ hnew_; (first | rw [← Ny198.out] at ho4 | (simp only [Int.reduceToNat] at ho4; rw [← Ny198.out] at ho4)); have n0_ := asd (Kd.R_lower ho4 (below_size (skB HB.out))); have n1_ := asd (below_step (skB HB.out) hb); clear HB; have HO200 := n0_; have HB := n1_; clear n0_ n1_; clear hb ho4))
 go_loopg [5, 6] k (fun kq v5 v6 w' => ∃ (x5_1 : Int) (x6_1 : List Int), v5 = .int .i64 x5_1 ∧ Aside0 (table_path.l0 kq l0 a1 x5_1 x6_1 = some r) ∧ Aside0 (kq ≤ k) ∧ Aside0 (Kd.R (Kd.int .i64) 3 w' w.heap.size (fun _ => True) v6 x6_1) ∧ Aside0 (Below w.heap.size w w'))
 case atStart => exact ⟨(0), (y198), rs, H', ⟨Nat.le_refl _⟩, ⟨skR HO200.out⟩, ⟨skB HB.out⟩⟩
 case round =>
  clear H'
  try clear p2
  obtain ⟨x5_1, x6_1, rfl, HA, HK1, HO_6, HB⟩ := hrel
  cases gk with
  | zero => exact absurd HA.out (by simp [table_path.l0])
  | succ k1 =>
   have H := HA.out
   clear HA
   simp only [table_path.l0] at H
   by_cases c5 : 0 ≤ x5_1
   ·
    rw [if_pos c5] at H
    have c5b0 : decide (0 ≤ x5_1) = true := decide_eq_true c5
    clear c5
    by_cases c6 : x5_1 < (l0.length : Int)
    ·
     rw [if_pos c6] at H
     have c6b0 : decide (x5_1 < (l0.length : Int)) = true := decide_eq_true c6
     clear c6
     replace H := Option.bind_eq_some_iff.mp H
     obtain ⟨t202, A70, H⟩ := H
     replace H : (if t202 = true then (some x6_1) else (if ((J49 l0 x5_1).f1) = 1 then (if x6_1.length < 17592186044416 then (table_path.l0 k1 l0 a1 ((J49 l0 x5_1).f4) (x6_1 ++ [(J49 l0 x5_1).f4])) else (none)) else (if a1 < ((J49 l0 x5_1).f0) then (if x6_1.length < 17592186044416 then (table_path.l0 k1 l0 a1 ((J49 l0 x5_1).f4) (x6_1 ++ [(J49 l0 x5_1).f4])) else (none)) else (if x6_1.length < 17592186044416 then (table_path.l0 k1 l0 a1 ((J49 l0 x5_1).f5) (x6_1 ++ [(J49 l0 x5_1).f5])) else (none))))) = some r := H
     have A7 := asd A70
     clear A70
     by_cases c8 : t202 = true
     ·
      subst c8
      have H1 : (some x6_1) = some r := by rw [if_pos rfl] at H; exact H
      clear H
      have H := H1
      clear H1
      obtain rfl := Option.some.inj H
      have p201 : 0 ≤ (x5_1 : Int) := dt
      have q201 : x5_1 < (l0.length : Int) := dt
      obtain ⟨ad201, e201, hx201_0, hx201_1, hx201_2, hx201_3, hx201_4, hx201_5⟩ := at_T49 HR0.out x5_1 p201 q201
      cases e201
      replace hx201_0 := skc HB.out hx201_0
      replace hx201_1 := skc HB.out hx201_1
      replace hx201_2 := skc HB.out hx201_2
      replace hx201_3 := skc HB.out hx201_3
      replace hx201_4 := skc HB.out hx201_4
      replace hx201_5 := skc HB.out hx201_5
      replace p201 := eq_true p201
      replace q201 := eq_true q201
      go_wp2_with (first | ((with_reducible refine gate_callee (f := 66) rfl ?_); refine goesL_ (some 13) rfl rfl Try.func66 (by kernel_rfl) rfl #[.agg #[.int .i64 ((J49 l0 x5_1).f0), .int .i64 ((J49 l0 x5_1).f1), .int .i64 ((J49 l0 x5_1).f2), .int .i64 ((J49 l0 x5_1).f3), .int .i64 ((J49 l0 x5_1).f4), .int .i64 ((J49 l0 x5_1).f5)]] rfl ags ?_; (with_reducible refine (table_isLeaf.calls ((J49 l0 x5_1).f0) ((J49 l0 x5_1).f1) ((J49 l0 x5_1).f2) ((J49 l0 x5_1).f3) ((J49 l0 x5_1).f4) ((J49 l0 x5_1).f5) true _ A7.out).mono ?_); rintro e w9 ⟨rfl, hb⟩; refine ⟨_, rfl, ?_⟩; have n0_ := asd (Kd.R_below (skR HO_6.out) hb); have n1_ := asd (below_step (skB HB.out) hb); clear HO_6; clear HB; have HO_6 := n0_; have HB := n1_; clear n0_ n1_; (try clear hb); (try clear hb2); (try clear hk); (try clear hi)))
      go_ret
      exact ⟨_, re, skR HO_6.out, skB HB.out⟩
     ·
      replace c8 := Bool.eq_false_iff.mpr c8
      subst c8
      have H1 : (if ((J49 l0 x5_1).f1) = 1 then (if x6_1.length < 17592186044416 then (table_path.l0 k1 l0 a1 ((J49 l0 x5_1).f4) (x6_1 ++ [(J49 l0 x5_1).f4])) else (none)) else (if a1 < ((J49 l0 x5_1).f0) then (if x6_1.length < 17592186044416 then (table_path.l0 k1 l0 a1 ((J49 l0 x5_1).f4) (x6_1 ++ [(J49 l0 x5_1).f4])) else (none)) else (if x6_1.length < 17592186044416 then (table_path.l0 k1 l0 a1 ((J49 l0 x5_1).f5) (x6_1 ++ [(J49 l0 x5_1).f5])) else (none)))) = some r := by rw [if_neg (show ¬ (false = true) by decide)] at H; exact H
      clear H
      have H := H1
      clear H1
      by_cases c10 : ((J49 l0 x5_1).f1) = 1
      ·
       rw [if_pos c10] at H
       have c10b0 : (((J49 l0 x5_1).f1) == 1) = true := beq_iff_eq.mpr c10
       have c10b1 : (((J49 l0 x5_1).f1) != 1) = false := bne_eq_false_iff_eq.mpr c10
       clear c10
       by_cases c11 : x6_1.length < 17592186044416
       ·
        rw [if_pos c11] at H
        have LMc11 := asd c11
        clear c11
        obtain ⟨y205, hy205⟩ : ∃ y_ : List Int, y_ = (x6_1 ++ [(J49 l0 x5_1).f4]) := ⟨_, rfl⟩
        replace H : (table_path.l0 k1 l0 a1 ((J49 l0 x5_1).f4) y205) = some r := by first | (rw [hy205]; with_reducible exact H) | (have H2_ := (Option.bind_some _ _).symm.trans H; rw [hy205]; with_reducible exact H2_) | (have H2_ := (Option.bind_some _ _).symm.trans H; with_reducible exact H2_) | with_reducible exact H | (rw [hy205]; exact H) | exact H
        have Ny205 := asd hy205
        clear hy205
        have H' := asd H
        clear H
        have p201 : 0 ≤ (x5_1 : Int) := dt
        have q201 : x5_1 < (l0.length : Int) := dt
        obtain ⟨ad201, e201, hx201_0, hx201_1, hx201_2, hx201_3, hx201_4, hx201_5⟩ := at_T49 HR0.out x5_1 p201 q201
        cases e201
        replace hx201_0 := skc HB.out hx201_0
        replace hx201_1 := skc HB.out hx201_1
        replace hx201_2 := skc HB.out hx201_2
        replace hx201_3 := skc HB.out hx201_3
        replace hx201_4 := skc HB.out hx201_4
        replace hx201_5 := skc HB.out hx201_5
        replace p201 := eq_true p201
        replace q201 := eq_true q201
        go_wp2_with (first | ((with_reducible refine gate_callee (f := 66) rfl ?_); refine goesL_ (some 13) rfl rfl Try.func66 (by kernel_rfl) rfl #[.agg #[.int .i64 ((J49 l0 x5_1).f0), .int .i64 ((J49 l0 x5_1).f1), .int .i64 ((J49 l0 x5_1).f2), .int .i64 ((J49 l0 x5_1).f3), .int .i64 ((J49 l0 x5_1).f4), .int .i64 ((J49 l0 x5_1).f5)]] rfl ags ?_; (with_reducible refine (table_isLeaf.calls ((J49 l0 x5_1).f0) ((J49 l0 x5_1).f1) ((J49 l0 x5_1).f2) ((J49 l0 x5_1).f3) ((J49 l0 x5_1).f4) ((J49 l0 x5_1).f5) false _ A7.out).mono ?_); rintro e w12 ⟨rfl, hb⟩; refine ⟨_, rfl, ?_⟩; have n0_ := asd (Kd.R_below (skR HO_6.out) hb); have n1_ := asd (below_step (skB HB.out) hb); clear HO_6; clear HB; have HO_6 := n0_; have HB := n1_; clear n0_ n1_; (try clear hb); (try clear hb2); (try clear hk); (try clear hi); have p203 : 0 ≤ (x5_1 : Int) := dt; have q203 : x5_1 < (l0.length : Int) := dt; obtain ⟨ad203, e203, hx203_0, hx203_1, hx203_2, hx203_3, hx203_4, hx203_5⟩ := at_T49 HR0.out x5_1 p203 q203; obtain rfl : ad201 = ad203 := (by injection e203); replace hx203_0 := skc HB.out hx203_0; replace hx203_1 := skc HB.out hx203_1; replace hx203_2 := skc HB.out hx203_2; replace hx203_3 := skc HB.out hx203_3; replace hx203_4 := skc HB.out hx203_4; replace hx203_5 := skc HB.out hx203_5; replace p203 := eq_true p203; replace q203 := eq_true q203; have p204 : 0 ≤ (x5_1 : Int) := dt; have q204 : x5_1 < (l0.length : Int) := dt; obtain ⟨ad204, e204, hx204_0, hx204_1, hx204_2, hx204_3, hx204_4, hx204_5⟩ := at_T49 HR0.out x5_1 p204 q204; obtain rfl : ad201 = ad204 := (by injection e204); replace hx204_0 := skc HB.out hx204_0; replace hx204_1 := skc HB.out hx204_1; replace hx204_2 := skc HB.out hx204_2; replace hx204_3 := skc HB.out hx204_3; replace hx204_4 := skc HB.out hx204_4; replace hx204_5 := skc HB.out hx204_5; replace p204 := eq_true p204; replace q204 := eq_true q204) | ((with_reducible refine gate_builtin (b := .append) (xs := #[.tmp 40, .tmp 42]) rfl ?_); at_builtin; refine Kd.R_append (Kd.int .i64) (w0 := w) w.heap.size rfl (.tmp 40) (.tmp 42) 23 3 (.int .i64 0) 8 rfl Try.underlying23 info3 rfl (by decide) (by omega) u6 x6_1 ((J49 l0 x5_1).f4) [.int .i64 ((J49 l0 x5_1).f4)] (fun _ => True) (fun _ => False) rfl rfl ?aP (fun _ hk => hk.elim) ?aF ?aO ?aB ?aS ?aL ?_; (case aP => exact rfl); (case aB => exact (skB HB.out)); (case aF => exact (fun _ _ => trivial)); (case aO => exact (skR HO_6.out)); (case aS => exact (below_size (skB HB.out))); (case aL => have := LMc11.out; omega); intro v206 w13 ho hb hg hat; rw [← Ny205.out] at ho; have n0_ := asd (hb); have n1_ := asd (ho); clear HB; clear HO_6; have HB := n0_; have HO207 := n1_; clear n0_ n1_; clear ho hb hg hat))
        go_roundg k1
        case measure => have := HK1.out; omega
        case rel => exact ⟨((J49 l0 x5_1).f4), (y205), rs, H', ⟨by have := HK1.out; omega⟩, ⟨skR HO207.out⟩, ⟨skB HB.out⟩⟩
       ·
        rw [if_neg c11] at H
        exact absurd H (by simp)
      ·
       rw [if_neg c10] at H
       have c10b0 : (((J49 l0 x5_1).f1) == 1) = false := beq_eq_false_iff_ne.mpr c10
       have c10b1 : (((J49 l0 x5_1).f1) != 1) = true := bne_iff_ne.mpr c10
       by_cases c14 : a1 < ((J49 l0 x5_1).f0)
       ·
        rw [if_pos c14] at H
        have c14b0 : decide (a1 < ((J49 l0 x5_1).f0)) = true := decide_eq_true c14
        clear c14
        by_cases c15 : x6_1.length < 17592186044416
        ·
         rw [if_pos c15] at H
         have LMc15 := asd c15
         clear c15
         obtain ⟨y210, hy210⟩ : ∃ y_ : List Int, y_ = (x6_1 ++ [(J49 l0 x5_1).f4]) := ⟨_, rfl⟩
         replace H : (table_path.l0 k1 l0 a1 ((J49 l0 x5_1).f4) y210) = some r := by first | (rw [hy210]; with_reducible exact H) | (have H2_ := (Option.bind_some _ _).symm.trans H; rw [hy210]; with_reducible exact H2_) | (have H2_ := (Option.bind_some _ _).symm.trans H; with_reducible exact H2_) | with_reducible exact H | (rw [hy210]; exact H) | exact H
         have Ny210 := asd hy210
         clear hy210
         have H' := asd H
         clear H
         have p201 : 0 ≤ (x5_1 : Int) := dt
         have q201 : x5_1 < (l0.length : Int) := dt
         obtain ⟨ad201, e201, hx201_0, hx201_1, hx201_2, hx201_3, hx201_4, hx201_5⟩ := at_T49 HR0.out x5_1 p201 q201
         cases e201
         replace hx201_0 := skc HB.out hx201_0
         replace hx201_1 := skc HB.out hx201_1
         replace hx201_2 := skc HB.out hx201_2
         replace hx201_3 := skc HB.out hx201_3
         replace hx201_4 := skc HB.out hx201_4
         replace hx201_5 := skc HB.out hx201_5
         replace p201 := eq_true p201
         replace q201 := eq_true q201
         go_wp2_with (first | ((with_reducible refine gate_callee (f := 66) rfl ?_); refine goesL_ (some 13) rfl rfl Try.func66 (by kernel_rfl) rfl #[.agg #[.int .i64 ((J49 l0 x5_1).f0), .int .i64 ((J49 l0 x5_1).f1), .int .i64 ((J49 l0 x5_1).f2), .int .i64 ((J49 l0 x5_1).f3), .int .i64 ((J49 l0 x5_1).f4), .int .i64 ((J49 l0 x5_1).f5)]] rfl ags ?_; (with_reducible refine (table_isLeaf.calls ((J49 l0 x5_1).f0) ((J49 l0 x5_1).f1) ((J49 l0 x5_1).f2) ((J49 l0 x5_1).f3) ((J49 l0 x5_1).f4) ((J49 l0 x5_1).f5) false _ A7.out).mono ?_); rintro e w16 ⟨rfl, hb⟩; refine ⟨_, rfl, ?_⟩; have n0_ := asd (Kd.R_below (skR HO_6.out) hb); have n1_ := asd (below_step (skB HB.out) hb); clear HO_6; clear HB; have HO_6 := n0_; have HB := n1_; clear n0_ n1_; (try clear hb); (try clear hb2); (try clear hk); (try clear hi); have p203 : 0 ≤ (x5_1 : Int) := dt; have q203 : x5_1 < (l0.length : Int) := dt; obtain ⟨ad203, e203, hx203_0, hx203_1, hx203_2, hx203_3, hx203_4, hx203_5⟩ := at_T49 HR0.out x5_1 p203 q203; obtain rfl : ad201 = ad203 := (by injection e203); replace hx203_0 := skc HB.out hx203_0; replace hx203_1 := skc HB.out hx203_1; replace hx203_2 := skc HB.out hx203_2; replace hx203_3 := skc HB.out hx203_3; replace hx203_4 := skc HB.out hx203_4; replace hx203_5 := skc HB.out hx203_5; replace p203 := eq_true p203; replace q203 := eq_true q203; have p208 : 0 ≤ (x5_1 : Int) := dt; have q208 : x5_1 < (l0.length : Int) := dt; obtain ⟨ad208, e208, hx208_0, hx208_1, hx208_2, hx208_3, hx208_4, hx208_5⟩ := at_T49 HR0.out x5_1 p208 q208; obtain rfl : ad201 = ad208 := (by injection e208); replace hx208_0 := skc HB.out hx208_0; replace hx208_1 := skc HB.out hx208_1; replace hx208_2 := skc HB.out hx208_2; replace hx208_3 := skc HB.out hx208_3; replace hx208_4 := skc HB.out hx208_4; replace hx208_5 := skc HB.out hx208_5; replace p208 := eq_true p208; replace q208 := eq_true q208; have p209 : 0 ≤ (x5_1 : Int) := dt; have q209 : x5_1 < (l0.length : Int) := dt; obtain ⟨ad209, e209, hx209_0, hx209_1, hx209_2, hx209_3, hx209_4, hx209_5⟩ := at_T49 HR0.out x5_1 p209 q209; obtain rfl : ad201 = ad209 := (by injection e209); replace hx209_0 := skc HB.out hx209_0; replace hx209_1 := skc HB.out hx209_1; replace hx209_2 := skc HB.out hx209_2; replace hx209_3 := skc HB.out hx209_3; replace hx209_4 := skc HB.out hx209_4; replace hx209_5 := skc HB.out hx209_5; replace p209 := eq_true p209; replace q209 := eq_true q209) | ((with_reducible refine gate_builtin (b := .append) (xs := #[.tmp 40, .tmp 42]) rfl ?_); at_builtin; refine Kd.R_append (Kd.int .i64) (w0 := w) w.heap.size rfl (.tmp 40) (.tmp 42) 23 3 (.int .i64 0) 8 rfl Try.underlying23 info3 rfl (by decide) (by omega) u6 x6_1 ((J49 l0 x5_1).f4) [.int .i64 ((J49 l0 x5_1).f4)] (fun _ => True) (fun _ => False) rfl rfl ?aP (fun _ hk => hk.elim) ?aF ?aO ?aB ?aS ?aL ?_; (case aP => exact rfl); (case aB => exact (skB HB.out)); (case aF => exact (fun _ _ => trivial)); (case aO => exact (skR HO_6.out)); (case aS => exact (below_size (skB HB.out))); (case aL => have := LMc15.out; omega); intro v211 w17 ho hb hg hat; rw [← Ny210.out] at ho; have n0_ := asd (hb); have n1_ := asd (ho); clear HB; clear HO_6; have HB := n0_; have HO212 := n1_; clear n0_ n1_; clear ho hb hg hat))
         go_roundg k1
         case measure => have := HK1.out; omega
         case rel => exact ⟨((J49 l0 x5_1).f4), (y210), rs, H', ⟨by have := HK1.out; omega⟩, ⟨skR HO212.out⟩, ⟨skB HB.out⟩⟩
        ·
         rw [if_neg c15] at H
         exact absurd H (by simp)
       ·
        rw [if_neg c14] at H
        have c14b0 : decide (a1 < ((J49 l0 x5_1).f0)) = false := decide_eq_false c14
        clear c14
        by_cases c18 : x6_1.length < 17592186044416
        ·
         rw [if_pos c18] at H
         have LMc18 := asd c18
         clear c18
         obtain ⟨y214, hy214⟩ : ∃ y_ : List Int, y_ = (x6_1 ++ [(J49 l0 x5_1).f5]) := ⟨_, rfl⟩
         replace H : (table_path.l0 k1 l0 a1 ((J49 l0 x5_1).f5) y214) = some r := by first | (rw [hy214]; with_reducible exact H) | (have H2_ := (Option.bind_some _ _).symm.trans H; rw [hy214]; with_reducible exact H2_) | (have H2_ := (Option.bind_some _ _).symm.trans H; with_reducible exact H2_) | with_reducible exact H | (rw [hy214]; exact H) | exact H
         have Ny214 := asd hy214
         clear hy214
         have H' := asd H
         clear H
         have p201 : 0 ≤ (x5_1 : Int) := dt
         have q201 : x5_1 < (l0.length : Int) := dt
         obtain ⟨ad201, e201, hx201_0, hx201_1, hx201_2, hx201_3, hx201_4, hx201_5⟩ := at_T49 HR0.out x5_1 p201 q201
         cases e201
         replace hx201_0 := skc HB.out hx201_0
         replace hx201_1 := skc HB.out hx201_1
         replace hx201_2 := skc HB.out hx201_2
         replace hx201_3 := skc HB.out hx201_3
         replace hx201_4 := skc HB.out hx201_4
         replace hx201_5 := skc HB.out hx201_5
         replace p201 := eq_true p201
         replace q201 := eq_true q201
         go_wp2_with (first | ((with_reducible refine gate_callee (f := 66) rfl ?_); refine goesL_ (some 13) rfl rfl Try.func66 (by kernel_rfl) rfl #[.agg #[.int .i64 ((J49 l0 x5_1).f0), .int .i64 ((J49 l0 x5_1).f1), .int .i64 ((J49 l0 x5_1).f2), .int .i64 ((J49 l0 x5_1).f3), .int .i64 ((J49 l0 x5_1).f4), .int .i64 ((J49 l0 x5_1).f5)]] rfl ags ?_; (with_reducible refine (table_isLeaf.calls ((J49 l0 x5_1).f0) ((J49 l0 x5_1).f1) ((J49 l0 x5_1).f2) ((J49 l0 x5_1).f3) ((J49 l0 x5_1).f4) ((J49 l0 x5_1).f5) false _ A7.out).mono ?_); rintro e w19 ⟨rfl, hb⟩; refine ⟨_, rfl, ?_⟩; have n0_ := asd (Kd.R_below (skR HO_6.out) hb); have n1_ := asd (below_step (skB HB.out) hb); clear HO_6; clear HB; have HO_6 := n0_; have HB := n1_; clear n0_ n1_; (try clear hb); (try clear hb2); (try clear hk); (try clear hi); have p203 : 0 ≤ (x5_1 : Int) := dt; have q203 : x5_1 < (l0.length : Int) := dt; obtain ⟨ad203, e203, hx203_0, hx203_1, hx203_2, hx203_3, hx203_4, hx203_5⟩ := at_T49 HR0.out x5_1 p203 q203; obtain rfl : ad201 = ad203 := (by injection e203); replace hx203_0 := skc HB.out hx203_0; replace hx203_1 := skc HB.out hx203_1; replace hx203_2 := skc HB.out hx203_2; replace hx203_3 := skc HB.out hx203_3; replace hx203_4 := skc HB.out hx203_4; replace hx203_5 := skc HB.out hx203_5; replace p203 := eq_true p203; replace q203 := eq_true q203; have p208 : 0 ≤ (x5_1 : Int) := dt; have q208 : x5_1 < (l0.length : Int) := dt; obtain ⟨ad208, e208, hx208_0, hx208_1, hx208_2, hx208_3, hx208_4, hx208_5⟩ := at_T49 HR0.out x5_1 p208 q208; obtain rfl : ad201 = ad208 := (by injection e208); replace hx208_0 := skc HB.out hx208_0; replace hx208_1 := skc HB.out hx208_1; replace hx208_2 := skc HB.out hx208_2; replace hx208_3 := skc HB.out hx208_3; replace hx208_4 := skc HB.out hx208_4; replace hx208_5 := skc HB.out hx208_5; replace p208 := eq_true p208; replace q208 := eq_true q208; have p213 : 0 ≤ (x5_1 : Int) := dt; have q213 : x5_1 < (l0.length : Int) := dt; obtain ⟨ad213, e213, hx213_0, hx213_1, hx213_2, hx213_3, hx213_4, hx213_5⟩ := at_T49 HR0.out x5_1 p213 q213; obtain rfl : ad201 = ad213 := (by injection e213); replace hx213_0 := skc HB.out hx213_0; replace hx213_1 := skc HB.out hx213_1; replace hx213_2 := skc HB.out hx213_2; replace hx213_3 := skc HB.out hx213_3; replace hx213_4 := skc HB.out hx213_4; replace hx213_5 := skc HB.out hx213_5; replace p213 := eq_true p213; replace q213 := eq_true q213) | ((with_reducible refine gate_builtin (b := .append) (xs := #[.tmp 40, .tmp 42]) rfl ?_); at_builtin; refine Kd.R_append (Kd.int .i64) (w0 := w) w.heap.size rfl (.tmp 40) (.tmp 42) 23 3 (.int .i64 0) 8 rfl Try.underlying23 info3 rfl (by decide) (by omega) u6 x6_1 ((J49 l0 x5_1).f5) [.int .i64 ((J49 l0 x5_1).f5)] (fun _ => True) (fun _ => False) rfl rfl ?aP (fun _ hk => hk.elim) ?aF ?aO ?aB ?aS ?aL ?_; (case aP => exact rfl); (case aB => exact (skB HB.out)); (case aF => exact (fun _ _ => trivial)); (case aO => exact (skR HO_6.out)); (case aS => exact (below_size (skB HB.out))); (case aL => have := LMc18.out; omega); intro v215 w20 ho hb hg hat; rw [← Ny214.out] at ho; have n0_ := asd (hb); have n1_ := asd (ho); clear HB; clear HO_6; have HB := n0_; have HO216 := n1_; clear n0_ n1_; clear ho hb hg hat))
         go_roundg k1
         case measure => have := HK1.out; omega
         case rel => exact ⟨((J49 l0 x5_1).f5), (y214), rs, H', ⟨by have := HK1.out; omega⟩, ⟨skR HO216.out⟩, ⟨skB HB.out⟩⟩
        ·
         rw [if_neg c18] at H
         exact absurd H (by simp)
    ·
     rw [if_neg c6] at H
     exact absurd H (by simp)
   ·
    rw [if_neg c5] at H
    exact absurd H (by simp)
end Go.Proofs.Ytmmjkebboonnkaa.P
/- F27 -/
namespace Go.Proofs.Ytmmjkebboonnkaa.P
open Go.RowKit Go.Proofs.YtmmjkebboonnkaaW.PrintWords Go.Proofs.YtmmjkebboonnkaaW.PrintLast Go.Proofs.YtmmjkebboonnkaaW.PrintMore
attribute [local go_sem] max2_int min2_int max_two min_two max_three min_three max_four min_four   -- for this text's walks alone
set_option linter.unusedVariables false
set_option linter.unusedSimpArgs false
def larchlaw17_copied.f (l0 : List (S49)) : Option ((List (S49))) := (some (([] : List (S49)) : List (S49))).bind fun y276 => (if y276.length + l0.length < 2932031007402 then (some (y276 ++ l0)) else (none))
set_option maxHeartbeats 8000000 in
set_option maxRecDepth 100000 in
theorem larchlaw17_copied.calls (A0 : Option Addr) (c0 : Nat) (l0 : List (S49)) (r : List (S49)) (w : World) (hr0 : Kd.C k49 w A0 l0.length l0) (hc0 : l0.length ≤ c0) (h : larchlaw17_copied.f l0 = some r) :
  Calls Try.prog 10 #[.slice A0 l0.length c0] w fun e w' => ∃ v0_ : Value, e = .returned (v0_) ∧ Kd.R k49 49 w' w.heap.size (fun _ => True) v0_ r ∧ Below w.heap.size w w' := by
 have HR0 := asd hr0
 have HC0 := asd hc0
 clear hr0 hc0
 have HB := asd (Below.refl w.heap.size w)
 have H : ((some (([] : List (S49)) : List (S49))).bind fun y276 => (if y276.length + l0.length < 2932031007402 then (some (y276 ++ l0)) else (none))) = some r := h
 clear h
 obtain ⟨y276, hy276⟩ : ∃ y_ : List (S49), y_ = (([] : List (S49))) := ⟨_, rfl⟩
 replace H : (if y276.length + l0.length < 2932031007402 then (some (y276 ++ l0)) else (none)) = some r := by first | (rw [hy276]; with_reducible exact H) | (have H2_ := (Option.bind_some _ _).symm.trans H; rw [hy276]; with_reducible exact H2_) | (have H2_ := (Option.bind_some _ _).symm.trans H; with_reducible exact H2_) | with_reducible exact H | (rw [hy276]; exact H) | exact H
 have Ny276 := asd hy276
 clear hy276
 by_cases c2 : y276.length + l0.length < 2932031007402
 ·
  rw [if_pos c2] at H
  have LMc2 := asd c2
  clear c2
  obtain ⟨y279, hy279⟩ : ∃ y_ : List (S49), y_ = (y276 ++ l0) := ⟨_, rfl⟩
  replace H : (some y279) = some r := by first | (rw [hy279]; with_reducible exact H) | (have H2_ := (Option.bind_some _ _).symm.trans H; rw [hy279]; with_reducible exact H2_) | (have H2_ := (Option.bind_some _ _).symm.trans H; with_reducible exact H2_) | with_reducible exact H | (rw [hy279]; exact H) | exact H
  have Ny279 := asd hy279
  clear hy279
  obtain rfl := Option.some.inj H
  go_enter Try.func10, Try.ntmps10
  go_wp2_with (first | ((with_reducible refine gate_dst (N := 3) rfl ?_); refine Kd.R_lit k49 _ 49 ?hg (N := 3) ?hd (xs := ([] : List (S49))) (inner := []) (ok := fun _ => True) (okp := fun _ => True) ?hr ?hp (fun _ hk => hk) trivial (Below.refl _ _) (Nat.le_refl _) (by simp) ?_; (case hd => rfl); (case hg => rfl); (case hr => first | (go_simp; done) | (go_simp; rfl)); (case hp => exact (Reps.none _ _)); intro v277 w3 ho4 hb hg_ hnew_; clear hg_ hnew_; (first | rw [← Ny276.out] at ho4 | (simp only [Int.reduceToNat] at ho4; rw [← Ny276.out] at ho4)); have n0_ := asd (Kd.R_lower ho4 (below_size (skB HB.out))); have n1_ := asd (below_step (skB HB.out) hb); clear HB; have HO278 := n0_; have HB := n1_; clear n0_ n1_; clear hb ho4) | ((with_reducible refine gate_builtin (b := .append) (xs := #[.tmp 3, .tmp 4]) rfl ?_); at_builtin; refine Kd.R_append_rows k49 (w0 := w) w.heap.size rfl (.tmp 3) (.tmp 4) 22 49 (.agg #[(.int .i64 0), (.int .i64 0), (.int .i64 0), (.int .i64 0), (.int .i64 0), (.int .i64 0)]) 48 rfl Try.underlying22 info49 rfl (by decide) (by omega) v277 y276 l0 _ _ _ (fun _ => True) (fun _ => False) rfl rfl ?aO ?aR (fun _ _ h => h) (fun _ h => h.elim) ?aF ?aB ?aS ?aL ?_; (case aR => exact skC (Kd.C_below HR0.out HB.out)); (case aB => exact (skB HB.out)); (case aF => exact (fun _ _ => trivial)); (case aO => exact (skR HO278.out)); (case aS => exact (below_size (skB HB.out))); (case aL => have := LMc2.out; omega); intro v280 w5 ho hb hg hat; rw [← Ny279.out] at ho; have n0_ := asd (hb); have n1_ := asd (ho); clear HB; clear HO278; have HB := n0_; have HO281 := n1_; clear n0_ n1_; clear ho hb hg hat))
  go_ret
  exact ⟨_, re, skR HO281.out, skB HB.out⟩
 ·
  rw [if_neg c2] at H
  exact absurd H (by simp)
end Go.Proofs.Ytmmjkebboonnkaa.P
/- F44 -/
namespace Go.Proofs.Ytmmjkebboonnkaa.P
open Go.RowKit Go.Proofs.YtmmjkebboonnkaaW.PrintWords Go.Proofs.YtmmjkebboonnkaaW.PrintLast Go.Proofs.YtmmjkebboonnkaaW.PrintMore
attribute [local go_sem] max2_int min2_int max_two min_two max_three min_three max_four min_four   -- for this text's walks alone
set_option linter.unusedVariables false
set_option linter.unusedSimpArgs false
end Go.Proofs.Ytmmjkebboonnkaa.P
/- F48 -/
namespace Go.Proofs.Ytmmjkebboonnkaa.P
open Go.RowKit Go.Proofs.YtmmjkebboonnkaaW.PrintWords Go.Proofs.YtmmjkebboonnkaaW.PrintLast Go.Proofs.YtmmjkebboonnkaaW.PrintMore
attribute [local go_sem] max2_int min2_int max_two min_two max_three min_three max_four min_four   -- for this text's walks alone
set_option linter.unusedVariables false
set_option linter.unusedSimpArgs false
attribute [local go_sem high] eqA49
end Go.Proofs.Ytmmjkebboonnkaa.P
/- F50 -/
namespace Go.Proofs.Ytmmjkebboonnkaa.P
open Go.RowKit Go.Proofs.YtmmjkebboonnkaaW.PrintWords Go.Proofs.YtmmjkebboonnkaaW.PrintLast Go.Proofs.YtmmjkebboonnkaaW.PrintMore
attribute [local go_sem] max2_int min2_int max_two min_two max_three min_three max_four min_four   -- for this text's walks alone
set_option linter.unusedVariables false
set_option linter.unusedSimpArgs false
def larchref17_sums.l0 : Nat → List (S49) → List Int → List Int → Int → Option (List Int)
 | 0, _, _, _, _ => none
 | k + 1, x0, x1, x5, x6 => if x6 < (x1.length : Int) then (if 0 ≤ x6 then (if 0 ≤ (rd x1 x6) then (if (rd x1 x6) < (x0.length : Int) then (if x6 = 0 then (if (rd x1 x6) < (x5.length : Int) then ((some (x5.set ((rd x1 x6) : Int).toNat ((J49 x0 (rd x1 x6)).f2) : List Int)).bind fun y592 => ((larchref17_leaf.f ((J49 x0 (rd x1 x6)).f0) ((J49 x0 (rd x1 x6)).f1) ((J49 x0 (rd x1 x6)).f2) ((J49 x0 (rd x1 x6)).f3) ((J49 x0 (rd x1 x6)).f4) ((J49 x0 (rd x1 x6)).f5)).bind fun t593 => (if t593 = true then (larchref17_sums.l0 k x0 x1 y592 (wrap64 (x6 + 1))) else (if 0 ≤ ((J49 x0 (rd x1 x6)).f4) then (if ((J49 x0 (rd x1 x6)).f4) < (x0.length : Int) then (if ((J49 x0 (rd x1 x6)).f4) < (x5.length : Int) then ((some (y592.set (((J49 x0 (rd x1 x6)).f4) : Int).toNat (wrap64 ((rd y592 (rd x1 x6)) + ((J49 x0 ((J49 x0 (rd x1 x6)).f4)).f2))) : List Int)).bind fun y597 => (if 0 ≤ ((J49 x0 (rd x1 x6)).f5) then (if ((J49 x0 (rd x1 x6)).f5) < (x0.length : Int) then (if ((J49 x0 (rd x1 x6)).f5) < (x5.length : Int) then (larchref17_sums.l0 k x0 x1 (y597.set (((J49 x0 (rd x1 x6)).f5) : Int).toNat (wrap64 ((rd y597 (rd x1 x6)) + ((J49 x0 ((J49 x0 (rd x1 x6)).f5)).f2)))) (wrap64 (x6 + 1))) else (none)) else (none)) else (none))) else (none)) else (none)) else (none))))) else (none)) else ((larchref17_leaf.f ((J49 x0 (rd x1 x6)).f0) ((J49 x0 (rd x1 x6)).f1) ((J49 x0 (rd x1 x6)).f2) ((J49 x0 (rd x1 x6)).f3) ((J49 x0 (rd x1 x6)).f4) ((J49 x0 (rd x1 x6)).f5)).bind fun t602 => (if t602 = true then (larchref17_sums.l0 k x0 x1 x5 (wrap64 (x6 + 1))) else (if (rd x1 x6) < (x5.length : Int) then (if 0 ≤ ((J49 x0 (rd x1 x6)).f4) then (if ((J49 x0 (rd x1 x6)).f4) < (x0.length : Int) then (if ((J49 x0 (rd x1 x6)).f4) < (x5.length : Int) then ((some (x5.set (((J49 x0 (rd x1 x6)).f4) : Int).toNat (wrap64 ((rd x5 (rd x1 x6)) + ((J49 x0 ((J49 x0 (rd x1 x6)).f4)).f2))) : List Int)).bind fun y606 => (if 0 ≤ ((J49 x0 (rd x1 x6)).f5) then (if ((J49 x0 (rd x1 x6)).f5) < (x0.length : Int) then (if ((J49 x0 (rd x1 x6)).f5) < (x5.length : Int) then (larchref17_sums.l0 k x0 x1 (y606.set (((J49 x0 (rd x1 x6)).f5) : Int).toNat (wrap64 ((rd y606 (rd x1 x6)) + ((J49 x0 ((J49 x0 (rd x1 x6)).f5)).f2)))) (wrap64 (x6 + 1))) else (none)) else (none)) else (none))) else (none)) else (none)) else (none)) else (none))))) else (none)) else (none)) else (none)) else (some x5)
def larchref17_sums.f (k : Nat) (l0 : List (S49)) (l1 : List Int) : Option (List Int) := if 0 ≤ (l0.length : Int) then (if ((l0.length : Int) : Int).toNat ≤ 35184372088832 then (larchref17_sums.l0 k l0 l1 (List.replicate ((l0.length : Int) : Int).toNat 0) 0) else (none)) else (none)
def larchref17_sums.T7 : Bool × List (List Nat × List Nat) := (true, [([], []), ([], []), ([], []), ([1, 2], [1, 2]), ([3], [3]), ([], []), ([5], [5]), ([0, 4, 0, 1, 2, 3, 4, 5, 6], [0, 4]), ([7, 6, 0, 1, 2, 3, 4, 5, 6], [6, 7])])
def larchref17_sums.B7 : List Nat := [0, 0, 0, 6, 14, 0, 32, 127, 255]
theorem larchref17_sums.tab7 : rtab .any (opsOf Try.f56 7) = larchref17_sums.T7 := by kernel_rfl
theorem larchref17_sums.bits7 : waitsOk larchref17_sums.T7.2 larchref17_sums.B7 = true := by kernel_rfl
def larchref17_sums.T9 : Bool × List (List Nat × List Nat) := (true, [([], []), ([], []), ([1], [1]), ([], []), ([], []), ([], []), ([4, 5], [4, 5]), ([6], [6]), ([3, 7], [3, 7]), ([8], [8]), ([], []), ([], []), ([11], [11]), ([10, 12], [10, 12]), ([13], [13]), ([14], [14]), ([9, 15], [9, 15]), ([0, 2, 0, 1, 2, 3, 4, 5, 6, 7, 8, 9, 10, 11, 12, 13, 14, 15, 16], [0, 2]), ([17, 16, 0, 1, 2, 3, 4, 5, 6, 7, 8, 9, 10, 11, 12, 13, 14, 15, 16], [16, 17])])
def larchref17_sums.B9 : List Nat := [0, 0, 2, 0, 0, 0, 48, 112, 248, 504, 0, 0, 2048, 7168, 15360, 31744, 65528, 131071, 262143]
theorem larchref17_sums.tab9 : rtab .any (opsOf Try.f56 9) = larchref17_sums.T9 := by kernel_rfl
theorem larchref17_sums.bits9 : waitsOk larchref17_sums.T9.2 larchref17_sums.B9 = true := by kernel_rfl
def larchref17_sums.T10 : Bool × List (List Nat × List Nat) := (true, [([], []), ([], []), ([1], [1]), ([], []), ([], []), ([], []), ([4, 5], [4, 5]), ([6], [6]), ([3, 7], [3, 7]), ([8], [8]), ([], []), ([], []), ([11], [11]), ([10, 12], [10, 12]), ([13], [13]), ([14], [14]), ([9, 15], [9, 15]), ([0, 2, 0, 1, 2, 3, 4, 5, 6, 7, 8, 9, 10, 11, 12, 13, 14, 15, 16], [0, 2]), ([17, 16, 0, 1, 2, 3, 4, 5, 6, 7, 8, 9, 10, 11, 12, 13, 14, 15, 16], [16, 17])])
def larchref17_sums.B10 : List Nat := [0, 0, 2, 0, 0, 0, 48, 112, 248, 504, 0, 0, 2048, 7168, 15360, 31744, 65528, 131071, 262143]
theorem larchref17_sums.tab10 : rtab .any (opsOf Try.f56 10) = larchref17_sums.T10 := by kernel_rfl
theorem larchref17_sums.bits10 : waitsOk larchref17_sums.T10.2 larchref17_sums.B10 = true := by kernel_rfl
set_option maxHeartbeats 8000000 in
set_option maxRecDepth 100000 in
theorem larchref17_sums.calls (k : Nat) (A0 : Option Addr) (c0 : Nat) (l0 : List (S49)) (A1 : Option Addr) (c1 : Nat) (l1 : List Int) (r : List Int) (w : World) (hr0 : Kd.C k49 w A0 l0.length l0) (hc0 : l0.length ≤ c0) (hr1 : Kd.C (Kd.int .i64) w A1 l1.length l1) (hc1 : l1.length ≤ c1) (h : larchref17_sums.f k l0 l1 = some r) :
  Calls Try.prog 56 #[.slice A0 l0.length c0, .slice A1 l1.length c1] w fun e w' => ∃ v0_ : Value, e = .returned (v0_) ∧ Kd.R (Kd.int .i64) 3 w' w.heap.size (fun _ => True) v0_ r ∧ Below w.heap.size w w' := by
 have hu49 := Try.underlying49
 have HR0 := asd hr0
 have HC0 := asd hc0
 clear hr0 hc0
 have HR1 := asd hr1
 have HC1 := asd hc1
 clear hr1 hc1
 have HB := asd (Below.refl w.heap.size w)
 have H : (if 0 ≤ (l0.length : Int) then (if ((l0.length : Int) : Int).toNat ≤ 35184372088832 then (larchref17_sums.l0 k l0 l1 (List.replicate ((l0.length : Int) : Int).toNat 0) 0) else (none)) else (none)) = some r := h
 clear h
 by_cases c3 : 0 ≤ (l0.length : Int)
 ·
  rw [if_pos c3] at H
  have c3b0 := eq_true c3
  have c3b1 : decide (0 ≤ (l0.length : Int)) = true := decide_eq_true c3
  clear c3
  by_cases c4 : ((l0.length : Int) : Int).toNat ≤ 35184372088832
  ·
   rw [if_pos c4] at H
   have c4b0 := eq_true c4
   have c4b1 : decide (((l0.length : Int) : Int).toNat ≤ 35184372088832) = true := decide_eq_true c4
   clear c4
   obtain ⟨y585, hy585⟩ : ∃ y_ : List Int, y_ = (List.replicate ((l0.length : Int) : Int).toNat 0) := ⟨_, rfl⟩
   replace H : (larchref17_sums.l0 k l0 l1 y585 0) = some r := by first | (rw [hy585]; with_reducible exact H) | (have H2_ := (Option.bind_some _ _).symm.trans H; rw [hy585]; with_reducible exact H2_) | (have H2_ := (Option.bind_some _ _).symm.trans H; with_reducible exact H2_) | with_reducible exact H | (rw [hy585]; exact H) | exact H
   have Ny585 := asd hy585
   clear hy585
   have H' := asd H
   clear H
   go_enter Try.func56, Try.ntmps56
   go_wp2_with (first | ((with_reducible refine gate_dst (N := 10) rfl ?_); refine Kd.R_make (Kd.int .i64) _ 3 rfl (N := 10) rfl 23 _ _ rfl (l0.length : Int) rfl rfl Try.underlying23 (.int .i64 0) 8 info3 rfl (by decide) (by omega) 0 (ok := fun _ => True) (okp := fun _ => True) rfl (fun _ hk => hk) trivial dt (Nat.le_trans (Nat.mul_le_mul_right _ (dt : (l0.length : Int).toNat ≤ 35184372088832)) (by omega)) (Below.refl _ _) (Nat.le_refl _) ?_; intro v586 w5 ho6 hb hg_ hnew_; clear hg_ hnew_; (first | rw [← Ny585.out] at ho6 | (simp only [Int.reduceToNat] at ho6; rw [← Ny585.out] at ho6)); have n0_ := asd (Kd.R_lower ho6 (below_size (skB HB.out))); have n1_ := asd (below_step (skB HB.out) hb); clear HB; have HO587 := n0_; have HB := n1_; clear n0_ n1_; clear hb ho6))
   go_loopg [6] k (fun kq v6 w' => ∃ (x5_1 : List Int) (x6_1 : Int), v6 = .int .i64 x6_1 ∧ Aside0 (larchref17_sums.l0 kq l0 l1 x5_1 x6_1 = some r) ∧ Aside0 (kq ≤ k) ∧ Aside0 (Kd.R (Kd.int .i64) 3 w' w.heap.size (fun _ => True) v586 x5_1) ∧ Aside0 (Below w.heap.size w w'))
   case atStart => exact ⟨(y585), (0), rs, H', ⟨Nat.le_refl _⟩, ⟨skR HO587.out⟩, ⟨skB HB.out⟩⟩
   case round =>
    clear H'
    try clear c1
    try clear p2
    try clear c3
    try clear c3b0
    try clear c3b1
    try clear c4
    try clear c4b0
    try clear c4b1
    try clear c5
    obtain ⟨x5_1, x6_1, rfl, HA, HK1, HO_5, HB⟩ := hrel
    cases gk with
    | zero => exact absurd HA.out (by simp [larchref17_sums.l0])
    | succ k1 =>
     have H := HA.out
     clear HA
     simp only [larchref17_sums.l0] at H
     by_cases c7 : x6_1 < (l1.length : Int)
     ·
      rw [if_pos c7] at H
      have c7b0 : decide (x6_1 < (l1.length : Int)) = true := decide_eq_true c7
      clear c7
      by_cases c8 : 0 ≤ x6_1
      ·
       rw [if_pos c8] at H
       have c8b0 : decide (0 ≤ x6_1) = true := decide_eq_true c8
       clear c8
       by_cases c9 : 0 ≤ (rd l1 x6_1)
       ·
        rw [if_pos c9] at H
        have c9b0 : decide (0 ≤ (rd l1 x6_1)) = true := decide_eq_true c9
        clear c9
        by_cases c10 : (rd l1 x6_1) < (l0.length : Int)
        ·
         rw [if_pos c10] at H
         have c10b0 : decide ((rd l1 x6_1) < (l0.length : Int)) = true := decide_eq_true c10
         clear c10
         by_cases c11 : x6_1 = 0
         ·
          rw [if_pos c11] at H
          have c11b0 : (x6_1 == 0) = true := beq_iff_eq.mpr c11
          have c11b1 : (x6_1 != 0) = false := bne_eq_false_iff_eq.mpr c11
          clear c11
          by_cases c12 : (rd l1 x6_1) < (x5_1.length : Int)
          ·
           rw [if_pos c12] at H
           have c12b0 : decide ((rd l1 x6_1) < (x5_1.length : Int)) = true := decide_eq_true c12
           clear c12
           obtain ⟨y592, hy592⟩ : ∃ y_ : List Int, y_ = (x5_1.set ((rd l1 x6_1) : Int).toNat ((J49 l0 (rd l1 x6_1)).f2)) := ⟨_, rfl⟩
           replace H : ((larchref17_leaf.f ((J49 l0 (rd l1 x6_1)).f0) ((J49 l0 (rd l1 x6_1)).f1) ((J49 l0 (rd l1 x6_1)).f2) ((J49 l0 (rd l1 x6_1)).f3) ((J49 l0 (rd l1 x6_1)).f4) ((J49 l0 (rd l1 x6_1)).f5)).bind fun t593 => (if t593 = true then (larchref17_sums.l0 k1 l0 l1 y592 (wrap64 (x6_1 + 1))) else (if 0 ≤ ((J49 l0 (rd l1 x6_1)).f4) then (if ((J49 l0 (rd l1 x6_1)).f4) < (l0.length : Int) then (if ((J49 l0 (rd l1 x6_1)).f4) < (x5_1.length : Int) then ((some (y592.set (((J49 l0 (rd l1 x6_1)).f4) : Int).toNat (wrap64 ((rd y592 (rd l1 x6_1)) + ((J49 l0 ((J49 l0 (rd l1 x6_1)).f4)).f2))) : List Int)).bind fun y597 => (if 0 ≤ ((J49 l0 (rd l1 x6_1)).f5) then (if ((J49 l0 (rd l1 x6_1)).f5) < (l0.length : Int) then (if ((J49 l0 (rd l1 x6_1)).f5) < (x5_1.length : Int) then (larchref17_sums.l0 k1 l0 l1 (y597.set (((J49 l0 (rd l1 x6_1)).f5) : Int).toNat (wrap64 ((rd y597 (rd l1 x6_1)) + ((J49 l0 ((J49 l0 (rd l1 x6_1)).f5)).f2)))) (wrap64 (x6_1 + 1))) else (none)) else (none)) else (none))) else (none)) else (none)) else (none)))) = some r := by first | (rw [hy592]; with_reducible exact H) | (have H2_ := (Option.bind_some _ _).symm.trans H; rw [hy592]; with_reducible exact H2_) | (have H2_ := (Option.bind_some _ _).symm.trans H; with_reducible exact H2_) | with_reducible exact H | (rw [hy592]; exact H) | exact H
           have Ny592 := asd hy592
           clear hy592
           replace H := Option.bind_eq_some_iff.mp H
           obtain ⟨t593, A140, H⟩ := H
           replace H : (if t593 = true then (larchref17_sums.l0 k1 l0 l1 y592 (wrap64 (x6_1 + 1))) else (if 0 ≤ ((J49 l0 (rd l1 x6_1)).f4) then (if ((J49 l0 (rd l1 x6_1)).f4) < (l0.length : Int) then (if ((J49 l0 (rd l1 x6_1)).f4) < (x5_1.length : Int) then ((some (y592.set (((J49 l0 (rd l1 x6_1)).f4) : Int).toNat (wrap64 ((rd y592 (rd l1 x6_1)) + ((J49 l0 ((J49 l0 (rd l1 x6_1)).f4)).f2))) : List Int)).bind fun y597 => (if 0 ≤ ((J49 l0 (rd l1 x6_1)).f5) then (if ((J49 l0 (rd l1 x6_1)).f5) < (l0.length : Int) then (if ((J49 l0 (rd l1 x6_1)).f5) < (x5_1.length : Int) then (larchref17_sums.l0 k1 l0 l1 (y597.set (((J49 l0 (rd l1 x6_1)).f5) : Int).toNat (wrap64 ((rd y597 (rd l1 x6_1)) + ((J49 l0 ((J49 l0 (rd l1 x6_1)).f5)).f2)))) (wrap64 (x6_1 + 1))) else (none)) else (none)) else (none))) else (none)) else (none)) else (none))) = some r := H
           have A14 := asd A140
           clear A140
           by_cases c15 : t593 = true
           ·
            subst c15
            have H1 : (larchref17_sums.l0 k1 l0 l1 y592 (wrap64 (x6_1 + 1))) = some r := by rw [if_pos rfl] at H; exact H
            clear H
            have H := H1
            clear H1
            have H' := asd H
            clear H
            have p588 : 0 ≤ (x6_1 : Int) := dt
            have q588 : x6_1 < (l1.length : Int) := dt
            obtain ⟨ad588, e588, hx588_0⟩ := Kd.at_int HR1.out x6_1 p588 q588
            cases e588
            replace hx588_0 := skc HB.out hx588_0
            replace p588 := eq_true p588
            replace q588 := eq_true q588
            have p589 : 0 ≤ ((rd l1 x6_1) : Int) := dt
            have q589 : (rd l1 x6_1) < (l0.length : Int) := dt
            obtain ⟨ad589, e589, hx589_0, hx589_1, hx589_2, hx589_3, hx589_4, hx589_5⟩ := at_T49 HR0.out (rd l1 x6_1) p589 q589
            cases e589
            replace hx589_0 := skc HB.out hx589_0
            replace hx589_1 := skc HB.out hx589_1
            replace hx589_2 := skc HB.out hx589_2
            replace hx589_3 := skc HB.out hx589_3
            replace hx589_4 := skc HB.out hx589_4
            replace hx589_5 := skc HB.out hx589_5
            replace p589 := eq_true p589
            replace q589 := eq_true q589
            try go_wp2_with (first | ((with_reducible refine gate_dst (N := 7) rfl ?_); refine box_event ?hg (N := 7) ?hd (cs := #[.int .i64 0, .int .i64 0, .int .i64 0, .int .i64 0, .int .i64 0, .int .i64 0]) (t := 49) ?hr ?_; (case hd => rfl); (case hg => rfl); (case hr => first | (go_simp; done) | (go_simp; rfl)); intro gb590 hg w16 hbox hb; have n0_ := asd (Kd.R_below (skR HO_5.out) hb); have n1_ := asd (below_step (skB HB.out) hb); have n2_ := asd (hbox); have n3_ := asd ((by rw [hg]; exact (below_size (skB HB.out)) : w.heap.size ≤ gb590)); have n4_ := asd ((by rw [hg]; exact (below_size (skB HB.out)) : w.heap.size ≤ gb590)); clear HO_5; clear HB; have HO_5 := n0_; have HB := n1_; have BK590 := n2_; have GW590 := n3_; have GE590 := n4_; clear n0_ n1_ n2_ n3_ n4_; clear hb hbox hg; obtain ⟨hcz17_0, hcz17_1, hcz17_2, hcz17_3, hcz17_4, hcz17_5, hfz17_0, hfz17_1, hfz17_2, hfz17_3, hfz17_4, hfz17_5⟩ := bk6 BK590.out))
            have n0_ : Aside0 (Kd.R (Kd.int .i64) 3 ((((((w16.setCell ⟨gb590, 0, none⟩ (.int .i64 ((J49 l0 (rd l1 x6_1)).f0))).setCell ⟨gb590, 1, none⟩ (.int .i64 ((J49 l0 (rd l1 x6_1)).f1))).setCell ⟨gb590, 2, none⟩ (.int .i64 ((J49 l0 (rd l1 x6_1)).f2))).setCell ⟨gb590, 3, none⟩ (.int .i64 ((J49 l0 (rd l1 x6_1)).f3))).setCell ⟨gb590, 4, none⟩ (.int .i64 ((J49 l0 (rd l1 x6_1)).f4))).setCell ⟨gb590, 5, none⟩ (.int .i64 ((J49 l0 (rd l1 x6_1)).f5))) w.heap.size (fun _ => True) v586 x5_1) := ⟨skR (Kd.R_mono (Kd.R_far (p := ⟨gb590, 5, none⟩) (Kd.R_far (p := ⟨gb590, 4, none⟩) (Kd.R_far (p := ⟨gb590, 3, none⟩) (Kd.R_far (p := ⟨gb590, 2, none⟩) (Kd.R_far (p := ⟨gb590, 1, none⟩) (Kd.R_far (p := ⟨gb590, 0, none⟩) (Kd.R_types HO_5.out BK590.out (by decide)) (fun _ hk => hk.2) (.int .i64 ((J49 l0 (rd l1 x6_1)).f0))) (fun _ hk => hk.2) (.int .i64 ((J49 l0 (rd l1 x6_1)).f1))) (fun _ hk => hk.2) (.int .i64 ((J49 l0 (rd l1 x6_1)).f2))) (fun _ hk => hk.2) (.int .i64 ((J49 l0 (rd l1 x6_1)).f3))) (fun _ hk => hk.2) (.int .i64 ((J49 l0 (rd l1 x6_1)).f4))) (fun _ hk => hk.2) (.int .i64 ((J49 l0 (rd l1 x6_1)).f5))) (fun _ hk => trivial))⟩
            have n1_ : Aside0 (((((((w16.setCell ⟨gb590, 0, none⟩ (.int .i64 ((J49 l0 (rd l1 x6_1)).f0))).setCell ⟨gb590, 1, none⟩ (.int .i64 ((J49 l0 (rd l1 x6_1)).f1))).setCell ⟨gb590, 2, none⟩ (.int .i64 ((J49 l0 (rd l1 x6_1)).f2))).setCell ⟨gb590, 3, none⟩ (.int .i64 ((J49 l0 (rd l1 x6_1)).f3))).setCell ⟨gb590, 4, none⟩ (.int .i64 ((J49 l0 (rd l1 x6_1)).f4))).setCell ⟨gb590, 5, none⟩ (.int .i64 ((J49 l0 (rd l1 x6_1)).f5))).heap[gb590]? = some (.cells #[.int .i64 ((J49 l0 (rd l1 x6_1)).f0), .int .i64 ((J49 l0 (rd l1 x6_1)).f1), .int .i64 ((J49 l0 (rd l1 x6_1)).f2), .int .i64 ((J49 l0 (rd l1 x6_1)).f3), .int .i64 ((J49 l0 (rd l1 x6_1)).f4), .int .i64 ((J49 l0 (rd l1 x6_1)).f5)] 49 (0, 0))) := ⟨by refine skk ?_; refine blk_put (cs := #[.int .i64 ((J49 l0 (rd l1 x6_1)).f0), .int .i64 ((J49 l0 (rd l1 x6_1)).f1), .int .i64 ((J49 l0 (rd l1 x6_1)).f2), .int .i64 ((J49 l0 (rd l1 x6_1)).f3), .int .i64 ((J49 l0 (rd l1 x6_1)).f4), .int .i64 0]) ?_ 5 _ rfl; refine skk ?_; refine blk_put (cs := #[.int .i64 ((J49 l0 (rd l1 x6_1)).f0), .int .i64 ((J49 l0 (rd l1 x6_1)).f1), .int .i64 ((J49 l0 (rd l1 x6_1)).f2), .int .i64 ((J49 l0 (rd l1 x6_1)).f3), .int .i64 0, .int .i64 0]) ?_ 4 _ rfl; refine skk ?_; refine blk_put (cs := #[.int .i64 ((J49 l0 (rd l1 x6_1)).f0), .int .i64 ((J49 l0 (rd l1 x6_1)).f1), .int .i64 ((J49 l0 (rd l1 x6_1)).f2), .int .i64 0, .int .i64 0, .int .i64 0]) ?_ 3 _ rfl; refine skk ?_; refine blk_put (cs := #[.int .i64 ((J49 l0 (rd l1 x6_1)).f0), .int .i64 ((J49 l0 (rd l1 x6_1)).f1), .int .i64 0, .int .i64 0, .int .i64 0, .int .i64 0]) ?_ 2 _ rfl; refine skk ?_; refine blk_put (cs := #[.int .i64 ((J49 l0 (rd l1 x6_1)).f0), .int .i64 0, .int .i64 0, .int .i64 0, .int .i64 0, .int .i64 0]) ?_ 1 _ rfl; refine skk ?_; refine blk_put (cs := #[.int .i64 0, .int .i64 0, .int .i64 0, .int .i64 0, .int .i64 0, .int .i64 0]) ?_ 0 _ rfl; refine skk ?_; exact BK590.out⟩
            have n2_ : Aside0 (Below w.heap.size w ((((((w16.setCell ⟨gb590, 0, none⟩ (.int .i64 ((J49 l0 (rd l1 x6_1)).f0))).setCell ⟨gb590, 1, none⟩ (.int .i64 ((J49 l0 (rd l1 x6_1)).f1))).setCell ⟨gb590, 2, none⟩ (.int .i64 ((J49 l0 (rd l1 x6_1)).f2))).setCell ⟨gb590, 3, none⟩ (.int .i64 ((J49 l0 (rd l1 x6_1)).f3))).setCell ⟨gb590, 4, none⟩ (.int .i64 ((J49 l0 (rd l1 x6_1)).f4))).setCell ⟨gb590, 5, none⟩ (.int .i64 ((J49 l0 (rd l1 x6_1)).f5)))) := ⟨skG HB.out GE590.out GE590.out⟩
            (try clear HO_5)
            (try clear BK590)
            (try clear HB)
            generalize ((((((w16.setCell ⟨gb590, 0, none⟩ (.int .i64 ((J49 l0 (rd l1 x6_1)).f0))).setCell ⟨gb590, 1, none⟩ (.int .i64 ((J49 l0 (rd l1 x6_1)).f1))).setCell ⟨gb590, 2, none⟩ (.int .i64 ((J49 l0 (rd l1 x6_1)).f2))).setCell ⟨gb590, 3, none⟩ (.int .i64 ((J49 l0 (rd l1 x6_1)).f3))).setCell ⟨gb590, 4, none⟩ (.int .i64 ((J49 l0 (rd l1 x6_1)).f4))).setCell ⟨gb590, 5, none⟩ (.int .i64 ((J49 l0 (rd l1 x6_1)).f5))) = w18 at n0_ n1_ n2_ ⊢
            have HO_5 := n0_
            have BK590 := n1_
            have HB := n2_
            clear n0_ n1_ n2_
            have n0_ := asd (Kd.R_drew HO_5.out)
            have n1_ := asd (blk_drew BK590.out)
            have n2_ := asd (below_drew1 HB.out)
            clear HO_5
            clear BK590
            clear HB
            have HO_5 := n0_
            have BK590 := n1_
            have HB := n2_
            clear n0_ n1_ n2_
            have p591 : 0 ≤ (x6_1 : Int) := dt
            have q591 : x6_1 < (l1.length : Int) := dt
            obtain ⟨ad591, e591, hx591_0⟩ := Kd.at_int HR1.out x6_1 p591 q591
            have hw591_0 := hx591_0
            obtain rfl : ad588 = ad591 := (by injection e591)
            replace hx591_0 := skc HB.out hx591_0
            replace p591 := eq_true p591
            replace q591 := eq_true q591
            have p13 : 0 ≤ ((rd l1 x6_1) : Int) := dt
            have q13 : ((rd l1 x6_1) : Int) < ((x5_1.length : Int) : Int) := dt
            obtain ⟨go13, co13, eo13, gb13, gl13, cl13, HG13⟩ := Kd.R_form HO_5.out (by omega)
            (first | cases eo13 | (injection eo13 with ea_ en_ ec_; (first | subst ea_ | (injection ea_ with ea_; subst ea_)); subst ec_; clear en_))
            have GB13 := asd gb13
            have GG13 := asd HG13
            clear gb13 gl13 HG13
            obtain ⟨hx13_0, hf13_0⟩ := Kd.R_celln 0 HO_5.out ((rd l1 x6_1) : Int) p13 q13
            replace p13 := eq_true p13
            replace q13 := eq_true q13
            have HP20 := Kd.R_putn HO_5.out ((rd l1 x6_1) : Int) ((J49 l0 (rd l1 x6_1)).f2)
            rw [← Ny592.out] at HP20
            have HQ20 := asd HP20
            clear HP20
            refine start_ (n := 9) (S := fun w' => w'.cell? ⟨gb590, 0, none⟩ = some (.int .i64 ((J49 l0 (rd l1 x6_1)).f0)) ∧ w'.cell? ⟨gb590, 1, none⟩ = some (.int .i64 ((J49 l0 (rd l1 x6_1)).f1)) ∧ w'.cell? ⟨gb590, 2, none⟩ = some (.int .i64 ((J49 l0 (rd l1 x6_1)).f2)) ∧ w'.cell? ⟨gb590, 3, none⟩ = some (.int .i64 ((J49 l0 (rd l1 x6_1)).f3)) ∧ w'.cell? ⟨gb590, 4, none⟩ = some (.int .i64 ((J49 l0 (rd l1 x6_1)).f4)) ∧ w'.cell? ⟨gb590, 5, none⟩ = some (.int .i64 ((J49 l0 (rd l1 x6_1)).f5)) ∧ w'.cell? (ad588.add (x6_1).toNat) = some (.int .i64 (rd l1 x6_1))) (ds := [8]) #[false,false,false,false,false,false,false,false,false] (by kernel_rfl) rfl rfl ⟨(blk_cell BK590.out 0).trans rfl, (blk_cell BK590.out 1).trans rfl, (blk_cell BK590.out 2).trans rfl, (blk_cell BK590.out 3).trans rfl, (blk_cell BK590.out 4).trans rfl, (blk_cell BK590.out 5).trans rfl, (skc HB.out hw591_0)⟩ (fun hHeld => ?_); refine with_tabW larchref17_sums.tab7 larchref17_sums.bits7 (fun HT_ HW_ => ?_)
            generalize w18.drew = w19 at HO_5 BK590 HB GG13 HQ20 hf13_0 hx13_0 hx591_0 hHeld ⊢
            refine pure_ (i := 0) (N := some 26) (v := ?_) (a' := ?_) #[true,false,false,false,false,false,false,false,false] rfl rfl (aK HT_.out) (fun _ _ _ h => h) (Or.inl ⟨by rfl, ?_⟩) ?_ ?_
            rotate_left
            ·
             intro w'
             go_simp
             with_reducible rfl
            rotate_left
            ·
             simp only [Act.put, sp]
             rfl
            refine pure_ (i := 1) (N := some 27) (v := ?_) (a' := ?_) #[true,true,false,false,false,false,false,false,false] rfl rfl (aK HT_.out) (fun _ _ _ h => h) (Or.inl ⟨by rfl, ?_⟩) ?_ ?_
            rotate_left
            ·
             intro w'
             go_simp
             with_reducible rfl
            rotate_left
            ·
             simp only [Act.put, sp]
             rfl
            refine pure_ (i := 2) (N := some 28) (v := ?_) (a' := ?_) #[true,true,true,false,false,false,false,false,false] rfl rfl (aK HT_.out) (fun _ _ _ h => h) (Or.inl ⟨by rfl, ?_⟩) ?_ ?_
            rotate_left
            ·
             intro w'
             go_simp
             with_reducible rfl
            rotate_left
            ·
             simp only [Act.put, sp]
             rfl
            refine pure_ (i := 3) (N := some 29) (v := ?_) (a' := ?_) #[true,true,true,true,false,false,false,false,false] rfl rfl (aK HT_.out) (fun _ _ _ h => h) (Or.inl ⟨by rfl, ?_⟩) ?_ ?_
            rotate_left
            ·
             intro w'
             go_simp
             with_reducible rfl
            rotate_left
            ·
             simp only [Act.put, sp]
             rfl
            refine pure_ (i := 5) (N := some 31) (v := ?_) (a' := ?_) #[true,true,true,true,false,true,false,false,false] rfl rfl (aK HT_.out) (fun _ _ _ h => h) (Or.inl ⟨by rfl, ?_⟩) ?_ ?_
            rotate_left
            ·
             intro w'
             go_simp
             with_reducible rfl
            rotate_left
            ·
             simp only [Act.put, sp]
             rfl
            refine take_ (i := 4) (N := some 30) (v := ?_) (a' := ?_) #[true,true,true,true,true,true,false,false,false] rfl rfl (take_ofW HT_.out HW_.out (by kernel_rfl)) (fun _ _ _ h => h) (Or.inl ⟨by rfl, ?_⟩) hHeld ?_ ?_
            rotate_left
            ·
             rintro w' ⟨s0, s1, s2, s3, s4, s5, s6⟩
             go_simp
             with_reducible rfl
            rotate_left
            ·
             simp only [Act.put, sp]
             rfl
            refine take_ (i := 6) (N := some 32) (v := ?_) (a' := ?_) #[true,true,true,true,true,true,true,false,false] rfl rfl (take_ofW HT_.out HW_.out (by kernel_rfl)) (fun _ _ _ h => h) (Or.inl ⟨by rfl, ?_⟩) hHeld ?_ ?_
            rotate_left
            ·
             rintro w' ⟨s0, s1, s2, s3, s4, s5, s6⟩
             go_simp
             with_reducible rfl
            rotate_left
            ·
             simp only [Act.put, sp]
             rfl
            refine pure_ (i := 7) (N := some 33) (v := ?_) (a' := ?_) #[true,true,true,true,true,true,true,true,false] rfl rfl (aK HT_.out) (fun _ _ _ h => h) (Or.inl ⟨by rfl, ?_⟩) ?_ ?_
            rotate_left
            ·
             intro w'
             go_simp
             with_reducible rfl
            rotate_left
            ·
             simp only [Act.put, sp]
             rfl
            refine last_ (i := 8) (N := none) #[true,true,true,true,true,true,true,true,true] rfl rfl (one_of HT_.out (by kernel_rfl)) (by decide) (fun K hK => ?_)
            refine skip_ (w1 := ?_) (by rfl) rfl ?_ ?_
            rotate_left
            ·
             go_simp
             rfl
            refine hK.out _ _ ?_
            clear hK K
            refine done_ (done_of HT_.out (by kernel_rfl)) ?_
            obtain ⟨hcz21_0, hcz21_1, hcz21_2, hcz21_3, hcz21_4, hcz21_5, hfz21_0, hfz21_1, hfz21_2, hfz21_3, hfz21_4, hfz21_5⟩ := bk6 BK590.out
            try (have hneA_ : gb590 ≠ go13 := fun h_ => (Kd.R_ne HO_5.out BK590.out (by decide)) (by rw [h_]; rfl))
            try (have hneB_ : go13 ≠ gb590 := fun h_ => (Kd.R_ne HO_5.out BK590.out (by decide)) (by rw [← h_]; rfl))
            try go_wp2_with (first | ((with_reducible refine gate_callee (f := 53) rfl ?_); refine goesL_ (some 35) rfl rfl Try.func53 (by kernel_rfl) rfl #[.agg #[.int .i64 ((J49 l0 (rd l1 x6_1)).f0), .int .i64 ((J49 l0 (rd l1 x6_1)).f1), .int .i64 ((J49 l0 (rd l1 x6_1)).f2), .int .i64 ((J49 l0 (rd l1 x6_1)).f3), .int .i64 ((J49 l0 (rd l1 x6_1)).f4), .int .i64 ((J49 l0 (rd l1 x6_1)).f5)]] rfl ags ?_; (with_reducible refine (larchref17_leaf.calls ((J49 l0 (rd l1 x6_1)).f0) ((J49 l0 (rd l1 x6_1)).f1) ((J49 l0 (rd l1 x6_1)).f2) ((J49 l0 (rd l1 x6_1)).f3) ((J49 l0 (rd l1 x6_1)).f4) ((J49 l0 (rd l1 x6_1)).f5) true _ A14.out).mono ?_); rintro e w22 ⟨rfl, hb⟩; refine ⟨_, rfl, ?_⟩; have n0_ := asd (Kd.R_below (skR HQ20.out) hb); have n1_ := asd (blk_below (g := gb590) (o := .cells #[.int .i64 ((J49 l0 (rd l1 x6_1)).f0), .int .i64 ((J49 l0 (rd l1 x6_1)).f1), .int .i64 ((J49 l0 (rd l1 x6_1)).f2), .int .i64 ((J49 l0 (rd l1 x6_1)).f3), .int .i64 ((J49 l0 (rd l1 x6_1)).f4), .int .i64 ((J49 l0 (rd l1 x6_1)).f5)] 49 (0, 0)) (by refine skk ?_; refine blk_far ?_ (by have h_ := Kd.R_ne HO_5.out BK590.out (by decide); intro e_; exact h_ (by rw [e_]; rfl)) _; refine skk ?_; exact BK590.out) hb); have n2_ := asd (below_step (skG HB.out GB13.out GE590.out) hb); clear HO_5; clear BK590; clear HB; have HO_5 := n0_; have BK590 := n1_; have HB := n2_; clear n0_ n1_ n2_; (try clear hb); (try clear hb2); (try clear hk); (try clear hi)))
            go_roundg k1
            case measure => have := HK1.out; omega
            case rel => exact ⟨(y592), (wrap64 (x6_1 + 1)), rs, H', ⟨by have := HK1.out; omega⟩, ⟨skR HO_5.out⟩, ⟨skG HB.out GE590.out GE590.out⟩⟩
           ·
            replace c15 := Bool.eq_false_iff.mpr c15
            subst c15
            have H1 : (if 0 ≤ ((J49 l0 (rd l1 x6_1)).f4) then (if ((J49 l0 (rd l1 x6_1)).f4) < (l0.length : Int) then (if ((J49 l0 (rd l1 x6_1)).f4) < (x5_1.length : Int) then ((some (y592.set (((J49 l0 (rd l1 x6_1)).f4) : Int).toNat (wrap64 ((rd y592 (rd l1 x6_1)) + ((J49 l0 ((J49 l0 (rd l1 x6_1)).f4)).f2))) : List Int)).bind fun y597 => (if 0 ≤ ((J49 l0 (rd l1 x6_1)).f5) then (if ((J49 l0 (rd l1 x6_1)).f5) < (l0.length : Int) then (if ((J49 l0 (rd l1 x6_1)).f5) < (x5_1.length : Int) then (larchref17_sums.l0 k1 l0 l1 (y597.set (((J49 l0 (rd l1 x6_1)).f5) : Int).toNat (wrap64 ((rd y597 (rd l1 x6_1)) + ((J49 l0 ((J49 l0 (rd l1 x6_1)).f5)).f2)))) (wrap64 (x6_1 + 1))) else (none)) else (none)) else (none))) else (none)) else (none)) else (none)) = some r := by rw [if_neg (show ¬ (false = true) by decide)] at H; exact H
            clear H
            have H := H1
            clear H1
            by_cases c23 : 0 ≤ ((J49 l0 (rd l1 x6_1)).f4)
            ·
             rw [if_pos c23] at H
             have c23b0 : decide (0 ≤ ((J49 l0 (rd l1 x6_1)).f4)) = true := decide_eq_true c23
             clear c23
             by_cases c24 : ((J49 l0 (rd l1 x6_1)).f4) < (l0.length : Int)
             ·
              rw [if_pos c24] at H
              have c24b0 : decide (((J49 l0 (rd l1 x6_1)).f4) < (l0.length : Int)) = true := decide_eq_true c24
              clear c24
              by_cases c25 : ((J49 l0 (rd l1 x6_1)).f4) < (x5_1.length : Int)
              ·
               rw [if_pos c25] at H
               have c25b0 : decide (((J49 l0 (rd l1 x6_1)).f4) < (x5_1.length : Int)) = true := decide_eq_true c25
               clear c25
               obtain ⟨y597, hy597⟩ : ∃ y_ : List Int, y_ = (y592.set (((J49 l0 (rd l1 x6_1)).f4) : Int).toNat (wrap64 ((rd y592 (rd l1 x6_1)) + ((J49 l0 ((J49 l0 (rd l1 x6_1)).f4)).f2)))) := ⟨_, rfl⟩
               replace H : (if 0 ≤ ((J49 l0 (rd l1 x6_1)).f5) then (if ((J49 l0 (rd l1 x6_1)).f5) < (l0.length : Int) then (if ((J49 l0 (rd l1 x6_1)).f5) < (x5_1.length : Int) then (larchref17_sums.l0 k1 l0 l1 (y597.set (((J49 l0 (rd l1 x6_1)).f5) : Int).toNat (wrap64 ((rd y597 (rd l1 x6_1)) + ((J49 l0 ((J49 l0 (rd l1 x6_1)).f5)).f2)))) (wrap64 (x6_1 + 1))) else (none)) else (none)) else (none)) = some r := by first | (rw [hy597]; with_reducible exact H) | (have H2_ := (Option.bind_some _ _).symm.trans H; rw [hy597]; with_reducible exact H2_) | (have H2_ := (Option.bind_some _ _).symm.trans H; with_reducible exact H2_) | with_reducible exact H | (rw [hy597]; exact H) | exact H
               have Ny597 := asd hy597
               clear hy597
               by_cases c27 : 0 ≤ ((J49 l0 (rd l1 x6_1)).f5)
               ·
                rw [if_pos c27] at H
                have c27b0 : decide (0 ≤ ((J49 l0 (rd l1 x6_1)).f5)) = true := decide_eq_true c27
                clear c27
                by_cases c28 : ((J49 l0 (rd l1 x6_1)).f5) < (l0.length : Int)
                ·
                 rw [if_pos c28] at H
                 have c28b0 : decide (((J49 l0 (rd l1 x6_1)).f5) < (l0.length : Int)) = true := decide_eq_true c28
                 clear c28
                 by_cases c29 : ((J49 l0 (rd l1 x6_1)).f5) < (x5_1.length : Int)
                 ·
                  rw [if_pos c29] at H
                  have c29b0 : decide (((J49 l0 (rd l1 x6_1)).f5) < (x5_1.length : Int)) = true := decide_eq_true c29
                  clear c29
                  obtain ⟨y601, hy601⟩ : ∃ y_ : List Int, y_ = (y597.set (((J49 l0 (rd l1 x6_1)).f5) : Int).toNat (wrap64 ((rd y597 (rd l1 x6_1)) + ((J49 l0 ((J49 l0 (rd l1 x6_1)).f5)).f2)))) := ⟨_, rfl⟩
                  replace H : (larchref17_sums.l0 k1 l0 l1 y601 (wrap64 (x6_1 + 1))) = some r := by first | (rw [hy601]; with_reducible exact H) | (have H2_ := (Option.bind_some _ _).symm.trans H; rw [hy601]; with_reducible exact H2_) | (have H2_ := (Option.bind_some _ _).symm.trans H; with_reducible exact H2_) | with_reducible exact H | (rw [hy601]; exact H) | exact H
                  have Ny601 := asd hy601
                  clear hy601
                  have H' := asd H
                  clear H
                  have p588 : 0 ≤ (x6_1 : Int) := dt
                  have q588 : x6_1 < (l1.length : Int) := dt
                  obtain ⟨ad588, e588, hx588_0⟩ := Kd.at_int HR1.out x6_1 p588 q588
                  cases e588
                  replace hx588_0 := skc HB.out hx588_0
                  replace p588 := eq_true p588
                  replace q588 := eq_true q588
                  have p589 : 0 ≤ ((rd l1 x6_1) : Int) := dt
                  have q589 : (rd l1 x6_1) < (l0.length : Int) := dt
                  obtain ⟨ad589, e589, hx589_0, hx589_1, hx589_2, hx589_3, hx589_4, hx589_5⟩ := at_T49 HR0.out (rd l1 x6_1) p589 q589
                  cases e589
                  replace hx589_0 := skc HB.out hx589_0
                  replace hx589_1 := skc HB.out hx589_1
                  replace hx589_2 := skc HB.out hx589_2
                  replace hx589_3 := skc HB.out hx589_3
                  replace hx589_4 := skc HB.out hx589_4
                  replace hx589_5 := skc HB.out hx589_5
                  replace p589 := eq_true p589
                  replace q589 := eq_true q589
                  try go_wp2_with (first | ((with_reducible refine gate_dst (N := 7) rfl ?_); refine box_event ?hg (N := 7) ?hd (cs := #[.int .i64 0, .int .i64 0, .int .i64 0, .int .i64 0, .int .i64 0, .int .i64 0]) (t := 49) ?hr ?_; (case hd => rfl); (case hg => rfl); (case hr => first | (go_simp; done) | (go_simp; rfl)); intro gb590 hg w31 hbox hb; have n0_ := asd (Kd.R_below (skR HO_5.out) hb); have n1_ := asd (below_step (skB HB.out) hb); have n2_ := asd (hbox); have n3_ := asd ((by rw [hg]; exact (below_size (skB HB.out)) : w.heap.size ≤ gb590)); have n4_ := asd ((by rw [hg]; exact (below_size (skB HB.out)) : w.heap.size ≤ gb590)); clear HO_5; clear HB; have HO_5 := n0_; have HB := n1_; have BK590 := n2_; have GW590 := n3_; have GE590 := n4_; clear n0_ n1_ n2_ n3_ n4_; clear hb hbox hg; obtain ⟨hcz32_0, hcz32_1, hcz32_2, hcz32_3, hcz32_4, hcz32_5, hfz32_0, hfz32_1, hfz32_2, hfz32_3, hfz32_4, hfz32_5⟩ := bk6 BK590.out))
                  have n0_ : Aside0 (Kd.R (Kd.int .i64) 3 ((((((w31.setCell ⟨gb590, 0, none⟩ (.int .i64 ((J49 l0 (rd l1 x6_1)).f0))).setCell ⟨gb590, 1, none⟩ (.int .i64 ((J49 l0 (rd l1 x6_1)).f1))).setCell ⟨gb590, 2, none⟩ (.int .i64 ((J49 l0 (rd l1 x6_1)).f2))).setCell ⟨gb590, 3, none⟩ (.int .i64 ((J49 l0 (rd l1 x6_1)).f3))).setCell ⟨gb590, 4, none⟩ (.int .i64 ((J49 l0 (rd l1 x6_1)).f4))).setCell ⟨gb590, 5, none⟩ (.int .i64 ((J49 l0 (rd l1 x6_1)).f5))) w.heap.size (fun _ => True) v586 x5_1) := ⟨skR (Kd.R_mono (Kd.R_far (p := ⟨gb590, 5, none⟩) (Kd.R_far (p := ⟨gb590, 4, none⟩) (Kd.R_far (p := ⟨gb590, 3, none⟩) (Kd.R_far (p := ⟨gb590, 2, none⟩) (Kd.R_far (p := ⟨gb590, 1, none⟩) (Kd.R_far (p := ⟨gb590, 0, none⟩) (Kd.R_types HO_5.out BK590.out (by decide)) (fun _ hk => hk.2) (.int .i64 ((J49 l0 (rd l1 x6_1)).f0))) (fun _ hk => hk.2) (.int .i64 ((J49 l0 (rd l1 x6_1)).f1))) (fun _ hk => hk.2) (.int .i64 ((J49 l0 (rd l1 x6_1)).f2))) (fun _ hk => hk.2) (.int .i64 ((J49 l0 (rd l1 x6_1)).f3))) (fun _ hk => hk.2) (.int .i64 ((J49 l0 (rd l1 x6_1)).f4))) (fun _ hk => hk.2) (.int .i64 ((J49 l0 (rd l1 x6_1)).f5))) (fun _ hk => trivial))⟩
                  have n1_ : Aside0 (((((((w31.setCell ⟨gb590, 0, none⟩ (.int .i64 ((J49 l0 (rd l1 x6_1)).f0))).setCell ⟨gb590, 1, none⟩ (.int .i64 ((J49 l0 (rd l1 x6_1)).f1))).setCell ⟨gb590, 2, none⟩ (.int .i64 ((J49 l0 (rd l1 x6_1)).f2))).setCell ⟨gb590, 3, none⟩ (.int .i64 ((J49 l0 (rd l1 x6_1)).f3))).setCell ⟨gb590, 4, none⟩ (.int .i64 ((J49 l0 (rd l1 x6_1)).f4))).setCell ⟨gb590, 5, none⟩ (.int .i64 ((J49 l0 (rd l1 x6_1)).f5))).heap[gb590]? = some (.cells #[.int .i64 ((J49 l0 (rd l1 x6_1)).f0), .int .i64 ((J49 l0 (rd l1 x6_1)).f1), .int .i64 ((J49 l0 (rd l1 x6_1)).f2), .int .i64 ((J49 l0 (rd l1 x6_1)).f3), .int .i64 ((J49 l0 (rd l1 x6_1)).f4), .int .i64 ((J49 l0 (rd l1 x6_1)).f5)] 49 (0, 0))) := ⟨by refine skk ?_; refine blk_put (cs := #[.int .i64 ((J49 l0 (rd l1 x6_1)).f0), .int .i64 ((J49 l0 (rd l1 x6_1)).f1), .int .i64 ((J49 l0 (rd l1 x6_1)).f2), .int .i64 ((J49 l0 (rd l1 x6_1)).f3), .int .i64 ((J49 l0 (rd l1 x6_1)).f4), .int .i64 0]) ?_ 5 _ rfl; refine skk ?_; refine blk_put (cs := #[.int .i64 ((J49 l0 (rd l1 x6_1)).f0), .int .i64 ((J49 l0 (rd l1 x6_1)).f1), .int .i64 ((J49 l0 (rd l1 x6_1)).f2), .int .i64 ((J49 l0 (rd l1 x6_1)).f3), .int .i64 0, .int .i64 0]) ?_ 4 _ rfl; refine skk ?_; refine blk_put (cs := #[.int .i64 ((J49 l0 (rd l1 x6_1)).f0), .int .i64 ((J49 l0 (rd l1 x6_1)).f1), .int .i64 ((J49 l0 (rd l1 x6_1)).f2), .int .i64 0, .int .i64 0, .int .i64 0]) ?_ 3 _ rfl; refine skk ?_; refine blk_put (cs := #[.int .i64 ((J49 l0 (rd l1 x6_1)).f0), .int .i64 ((J49 l0 (rd l1 x6_1)).f1), .int .i64 0, .int .i64 0, .int .i64 0, .int .i64 0]) ?_ 2 _ rfl; refine skk ?_; refine blk_put (cs := #[.int .i64 ((J49 l0 (rd l1 x6_1)).f0), .int .i64 0, .int .i64 0, .int .i64 0, .int .i64 0, .int .i64 0]) ?_ 1 _ rfl; refine skk ?_; refine blk_put (cs := #[.int .i64 0, .int .i64 0, .int .i64 0, .int .i64 0, .int .i64 0, .int .i64 0]) ?_ 0 _ rfl; refine skk ?_; exact BK590.out⟩
                  have n2_ : Aside0 (Below w.heap.size w ((((((w31.setCell ⟨gb590, 0, none⟩ (.int .i64 ((J49 l0 (rd l1 x6_1)).f0))).setCell ⟨gb590, 1, none⟩ (.int .i64 ((J49 l0 (rd l1 x6_1)).f1))).setCell ⟨gb590, 2, none⟩ (.int .i64 ((J49 l0 (rd l1 x6_1)).f2))).setCell ⟨gb590, 3, none⟩ (.int .i64 ((J49 l0 (rd l1 x6_1)).f3))).setCell ⟨gb590, 4, none⟩ (.int .i64 ((J49 l0 (rd l1 x6_1)).f4))).setCell ⟨gb590, 5, none⟩ (.int .i64 ((J49 l0 (rd l1 x6_1)).f5)))) := ⟨skG HB.out GE590.out GE590.out⟩
                  (try clear HO_5)
                  (try clear BK590)
                  (try clear HB)
                  generalize ((((((w31.setCell ⟨gb590, 0, none⟩ (.int .i64 ((J49 l0 (rd l1 x6_1)).f0))).setCell ⟨gb590, 1, none⟩ (.int .i64 ((J49 l0 (rd l1 x6_1)).f1))).setCell ⟨gb590, 2, none⟩ (.int .i64 ((J49 l0 (rd l1 x6_1)).f2))).setCell ⟨gb590, 3, none⟩ (.int .i64 ((J49 l0 (rd l1 x6_1)).f3))).setCell ⟨gb590, 4, none⟩ (.int .i64 ((J49 l0 (rd l1 x6_1)).f4))).setCell ⟨gb590, 5, none⟩ (.int .i64 ((J49 l0 (rd l1 x6_1)).f5))) = w33 at n0_ n1_ n2_ ⊢
                  have HO_5 := n0_
                  have BK590 := n1_
                  have HB := n2_
                  clear n0_ n1_ n2_
                  have n0_ := asd (Kd.R_drew HO_5.out)
                  have n1_ := asd (blk_drew BK590.out)
                  have n2_ := asd (below_drew1 HB.out)
                  clear HO_5
                  clear BK590
                  clear HB
                  have HO_5 := n0_
                  have BK590 := n1_
                  have HB := n2_
                  clear n0_ n1_ n2_
                  have p591 : 0 ≤ (x6_1 : Int) := dt
                  have q591 : x6_1 < (l1.length : Int) := dt
                  obtain ⟨ad591, e591, hx591_0⟩ := Kd.at_int HR1.out x6_1 p591 q591
                  have hw591_0 := hx591_0
                  obtain rfl : ad588 = ad591 := (by injection e591)
                  replace hx591_0 := skc HB.out hx591_0
                  replace p591 := eq_true p591
                  replace q591 := eq_true q591
                  have p13 : 0 ≤ ((rd l1 x6_1) : Int) := dt
                  have q13 : ((rd l1 x6_1) : Int) < ((x5_1.length : Int) : Int) := dt
                  obtain ⟨go13, co13, eo13, gb13, gl13, cl13, HG13⟩ := Kd.R_form HO_5.out (by omega)
                  (first | cases eo13 | (injection eo13 with ea_ en_ ec_; (first | subst ea_ | (injection ea_ with ea_; subst ea_)); subst ec_; clear en_))
                  have GB13 := asd gb13
                  have GG13 := asd HG13
                  clear gb13 gl13 HG13
                  obtain ⟨hx13_0, hf13_0⟩ := Kd.R_celln 0 HO_5.out ((rd l1 x6_1) : Int) p13 q13
                  replace p13 := eq_true p13
                  replace q13 := eq_true q13
                  have HP35 := Kd.R_putn HO_5.out ((rd l1 x6_1) : Int) ((J49 l0 (rd l1 x6_1)).f2)
                  rw [← Ny592.out] at HP35
                  have HQ35 := asd HP35
                  clear HP35
                  refine start_ (n := 9) (S := fun w' => w'.cell? ⟨gb590, 0, none⟩ = some (.int .i64 ((J49 l0 (rd l1 x6_1)).f0)) ∧ w'.cell? ⟨gb590, 1, none⟩ = some (.int .i64 ((J49 l0 (rd l1 x6_1)).f1)) ∧ w'.cell? ⟨gb590, 2, none⟩ = some (.int .i64 ((J49 l0 (rd l1 x6_1)).f2)) ∧ w'.cell? ⟨gb590, 3, none⟩ = some (.int .i64 ((J49 l0 (rd l1 x6_1)).f3)) ∧ w'.cell? ⟨gb590, 4, none⟩ = some (.int .i64 ((J49 l0 (rd l1 x6_1)).f4)) ∧ w'.cell? ⟨gb590, 5, none⟩ = some (.int .i64 ((J49 l0 (rd l1 x6_1)).f5)) ∧ w'.cell? (ad588.add (x6_1).toNat) = some (.int .i64 (rd l1 x6_1))) (ds := [8]) #[false,false,false,false,false,false,false,false,false] (by kernel_rfl) rfl rfl ⟨(blk_cell BK590.out 0).trans rfl, (blk_cell BK590.out 1).trans rfl, (blk_cell BK590.out 2).trans rfl, (blk_cell BK590.out 3).trans rfl, (blk_cell BK590.out 4).trans rfl, (blk_cell BK590.out 5).trans rfl, (skc HB.out hw591_0)⟩ (fun hHeld => ?_); refine with_tabW larchref17_sums.tab7 larchref17_sums.bits7 (fun HT_ HW_ => ?_)
                  generalize w33.drew = w34 at HO_5 BK590 HB GG13 HQ35 hf13_0 hx13_0 hx591_0 hHeld ⊢
                  refine pure_ (i := 0) (N := some 26) (v := ?_) (a' := ?_) #[true,false,false,false,false,false,false,false,false] rfl rfl (aK HT_.out) (fun _ _ _ h => h) (Or.inl ⟨by rfl, ?_⟩) ?_ ?_
                  rotate_left
                  ·
                   intro w'
                   go_simp
                   with_reducible rfl
                  rotate_left
                  ·
                   simp only [Act.put, sp]
                   rfl
                  refine pure_ (i := 1) (N := some 27) (v := ?_) (a' := ?_) #[true,true,false,false,false,false,false,false,false] rfl rfl (aK HT_.out) (fun _ _ _ h => h) (Or.inl ⟨by rfl, ?_⟩) ?_ ?_
                  rotate_left
                  ·
                   intro w'
                   go_simp
                   with_reducible rfl
                  rotate_left
                  ·
                   simp only [Act.put, sp]
                   rfl
                  refine pure_ (i := 2) (N := some 28) (v := ?_) (a' := ?_) #[true,true,true,false,false,false,false,false,false] rfl rfl (aK HT_.out) (fun _ _ _ h => h) (Or.inl ⟨by rfl, ?_⟩) ?_ ?_
                  rotate_left
                  ·
                   intro w'
                   go_simp
                   with_reducible rfl
                  rotate_left
                  ·
                   simp only [Act.put, sp]
                   rfl
                  refine pure_ (i := 3) (N := some 29) (v := ?_) (a' := ?_) #[true,true,true,true,false,false,false,false,false] rfl rfl (aK HT_.out) (fun _ _ _ h => h) (Or.inl ⟨by rfl, ?_⟩) ?_ ?_
                  rotate_left
                  ·
                   intro w'
                   go_simp
                   with_reducible rfl
                  rotate_left
                  ·
                   simp only [Act.put, sp]
                   rfl
                  refine pure_ (i := 5) (N := some 31) (v := ?_) (a' := ?_) #[true,true,true,true,false,true,false,false,false] rfl rfl (aK HT_.out) (fun _ _ _ h => h) (Or.inl ⟨by rfl, ?_⟩) ?_ ?_
                  rotate_left
                  ·
                   intro w'
                   go_simp
                   with_reducible rfl
                  rotate_left
                  ·
                   simp only [Act.put, sp]
                   rfl
                  refine take_ (i := 4) (N := some 30) (v := ?_) (a' := ?_) #[true,true,true,true,true,true,false,false,false] rfl rfl (take_ofW HT_.out HW_.out (by kernel_rfl)) (fun _ _ _ h => h) (Or.inl ⟨by rfl, ?_⟩) hHeld ?_ ?_
                  rotate_left
                  ·
                   rintro w' ⟨s0, s1, s2, s3, s4, s5, s6⟩
                   go_simp
                   with_reducible rfl
                  rotate_left
                  ·
                   simp only [Act.put, sp]
                   rfl
                  refine take_ (i := 6) (N := some 32) (v := ?_) (a' := ?_) #[true,true,true,true,true,true,true,false,false] rfl rfl (take_ofW HT_.out HW_.out (by kernel_rfl)) (fun _ _ _ h => h) (Or.inl ⟨by rfl, ?_⟩) hHeld ?_ ?_
                  rotate_left
                  ·
                   rintro w' ⟨s0, s1, s2, s3, s4, s5, s6⟩
                   go_simp
                   with_reducible rfl
                  rotate_left
                  ·
                   simp only [Act.put, sp]
                   rfl
                  refine pure_ (i := 7) (N := some 33) (v := ?_) (a' := ?_) #[true,true,true,true,true,true,true,true,false] rfl rfl (aK HT_.out) (fun _ _ _ h => h) (Or.inl ⟨by rfl, ?_⟩) ?_ ?_
                  rotate_left
                  ·
                   intro w'
                   go_simp
                   with_reducible rfl
                  rotate_left
                  ·
                   simp only [Act.put, sp]
                   rfl
                  refine last_ (i := 8) (N := none) #[true,true,true,true,true,true,true,true,true] rfl rfl (one_of HT_.out (by kernel_rfl)) (by decide) (fun K hK => ?_)
                  refine skip_ (w1 := ?_) (by rfl) rfl ?_ ?_
                  rotate_left
                  ·
                   go_simp
                   rfl
                  refine hK.out _ _ ?_
                  clear hK K
                  refine done_ (done_of HT_.out (by kernel_rfl)) ?_
                  obtain ⟨hcz36_0, hcz36_1, hcz36_2, hcz36_3, hcz36_4, hcz36_5, hfz36_0, hfz36_1, hfz36_2, hfz36_3, hfz36_4, hfz36_5⟩ := bk6 BK590.out
                  try (have hneA_ : gb590 ≠ go13 := fun h_ => (Kd.R_ne HO_5.out BK590.out (by decide)) (by rw [h_]; rfl))
                  try (have hneB_ : go13 ≠ gb590 := fun h_ => (Kd.R_ne HO_5.out BK590.out (by decide)) (by rw [← h_]; rfl))
                  try go_wp2_with (first | ((with_reducible refine gate_callee (f := 53) rfl ?_); refine goesL_ (some 35) rfl rfl Try.func53 (by kernel_rfl) rfl #[.agg #[.int .i64 ((J49 l0 (rd l1 x6_1)).f0), .int .i64 ((J49 l0 (rd l1 x6_1)).f1), .int .i64 ((J49 l0 (rd l1 x6_1)).f2), .int .i64 ((J49 l0 (rd l1 x6_1)).f3), .int .i64 ((J49 l0 (rd l1 x6_1)).f4), .int .i64 ((J49 l0 (rd l1 x6_1)).f5)]] rfl ags ?_; (with_reducible refine (larchref17_leaf.calls ((J49 l0 (rd l1 x6_1)).f0) ((J49 l0 (rd l1 x6_1)).f1) ((J49 l0 (rd l1 x6_1)).f2) ((J49 l0 (rd l1 x6_1)).f3) ((J49 l0 (rd l1 x6_1)).f4) ((J49 l0 (rd l1 x6_1)).f5) false _ A14.out).mono ?_); rintro e w37 ⟨rfl, hb⟩; refine ⟨_, rfl, ?_⟩; have n0_ := asd (Kd.R_below (skR HQ35.out) hb); have n1_ := asd (blk_below (g := gb590) (o := .cells #[.int .i64 ((J49 l0 (rd l1 x6_1)).f0), .int .i64 ((J49 l0 (rd l1 x6_1)).f1), .int .i64 ((J49 l0 (rd l1 x6_1)).f2), .int .i64 ((J49 l0 (rd l1 x6_1)).f3), .int .i64 ((J49 l0 (rd l1 x6_1)).f4), .int .i64 ((J49 l0 (rd l1 x6_1)).f5)] 49 (0, 0)) (by refine skk ?_; refine blk_far ?_ (by have h_ := Kd.R_ne HO_5.out BK590.out (by decide); intro e_; exact h_ (by rw [e_]; rfl)) _; refine skk ?_; exact BK590.out) hb); have n2_ := asd (below_step (skG HB.out GB13.out GE590.out) hb); clear HO_5; clear BK590; clear HB; have HO_5 := n0_; have BK590 := n1_; have HB := n2_; clear n0_ n1_ n2_; (try clear hb); (try clear hb2); (try clear hk); (try clear hi)))
                  have n0_ := asd (Kd.R_drew HO_5.out)
                  have n1_ := asd (blk_drew BK590.out)
                  have n2_ := asd (below_drew1 HB.out)
                  clear HO_5
                  clear BK590
                  clear HB
                  have HO_5 := n0_
                  have BK590 := n1_
                  have HB := n2_
                  clear n0_ n1_ n2_
                  have p594 : 0 ≤ (x6_1 : Int) := dt
                  have q594 : x6_1 < (l1.length : Int) := dt
                  obtain ⟨ad594, e594, hx594_0⟩ := Kd.at_int HR1.out x6_1 p594 q594
                  have hw594_0 := hx594_0
                  obtain rfl : ad588 = ad594 := (by injection e594)
                  replace hx594_0 := skc HB.out hx594_0
                  replace p594 := eq_true p594
                  replace q594 := eq_true q594
                  have p595 : 0 ≤ ((rd l1 x6_1) : Int) := dt
                  have q595 : (rd l1 x6_1) < (y592.length : Int) := (by have h_ : ((rd l1 x6_1) : Int) < ((x5_1.length : Int) : Int) := dt; first | (have e_ := (Kd.R_reads' HO_5.out).1; omega) | simpa only [Ny592.out, List.length_set] using h_)
                  have ql595 : (((rd l1 x6_1) : Int) < ((x5_1.length : Int) : Int)) = True := eq_true dt
                  obtain ⟨ad595, e595, hx595_0⟩ := Kd.at_int (Kd.R_reads' HO_5.out).2.2 (rd l1 x6_1) p595 q595
                  obtain rfl : (⟨go13, 0, none⟩ : Addr) = ad595 := (by injection e595)
                  (first | simp only [add_plain] at hx595_0 | simp only [add_at] at hx595_0 | simp only [Addr.add, Nat.zero_add] at hx595_0 | skip)
                  replace p595 := eq_true p595
                  replace q595 := eq_true q595
                  have p596 : 0 ≤ (((J49 l0 (rd l1 x6_1)).f4) : Int) := dt
                  have q596 : ((J49 l0 (rd l1 x6_1)).f4) < (l0.length : Int) := dt
                  obtain ⟨ad596, e596, hx596_0, hx596_1, hx596_2, hx596_3, hx596_4, hx596_5⟩ := at_T49 HR0.out ((J49 l0 (rd l1 x6_1)).f4) p596 q596
                  have hw596_5 := hx596_5
                  have hw596_4 := hx596_4
                  have hw596_3 := hx596_3
                  have hw596_2 := hx596_2
                  have hw596_1 := hx596_1
                  have hw596_0 := hx596_0
                  obtain rfl : ad589 = ad596 := (by injection e596)
                  replace hx596_0 := skc HB.out hx596_0
                  replace hx596_1 := skc HB.out hx596_1
                  replace hx596_2 := skc HB.out hx596_2
                  replace hx596_3 := skc HB.out hx596_3
                  replace hx596_4 := skc HB.out hx596_4
                  replace hx596_5 := skc HB.out hx596_5
                  replace p596 := eq_true p596
                  replace q596 := eq_true q596
                  have p26 : 0 ≤ (((J49 l0 (rd l1 x6_1)).f4) : Int) := dt
                  have q26 : (((J49 l0 (rd l1 x6_1)).f4) : Int) < ((x5_1.length : Int) : Int) := dt
                  obtain ⟨hx26_0, hf26_0⟩ := Kd.R_celln 0 HO_5.out (((J49 l0 (rd l1 x6_1)).f4) : Int) p26 q26
                  replace p26 := eq_true p26
                  replace q26 := eq_true q26
                  have HP39 := Kd.R_putn HO_5.out (((J49 l0 (rd l1 x6_1)).f4) : Int) (wrap64 ((rd y592 (rd l1 x6_1)) + ((J49 l0 ((J49 l0 (rd l1 x6_1)).f4)).f2)))
                  rw [← Ny597.out] at HP39
                  have HQ39 := asd HP39
                  clear HP39
                  refine start_ (n := 19) (S := fun w' => w'.cell? ⟨gb590, 0, none⟩ = some (.int .i64 ((J49 l0 (rd l1 x6_1)).f0)) ∧ w'.cell? ⟨gb590, 1, none⟩ = some (.int .i64 ((J49 l0 (rd l1 x6_1)).f1)) ∧ w'.cell? ⟨gb590, 2, none⟩ = some (.int .i64 ((J49 l0 (rd l1 x6_1)).f2)) ∧ w'.cell? ⟨gb590, 3, none⟩ = some (.int .i64 ((J49 l0 (rd l1 x6_1)).f3)) ∧ w'.cell? ⟨gb590, 4, none⟩ = some (.int .i64 ((J49 l0 (rd l1 x6_1)).f4)) ∧ w'.cell? ⟨gb590, 5, none⟩ = some (.int .i64 ((J49 l0 (rd l1 x6_1)).f5)) ∧ w'.cell? (ad588.add (x6_1).toNat) = some (.int .i64 (rd l1 x6_1)) ∧ w'.cell? ⟨go13, ((rd l1 x6_1)).toNat, none⟩ = some (.int .i64 (rd y592 (rd l1 x6_1))) ∧ w'.cell? (ad589.add ((((J49 l0 (rd l1 x6_1)).f4)).toNat * 6)) = some (.int .i64 ((J49 l0 ((J49 l0 (rd l1 x6_1)).f4)).f0)) ∧ w'.cell? ⟨(ad589.add ((((J49 l0 (rd l1 x6_1)).f4)).toNat * 6)).block, (ad589.add ((((J49 l0 (rd l1 x6_1)).f4)).toNat * 6)).off + 1, none⟩ = some (.int .i64 ((J49 l0 ((J49 l0 (rd l1 x6_1)).f4)).f1)) ∧ w'.cell? ⟨(ad589.add ((((J49 l0 (rd l1 x6_1)).f4)).toNat * 6)).block, (ad589.add ((((J49 l0 (rd l1 x6_1)).f4)).toNat * 6)).off + 2, none⟩ = some (.int .i64 ((J49 l0 ((J49 l0 (rd l1 x6_1)).f4)).f2)) ∧ w'.cell? ⟨(ad589.add ((((J49 l0 (rd l1 x6_1)).f4)).toNat * 6)).block, (ad589.add ((((J49 l0 (rd l1 x6_1)).f4)).toNat * 6)).off + 3, none⟩ = some (.int .i64 ((J49 l0 ((J49 l0 (rd l1 x6_1)).f4)).f3)) ∧ w'.cell? ⟨(ad589.add ((((J49 l0 (rd l1 x6_1)).f4)).toNat * 6)).block, (ad589.add ((((J49 l0 (rd l1 x6_1)).f4)).toNat * 6)).off + 4, none⟩ = some (.int .i64 ((J49 l0 ((J49 l0 (rd l1 x6_1)).f4)).f4)) ∧ w'.cell? ⟨(ad589.add ((((J49 l0 (rd l1 x6_1)).f4)).toNat * 6)).block, (ad589.add ((((J49 l0 (rd l1 x6_1)).f4)).toNat * 6)).off + 5, none⟩ = some (.int .i64 ((J49 l0 ((J49 l0 (rd l1 x6_1)).f4)).f5))) (ds := [18]) #[false,false,false,false,false,false,false,false,false,false,false,false,false,false,false,false,false,false,false] (by kernel_rfl) rfl rfl ⟨(blk_cell BK590.out 0).trans rfl, (blk_cell BK590.out 1).trans rfl, (blk_cell BK590.out 2).trans rfl, (blk_cell BK590.out 3).trans rfl, (blk_cell BK590.out 4).trans rfl, (blk_cell BK590.out 5).trans rfl, (skc HB.out hw594_0), hx595_0, (skc HB.out hw596_0), (skc HB.out hw596_1), (skc HB.out hw596_2), (skc HB.out hw596_3), (skc HB.out hw596_4), (skc HB.out hw596_5)⟩ (fun hHeld => ?_); refine with_tabW larchref17_sums.tab9 larchref17_sums.bits9 (fun HT_ HW_ => ?_)
                  generalize w37.drew = w38 at HO_5 BK590 HB HQ39 hf26_0 hx26_0 hx594_0 hx595_0 hx596_0 hx596_1 hx596_2 hx596_3 hx596_4 hx596_5 hHeld ⊢
                  refine pure_ (i := 0) (N := some 37) (v := ?_) (a' := ?_) #[true,false,false,false,false,false,false,false,false,false,false,false,false,false,false,false,false,false,false] rfl rfl (aK HT_.out) (fun _ _ _ h => h) (Or.inl ⟨by rfl, ?_⟩) ?_ ?_
                  rotate_left
                  ·
                   intro w'
                   go_simp
                   with_reducible rfl
                  rotate_left
                  ·
                   simp only [Act.put, sp]
                   rfl
                  refine pure_ (i := 1) (N := some 38) (v := ?_) (a' := ?_) #[true,true,false,false,false,false,false,false,false,false,false,false,false,false,false,false,false,false,false] rfl rfl (aK HT_.out) (fun _ _ _ h => h) (Or.inl ⟨by rfl, ?_⟩) ?_ ?_
                  rotate_left
                  ·
                   intro w'
                   go_simp
                   with_reducible rfl
                  rotate_left
                  ·
                   simp only [Act.put, sp]
                   rfl
                  refine pure_ (i := 3) (N := some 40) (v := ?_) (a' := ?_) #[true,true,false,true,false,false,false,false,false,false,false,false,false,false,false,false,false,false,false] rfl rfl (aK HT_.out) (fun _ _ _ h => h) (Or.inl ⟨by rfl, ?_⟩) ?_ ?_
                  rotate_left
                  ·
                   intro w'
                   go_simp
                   with_reducible rfl
                  rotate_left
                  ·
                   simp only [Act.put, sp]
                   rfl
                  refine pure_ (i := 4) (N := some 41) (v := ?_) (a' := ?_) #[true,true,false,true,true,false,false,false,false,false,false,false,false,false,false,false,false,false,false] rfl rfl (aK HT_.out) (fun _ _ _ h => h) (Or.inl ⟨by rfl, ?_⟩) ?_ ?_
                  rotate_left
                  ·
                   intro w'
                   go_simp
                   with_reducible rfl
                  rotate_left
                  ·
                   simp only [Act.put, sp]
                   rfl
                  refine pure_ (i := 5) (N := some 42) (v := ?_) (a' := ?_) #[true,true,false,true,true,true,false,false,false,false,false,false,false,false,false,false,false,false,false] rfl rfl (aK HT_.out) (fun _ _ _ h => h) (Or.inl ⟨by rfl, ?_⟩) ?_ ?_
                  rotate_left
                  ·
                   intro w'
                   go_simp
                   with_reducible rfl
                  rotate_left
                  ·
                   simp only [Act.put, sp]
                   rfl
                  refine pure_ (i := 6) (N := some 43) (v := ?_) (a' := ?_) #[true,true,false,true,true,true,true,false,false,false,false,false,false,false,false,false,false,false,false] rfl rfl (aK HT_.out) (fun _ _ _ h => h) (Or.inl ⟨by rfl, ?_⟩) ?_ ?_
                  rotate_left
                  ·
                   intro w'
                   go_simp
                   with_reducible rfl
                  rotate_left
                  ·
                   simp only [Act.put, sp]
                   rfl
                  refine pure_ (i := 10) (N := some 47) (v := ?_) (a' := ?_) #[true,true,false,true,true,true,true,false,false,false,true,false,false,false,false,false,false,false,false] rfl rfl (aK HT_.out) (fun _ _ _ h => h) (Or.inl ⟨by rfl, ?_⟩) ?_ ?_
                  rotate_left
                  ·
                   intro w'
                   go_simp
                   with_reducible rfl
                  rotate_left
                  ·
                   simp only [Act.put, sp]
                   rfl
                  refine pure_ (i := 11) (N := some 48) (v := ?_) (a' := ?_) #[true,true,false,true,true,true,true,false,false,false,true,true,false,false,false,false,false,false,false] rfl rfl (aK HT_.out) (fun _ _ _ h => h) (Or.inl ⟨by rfl, ?_⟩) ?_ ?_
                  rotate_left
                  ·
                   intro w'
                   go_simp
                   with_reducible rfl
                  rotate_left
                  ·
                   simp only [Act.put, sp]
                   rfl
                  refine take_ (i := 2) (N := some 39) (v := ?_) (a' := ?_) #[true,true,true,true,true,true,true,false,false,false,true,true,false,false,false,false,false,false,false] rfl rfl (take_ofW HT_.out HW_.out (by kernel_rfl)) (fun _ _ _ h => h) (Or.inl ⟨by rfl, ?_⟩) hHeld ?_ ?_
                  rotate_left
                  ·
                   rintro w' ⟨s0, s1, s2, s3, s4, s5, s6, s7, s8, s9, s10, s11, s12, s13⟩
                   go_simp
                   with_reducible rfl
                  rotate_left
                  ·
                   simp only [Act.put, sp]
                   rfl
                  refine take_ (i := 7) (N := some 44) (v := ?_) (a' := ?_) #[true,true,true,true,true,true,true,true,false,false,true,true,false,false,false,false,false,false,false] rfl rfl (take_ofW HT_.out HW_.out (by kernel_rfl)) (fun _ _ _ h => h) (Or.inl ⟨by rfl, ?_⟩) hHeld ?_ ?_
                  rotate_left
                  ·
                   rintro w' ⟨s0, s1, s2, s3, s4, s5, s6, s7, s8, s9, s10, s11, s12, s13⟩
                   go_simp
                   with_reducible rfl
                  rotate_left
                  ·
                   simp only [Act.put, sp]
                   rfl
                  refine pure_ (i := 8) (N := some 45) (v := ?_) (a' := ?_) #[true,true,true,true,true,true,true,true,true,false,true,true,false,false,false,false,false,false,false] rfl rfl (aK HT_.out) (fun _ _ _ h => h) (Or.inl ⟨by rfl, ?_⟩) ?_ ?_
                  rotate_left
                  ·
                   intro w'
                   go_simp
                   with_reducible rfl
                  rotate_left
                  ·
                   simp only [Act.put, sp]
                   rfl
                  refine take_ (i := 9) (N := some 46) (v := ?_) (a' := ?_) #[true,true,true,true,true,true,true,true,true,true,true,true,false,false,false,false,false,false,false] rfl rfl (take_ofW HT_.out HW_.out (by kernel_rfl)) (fun _ _ _ h => h) (Or.inl ⟨by rfl, ?_⟩) hHeld ?_ ?_
                  rotate_left
                  ·
                   rintro w' ⟨s0, s1, s2, s3, s4, s5, s6, s7, s8, s9, s10, s11, s12, s13⟩
                   go_simp
                   with_reducible rfl
                  rotate_left
                  ·
                   simp only [Act.put, sp]
                   rfl
                  refine take_ (i := 12) (N := some 49) (v := ?_) (a' := ?_) #[true,true,true,true,true,true,true,true,true,true,true,true,true,false,false,false,false,false,false] rfl rfl (take_ofW HT_.out HW_.out (by kernel_rfl)) (fun _ _ _ h => h) (Or.inl ⟨by rfl, ?_⟩) hHeld ?_ ?_
                  rotate_left
                  ·
                   rintro w' ⟨s0, s1, s2, s3, s4, s5, s6, s7, s8, s9, s10, s11, s12, s13⟩
                   go_simp
                   with_reducible rfl
                  rotate_left
                  ·
                   simp only [Act.put, sp]
                   rfl
                  refine pure_ (i := 13) (N := some 50) (v := ?_) (a' := ?_) #[true,true,true,true,true,true,true,true,true,true,true,true,true,true,false,false,false,false,false] rfl rfl (aK HT_.out) (fun _ _ _ h => h) (Or.inl ⟨by rfl, ?_⟩) ?_ ?_
                  rotate_left
                  ·
                   intro w'
                   go_simp
                   with_reducible rfl
                  rotate_left
                  ·
                   simp only [Act.put, sp]
                   rfl
                  refine pure_ (i := 14) (N := some 51) (v := ?_) (a' := ?_) #[true,true,true,true,true,true,true,true,true,true,true,true,true,true,true,false,false,false,false] rfl rfl (aK HT_.out) (fun _ _ _ h => h) (Or.inl ⟨by rfl, ?_⟩) ?_ ?_
                  rotate_left
                  ·
                   intro w'
                   go_simp
                   with_reducible rfl
                  rotate_left
                  ·
                   simp only [Act.put, sp]
                   rfl
                  refine take_ (i := 15) (N := some 52) (v := ?_) (a' := ?_) #[true,true,true,true,true,true,true,true,true,true,true,true,true,true,true,true,false,false,false] rfl rfl (take_ofW HT_.out HW_.out (by kernel_rfl)) (fun _ _ _ h => h) (Or.inl ⟨by rfl, ?_⟩) hHeld ?_ ?_
                  rotate_left
                  ·
                   rintro w' ⟨s0, s1, s2, s3, s4, s5, s6, s7, s8, s9, s10, s11, s12, s13⟩
                   go_simp
                   with_reducible rfl
                  rotate_left
                  ·
                   simp only [Act.put, sp]
                   rfl
                  refine pure_ (i := 16) (N := some 53) (v := ?_) (a' := ?_) #[true,true,true,true,true,true,true,true,true,true,true,true,true,true,true,true,true,false,false] rfl rfl (aK HT_.out) (fun _ _ _ h => h) (Or.inl ⟨by rfl, ?_⟩) ?_ ?_
                  rotate_left
                  ·
                   intro w'
                   go_simp
                   with_reducible rfl
                  rotate_left
                  ·
                   simp only [Act.put, sp]
                   rfl
                  refine pure_ (i := 17) (N := some 54) (v := ?_) (a' := ?_) #[true,true,true,true,true,true,true,true,true,true,true,true,true,true,true,true,true,true,false] rfl rfl (aK HT_.out) (fun _ _ _ h => h) (Or.inl ⟨by rfl, ?_⟩) ?_ ?_
                  rotate_left
                  ·
                   intro w'
                   go_simp
                   with_reducible rfl
                  rotate_left
                  ·
                   simp only [Act.put, sp]
                   rfl
                  refine last_ (i := 18) (N := none) #[true,true,true,true,true,true,true,true,true,true,true,true,true,true,true,true,true,true,true] rfl rfl (one_of HT_.out (by kernel_rfl)) (by decide) (fun K hK => ?_)
                  refine skip_ (w1 := ?_) (by rfl) rfl ?_ ?_
                  rotate_left
                  ·
                   go_simp
                   rfl
                  refine hK.out _ _ ?_
                  clear hK K
                  refine done_ (done_of HT_.out (by kernel_rfl)) ?_
                  try go_wp2
                  have n0_ : Aside0 (Kd.R (Kd.int .i64) 3 (w38.setCell ⟨go13, (((J49 l0 (rd l1 x6_1)).f4) : Int).toNat, none⟩ (.int .i64 (wrap64 ((rd y592 (rd l1 x6_1)) + ((J49 l0 ((J49 l0 (rd l1 x6_1)).f4)).f2))))) w.heap.size (fun _ => True) (.slice (some ⟨go13, 0, none⟩) x5_1.length co13) y597) := ⟨skR HQ39.out⟩
                  have n1_ : Aside0 ((w38.setCell ⟨go13, (((J49 l0 (rd l1 x6_1)).f4) : Int).toNat, none⟩ (.int .i64 (wrap64 ((rd y592 (rd l1 x6_1)) + ((J49 l0 ((J49 l0 (rd l1 x6_1)).f4)).f2))))).heap[gb590]? = some (.cells #[.int .i64 ((J49 l0 (rd l1 x6_1)).f0), .int .i64 ((J49 l0 (rd l1 x6_1)).f1), .int .i64 ((J49 l0 (rd l1 x6_1)).f2), .int .i64 ((J49 l0 (rd l1 x6_1)).f3), .int .i64 ((J49 l0 (rd l1 x6_1)).f4), .int .i64 ((J49 l0 (rd l1 x6_1)).f5)] 49 (0, 0))) := ⟨by refine skk ?_; refine blk_far ?_ (by have h_ := Kd.R_ne HO_5.out BK590.out (by decide); intro e_; exact h_ (by rw [e_]; rfl)) _; refine skk ?_; exact BK590.out⟩
                  have n2_ : Aside0 (Below w.heap.size w (w38.setCell ⟨go13, (((J49 l0 (rd l1 x6_1)).f4) : Int).toNat, none⟩ (.int .i64 (wrap64 ((rd y592 (rd l1 x6_1)) + ((J49 l0 ((J49 l0 (rd l1 x6_1)).f4)).f2)))))) := ⟨skG HB.out GB13.out GE590.out⟩
                  (try clear HO_5)
                  (try clear BK590)
                  (try clear HB)
                  generalize (w38.setCell ⟨go13, (((J49 l0 (rd l1 x6_1)).f4) : Int).toNat, none⟩ (.int .i64 (wrap64 ((rd y592 (rd l1 x6_1)) + ((J49 l0 ((J49 l0 (rd l1 x6_1)).f4)).f2))))) = w40 at n0_ n1_ n2_ ⊢
                  have HO_5 := n0_
                  have BK590 := n1_
                  have HB := n2_
                  clear n0_ n1_ n2_
                  have n0_ := asd (Kd.R_drew HO_5.out)
                  have n1_ := asd (blk_drew BK590.out)
                  have n2_ := asd (below_drew1 HB.out)
                  clear HO_5
                  clear BK590
                  clear HB
                  have HO_5 := n0_
                  have BK590 := n1_
                  have HB := n2_
                  clear n0_ n1_ n2_
                  have p598 : 0 ≤ (x6_1 : Int) := dt
                  have q598 : x6_1 < (l1.length : Int) := dt
                  obtain ⟨ad598, e598, hx598_0⟩ := Kd.at_int HR1.out x6_1 p598 q598
                  have hw598_0 := hx598_0
                  obtain rfl : ad588 = ad598 := (by injection e598)
                  replace hx598_0 := skc HB.out hx598_0
                  replace p598 := eq_true p598
                  replace q598 := eq_true q598
                  have p599 : 0 ≤ ((rd l1 x6_1) : Int) := dt
                  have q599 : (rd l1 x6_1) < (y597.length : Int) := (by have h_ : ((rd l1 x6_1) : Int) < ((x5_1.length : Int) : Int) := dt; first | (have e_ := (Kd.R_reads' HO_5.out).1; omega) | simpa only [Ny592.out, Ny597.out, List.length_set] using h_)
                  have ql599 : (((rd l1 x6_1) : Int) < ((x5_1.length : Int) : Int)) = True := eq_true dt
                  obtain ⟨ad599, e599, hx599_0⟩ := Kd.at_int (Kd.R_reads' HO_5.out).2.2 (rd l1 x6_1) p599 q599
                  obtain rfl : (⟨go13, 0, none⟩ : Addr) = ad599 := (by injection e599)
                  (first | simp only [add_plain] at hx599_0 | simp only [add_at] at hx599_0 | simp only [Addr.add, Nat.zero_add] at hx599_0 | skip)
                  replace p599 := eq_true p599
                  replace q599 := eq_true q599
                  have p600 : 0 ≤ (((J49 l0 (rd l1 x6_1)).f5) : Int) := dt
                  have q600 : ((J49 l0 (rd l1 x6_1)).f5) < (l0.length : Int) := dt
                  obtain ⟨ad600, e600, hx600_0, hx600_1, hx600_2, hx600_3, hx600_4, hx600_5⟩ := at_T49 HR0.out ((J49 l0 (rd l1 x6_1)).f5) p600 q600
                  have hw600_5 := hx600_5
                  have hw600_4 := hx600_4
                  have hw600_3 := hx600_3
                  have hw600_2 := hx600_2
                  have hw600_1 := hx600_1
                  have hw600_0 := hx600_0
                  obtain rfl : ad589 = ad600 := (by injection e600)
                  replace hx600_0 := skc HB.out hx600_0
                  replace hx600_1 := skc HB.out hx600_1
                  replace hx600_2 := skc HB.out hx600_2
                  replace hx600_3 := skc HB.out hx600_3
                  replace hx600_4 := skc HB.out hx600_4
                  replace hx600_5 := skc HB.out hx600_5
                  replace p600 := eq_true p600
                  replace q600 := eq_true q600
                  have p30 : 0 ≤ (((J49 l0 (rd l1 x6_1)).f5) : Int) := dt
                  have q30 : (((J49 l0 (rd l1 x6_1)).f5) : Int) < ((x5_1.length : Int) : Int) := dt
                  obtain ⟨hx30_0, hf30_0⟩ := Kd.R_celln 0 HO_5.out (((J49 l0 (rd l1 x6_1)).f5) : Int) p30 q30
                  replace p30 := eq_true p30
                  replace q30 := eq_true q30
                  have HP42 := Kd.R_putn HO_5.out (((J49 l0 (rd l1 x6_1)).f5) : Int) (wrap64 ((rd y597 (rd l1 x6_1)) + ((J49 l0 ((J49 l0 (rd l1 x6_1)).f5)).f2)))
                  rw [← Ny601.out] at HP42
                  have HQ42 := asd HP42
                  clear HP42
                  refine start_ (n := 19) (S := fun w' => w'.cell? ⟨gb590, 0, none⟩ = some (.int .i64 ((J49 l0 (rd l1 x6_1)).f0)) ∧ w'.cell? ⟨gb590, 1, none⟩ = some (.int .i64 ((J49 l0 (rd l1 x6_1)).f1)) ∧ w'.cell? ⟨gb590, 2, none⟩ = some (.int .i64 ((J49 l0 (rd l1 x6_1)).f2)) ∧ w'.cell? ⟨gb590, 3, none⟩ = some (.int .i64 ((J49 l0 (rd l1 x6_1)).f3)) ∧ w'.cell? ⟨gb590, 4, none⟩ = some (.int .i64 ((J49 l0 (rd l1 x6_1)).f4)) ∧ w'.cell? ⟨gb590, 5, none⟩ = some (.int .i64 ((J49 l0 (rd l1 x6_1)).f5)) ∧ w'.cell? (ad588.add (x6_1).toNat) = some (.int .i64 (rd l1 x6_1)) ∧ w'.cell? ⟨go13, ((rd l1 x6_1)).toNat, none⟩ = some (.int .i64 (rd y597 (rd l1 x6_1))) ∧ w'.cell? (ad589.add ((((J49 l0 (rd l1 x6_1)).f5)).toNat * 6)) = some (.int .i64 ((J49 l0 ((J49 l0 (rd l1 x6_1)).f5)).f0)) ∧ w'.cell? ⟨(ad589.add ((((J49 l0 (rd l1 x6_1)).f5)).toNat * 6)).block, (ad589.add ((((J49 l0 (rd l1 x6_1)).f5)).toNat * 6)).off + 1, none⟩ = some (.int .i64 ((J49 l0 ((J49 l0 (rd l1 x6_1)).f5)).f1)) ∧ w'.cell? ⟨(ad589.add ((((J49 l0 (rd l1 x6_1)).f5)).toNat * 6)).block, (ad589.add ((((J49 l0 (rd l1 x6_1)).f5)).toNat * 6)).off + 2, none⟩ = some (.int .i64 ((J49 l0 ((J49 l0 (rd l1 x6_1)).f5)).f2)) ∧ w'.cell? ⟨(ad589.add ((((J49 l0 (rd l1 x6_1)).f5)).toNat * 6)).block, (ad589.add ((((J49 l0 (rd l1 x6_1)).f5)).toNat * 6)).off + 3, none⟩ = some (.int .i64 ((J49 l0 ((J49 l0 (rd l1 x6_1)).f5)).f3)) ∧ w'.cell? ⟨(ad589.add ((((J49 l0 (rd l1 x6_1)).f5)).toNat * 6)).block, (ad589.add ((((J49 l0 (rd l1 x6_1)).f5)).toNat * 6)).off + 4, none⟩ = some (.int .i64 ((J49 l0 ((J49 l0 (rd l1 x6_1)).f5)).f4)) ∧ w'.cell? ⟨(ad589.add ((((J49 l0 (rd l1 x6_1)).f5)).toNat * 6)).block, (ad589.add ((((J49 l0 (rd l1 x6_1)).f5)).toNat * 6)).off + 5, none⟩ = some (.int .i64 ((J49 l0 ((J49 l0 (rd l1 x6_1)).f5)).f5))) (ds := [18]) #[false,false,false,false,false,false,false,false,false,false,false,false,false,false,false,false,false,false,false] (by kernel_rfl) rfl rfl ⟨(blk_cell BK590.out 0).trans rfl, (blk_cell BK590.out 1).trans rfl, (blk_cell BK590.out 2).trans rfl, (blk_cell BK590.out 3).trans rfl, (blk_cell BK590.out 4).trans rfl, (blk_cell BK590.out 5).trans rfl, (skc HB.out hw598_0), hx599_0, (skc HB.out hw600_0), (skc HB.out hw600_1), (skc HB.out hw600_2), (skc HB.out hw600_3), (skc HB.out hw600_4), (skc HB.out hw600_5)⟩ (fun hHeld => ?_); refine with_tabW larchref17_sums.tab10 larchref17_sums.bits10 (fun HT_ HW_ => ?_)
                  generalize w40.drew = w41 at HO_5 BK590 HB HQ39 HQ42 hf30_0 hx30_0 hx598_0 hx599_0 hx600_0 hx600_1 hx600_2 hx600_3 hx600_4 hx600_5 hHeld ⊢
                  refine pure_ (i := 0) (N := some 55) (v := ?_) (a' := ?_) #[true,false,false,false,false,false,false,false,false,false,false,false,false,false,false,false,false,false,false] rfl rfl (aK HT_.out) (fun _ _ _ h => h) (Or.inl ⟨by rfl, ?_⟩) ?_ ?_
                  rotate_left
                  ·
                   intro w'
                   go_simp
                   with_reducible rfl
                  rotate_left
                  ·
                   simp only [Act.put, sp]
                   rfl
                  refine pure_ (i := 1) (N := some 56) (v := ?_) (a' := ?_) #[true,true,false,false,false,false,false,false,false,false,false,false,false,false,false,false,false,false,false] rfl rfl (aK HT_.out) (fun _ _ _ h => h) (Or.inl ⟨by rfl, ?_⟩) ?_ ?_
                  rotate_left
                  ·
                   intro w'
                   go_simp
                   with_reducible rfl
                  rotate_left
                  ·
                   simp only [Act.put, sp]
                   rfl
                  refine pure_ (i := 3) (N := some 58) (v := ?_) (a' := ?_) #[true,true,false,true,false,false,false,false,false,false,false,false,false,false,false,false,false,false,false] rfl rfl (aK HT_.out) (fun _ _ _ h => h) (Or.inl ⟨by rfl, ?_⟩) ?_ ?_
                  rotate_left
                  ·
                   intro w'
                   go_simp
                   with_reducible rfl
                  rotate_left
                  ·
                   simp only [Act.put, sp]
                   rfl
                  refine pure_ (i := 4) (N := some 59) (v := ?_) (a' := ?_) #[true,true,false,true,true,false,false,false,false,false,false,false,false,false,false,false,false,false,false] rfl rfl (aK HT_.out) (fun _ _ _ h => h) (Or.inl ⟨by rfl, ?_⟩) ?_ ?_
                  rotate_left
                  ·
                   intro w'
                   go_simp
                   with_reducible rfl
                  rotate_left
                  ·
                   simp only [Act.put, sp]
                   rfl
                  refine pure_ (i := 5) (N := some 60) (v := ?_) (a' := ?_) #[true,true,false,true,true,true,false,false,false,false,false,false,false,false,false,false,false,false,false] rfl rfl (aK HT_.out) (fun _ _ _ h => h) (Or.inl ⟨by rfl, ?_⟩) ?_ ?_
                  rotate_left
                  ·
                   intro w'
                   go_simp
                   with_reducible rfl
                  rotate_left
                  ·
                   simp only [Act.put, sp]
                   rfl
                  refine pure_ (i := 6) (N := some 61) (v := ?_) (a' := ?_) #[true,true,false,true,true,true,true,false,false,false,false,false,false,false,false,false,false,false,false] rfl rfl (aK HT_.out) (fun _ _ _ h => h) (Or.inl ⟨by rfl, ?_⟩) ?_ ?_
                  rotate_left
                  ·
                   intro w'
                   go_simp
                   with_reducible rfl
                  rotate_left
                  ·
                   simp only [Act.put, sp]
                   rfl
                  refine pure_ (i := 10) (N := some 65) (v := ?_) (a' := ?_) #[true,true,false,true,true,true,true,false,false,false,true,false,false,false,false,false,false,false,false] rfl rfl (aK HT_.out) (fun _ _ _ h => h) (Or.inl ⟨by rfl, ?_⟩) ?_ ?_
                  rotate_left
                  ·
                   intro w'
                   go_simp
                   with_reducible rfl
                  rotate_left
                  ·
                   simp only [Act.put, sp]
                   rfl
                  refine pure_ (i := 11) (N := some 66) (v := ?_) (a' := ?_) #[true,true,false,true,true,true,true,false,false,false,true,true,false,false,false,false,false,false,false] rfl rfl (aK HT_.out) (fun _ _ _ h => h) (Or.inl ⟨by rfl, ?_⟩) ?_ ?_
                  rotate_left
                  ·
                   intro w'
                   go_simp
                   with_reducible rfl
                  rotate_left
                  ·
                   simp only [Act.put, sp]
                   rfl
                  refine take_ (i := 2) (N := some 57) (v := ?_) (a' := ?_) #[true,true,true,true,true,true,true,false,false,false,true,true,false,false,false,false,false,false,false] rfl rfl (take_ofW HT_.out HW_.out (by kernel_rfl)) (fun _ _ _ h => h) (Or.inl ⟨by rfl, ?_⟩) hHeld ?_ ?_
                  rotate_left
                  ·
                   rintro w' ⟨s0, s1, s2, s3, s4, s5, s6, s7, s8, s9, s10, s11, s12, s13⟩
                   go_simp
                   with_reducible rfl
                  rotate_left
                  ·
                   simp only [Act.put, sp]
                   rfl
                  refine take_ (i := 7) (N := some 62) (v := ?_) (a' := ?_) #[true,true,true,true,true,true,true,true,false,false,true,true,false,false,false,false,false,false,false] rfl rfl (take_ofW HT_.out HW_.out (by kernel_rfl)) (fun _ _ _ h => h) (Or.inl ⟨by rfl, ?_⟩) hHeld ?_ ?_
                  rotate_left
                  ·
                   rintro w' ⟨s0, s1, s2, s3, s4, s5, s6, s7, s8, s9, s10, s11, s12, s13⟩
                   go_simp
                   with_reducible rfl
                  rotate_left
                  ·
                   simp only [Act.put, sp]
                   rfl
                  refine pure_ (i := 8) (N := some 63) (v := ?_) (a' := ?_) #[true,true,true,true,true,true,true,true,true,false,true,true,false,false,false,false,false,false,false] rfl rfl (aK HT_.out) (fun _ _ _ h => h) (Or.inl ⟨by rfl, ?_⟩) ?_ ?_
                  rotate_left
                  ·
                   intro w'
                   go_simp
                   with_reducible rfl
                  rotate_left
                  ·
                   simp only [Act.put, sp]
                   rfl
                  refine take_ (i := 9) (N := some 64) (v := ?_) (a' := ?_) #[true,true,true,true,true,true,true,true,true,true,true,true,false,false,false,false,false,false,false] rfl rfl (take_ofW HT_.out HW_.out (by kernel_rfl)) (fun _ _ _ h => h) (Or.inl ⟨by rfl, ?_⟩) hHeld ?_ ?_
                  rotate_left
                  ·
                   rintro w' ⟨s0, s1, s2, s3, s4, s5, s6, s7, s8, s9, s10, s11, s12, s13⟩
                   go_simp
                   with_reducible rfl
                  rotate_left
                  ·
                   simp only [Act.put, sp]
                   rfl
                  refine take_ (i := 12) (N := some 67) (v := ?_) (a' := ?_) #[true,true,true,true,true,true,true,true,true,true,true,true,true,false,false,false,false,false,false] rfl rfl (take_ofW HT_.out HW_.out (by kernel_rfl)) (fun _ _ _ h => h) (Or.inl ⟨by rfl, ?_⟩) hHeld ?_ ?_
                  rotate_left
                  ·
                   rintro w' ⟨s0, s1, s2, s3, s4, s5, s6, s7, s8, s9, s10, s11, s12, s13⟩
                   go_simp
                   with_reducible rfl
                  rotate_left
                  ·
                   simp only [Act.put, sp]
                   rfl
                  refine pure_ (i := 13) (N := some 68) (v := ?_) (a' := ?_) #[true,true,true,true,true,true,true,true,true,true,true,true,true,true,false,false,false,false,false] rfl rfl (aK HT_.out) (fun _ _ _ h => h) (Or.inl ⟨by rfl, ?_⟩) ?_ ?_
                  rotate_left
                  ·
                   intro w'
                   go_simp
                   with_reducible rfl
                  rotate_left
                  ·
                   simp only [Act.put, sp]
                   rfl
                  refine pure_ (i := 14) (N := some 69) (v := ?_) (a' := ?_) #[true,true,true,true,true,true,true,true,true,true,true,true,true,true,true,false,false,false,false] rfl rfl (aK HT_.out) (fun _ _ _ h => h) (Or.inl ⟨by rfl, ?_⟩) ?_ ?_
                  rotate_left
                  ·
                   intro w'
                   go_simp
                   with_reducible rfl
                  rotate_left
                  ·
                   simp only [Act.put, sp]
                   rfl
                  refine take_ (i := 15) (N := some 70) (v := ?_) (a' := ?_) #[true,true,true,true,true,true,true,true,true,true,true,true,true,true,true,true,false,false,false] rfl rfl (take_ofW HT_.out HW_.out (by kernel_rfl)) (fun _ _ _ h => h) (Or.inl ⟨by rfl, ?_⟩) hHeld ?_ ?_
                  rotate_left
                  ·
                   rintro w' ⟨s0, s1, s2, s3, s4, s5, s6, s7, s8, s9, s10, s11, s12, s13⟩
                   go_simp
                   with_reducible rfl
                  rotate_left
                  ·
                   simp only [Act.put, sp]
                   rfl
                  refine pure_ (i := 16) (N := some 71) (v := ?_) (a' := ?_) #[true,true,true,true,true,true,true,true,true,true,true,true,true,true,true,true,true,false,false] rfl rfl (aK HT_.out) (fun _ _ _ h => h) (Or.inl ⟨by rfl, ?_⟩) ?_ ?_
                  rotate_left
                  ·
                   intro w'
                   go_simp
                   with_reducible rfl
                  rotate_left
                  ·
                   simp only [Act.put, sp]
                   rfl
                  refine pure_ (i := 17) (N := some 72) (v := ?_) (a' := ?_) #[true,true,true,true,true,true,true,true,true,true,true,true,true,true,true,true,true,true,false] rfl rfl (aK HT_.out) (fun _ _ _ h => h) (Or.inl ⟨by rfl, ?_⟩) ?_ ?_
                  rotate_left
                  ·
                   intro w'
                   go_simp
                   with_reducible rfl
                  rotate_left
                  ·
                   simp only [Act.put, sp]
                   rfl
                  refine last_ (i := 18) (N := none) #[true,true,true,true,true,true,true,true,true,true,true,true,true,true,true,true,true,true,true] rfl rfl (one_of HT_.out (by kernel_rfl)) (by decide) (fun K hK => ?_)
                  refine skip_ (w1 := ?_) (by rfl) rfl ?_ ?_
                  rotate_left
                  ·
                   go_simp
                   rfl
                  refine hK.out _ _ ?_
                  clear hK K
                  refine done_ (done_of HT_.out (by kernel_rfl)) ?_
                  try go_wp2
                  go_roundg k1
                  case measure => have := HK1.out; omega
                  case rel => exact ⟨(y601), (wrap64 (x6_1 + 1)), rs, H', ⟨by have := HK1.out; omega⟩, ⟨skR HQ42.out⟩, ⟨skG HB.out GB13.out GE590.out⟩⟩
                 ·
                  rw [if_neg c29] at H
                  exact absurd H (by simp)
                ·
                 rw [if_neg c28] at H
                 exact absurd H (by simp)
               ·
                rw [if_neg c27] at H
                exact absurd H (by simp)
              ·
               rw [if_neg c25] at H
               exact absurd H (by simp)
             ·
              rw [if_neg c24] at H
              exact absurd H (by simp)
            ·
             rw [if_neg c23] at H
             exact absurd H (by simp)
          ·
           rw [if_neg c12] at H
           exact absurd H (by simp)
         ·
          rw [if_neg c11] at H
          have c11b0 : (x6_1 == 0) = false := beq_eq_false_iff_ne.mpr c11
          have c11b1 : (x6_1 != 0) = true := bne_iff_ne.mpr c11
          replace H := Option.bind_eq_some_iff.mp H
          obtain ⟨t602, A430, H⟩ := H
          replace H : (if t602 = true then (larchref17_sums.l0 k1 l0 l1 x5_1 (wrap64 (x6_1 + 1))) else (if (rd l1 x6_1) < (x5_1.length : Int) then (if 0 ≤ ((J49 l0 (rd l1 x6_1)).f4) then (if ((J49 l0 (rd l1 x6_1)).f4) < (l0.length : Int) then (if ((J49 l0 (rd l1 x6_1)).f4) < (x5_1.length : Int) then ((some (x5_1.set (((J49 l0 (rd l1 x6_1)).f4) : Int).toNat (wrap64 ((rd x5_1 (rd l1 x6_1)) + ((J49 l0 ((J49 l0 (rd l1 x6_1)).f4)).f2))) : List Int)).bind fun y606 => (if 0 ≤ ((J49 l0 (rd l1 x6_1)).f5) then (if ((J49 l0 (rd l1 x6_1)).f5) < (l0.length : Int) then (if ((J49 l0 (rd l1 x6_1)).f5) < (x5_1.length : Int) then (larchref17_sums.l0 k1 l0 l1 (y606.set (((J49 l0 (rd l1 x6_1)).f5) : Int).toNat (wrap64 ((rd y606 (rd l1 x6_1)) + ((J49 l0 ((J49 l0 (rd l1 x6_1)).f5)).f2)))) (wrap64 (x6_1 + 1))) else (none)) else (none)) else (none))) else (none)) else (none)) else (none)) else (none))) = some r := H
          have A43 := asd A430
          clear A430
          by_cases c44 : t602 = true
          ·
           subst c44
           have H1 : (larchref17_sums.l0 k1 l0 l1 x5_1 (wrap64 (x6_1 + 1))) = some r := by rw [if_pos rfl] at H; exact H
           clear H
           have H := H1
           clear H1
           have H' := asd H
           clear H
           have p588 : 0 ≤ (x6_1 : Int) := dt
           have q588 : x6_1 < (l1.length : Int) := dt
           obtain ⟨ad588, e588, hx588_0⟩ := Kd.at_int HR1.out x6_1 p588 q588
           cases e588
           replace hx588_0 := skc HB.out hx588_0
           replace p588 := eq_true p588
           replace q588 := eq_true q588
           have p589 : 0 ≤ ((rd l1 x6_1) : Int) := dt
           have q589 : (rd l1 x6_1) < (l0.length : Int) := dt
           obtain ⟨ad589, e589, hx589_0, hx589_1, hx589_2, hx589_3, hx589_4, hx589_5⟩ := at_T49 HR0.out (rd l1 x6_1) p589 q589
           cases e589
           replace hx589_0 := skc HB.out hx589_0
           replace hx589_1 := skc HB.out hx589_1
           replace hx589_2 := skc HB.out hx589_2
           replace hx589_3 := skc HB.out hx589_3
           replace hx589_4 := skc HB.out hx589_4
           replace hx589_5 := skc HB.out hx589_5
           replace p589 := eq_true p589
           replace q589 := eq_true q589
           go_wp2_with (first | ((with_reducible refine gate_dst (N := 7) rfl ?_); refine box_event ?hg (N := 7) ?hd (cs := #[.int .i64 0, .int .i64 0, .int .i64 0, .int .i64 0, .int .i64 0, .int .i64 0]) (t := 49) ?hr ?_; (case hd => rfl); (case hg => rfl); (case hr => first | (go_simp; done) | (go_simp; rfl)); intro gb590 hg w45 hbox hb; have n0_ := asd (Kd.R_below (skR HO_5.out) hb); have n1_ := asd (below_step (skB HB.out) hb); have n2_ := asd (hbox); have n3_ := asd ((by rw [hg]; exact (below_size (skB HB.out)) : w.heap.size ≤ gb590)); have n4_ := asd ((by rw [hg]; exact (below_size (skB HB.out)) : w.heap.size ≤ gb590)); clear HO_5; clear HB; have HO_5 := n0_; have HB := n1_; have BK590 := n2_; have GW590 := n3_; have GE590 := n4_; clear n0_ n1_ n2_ n3_ n4_; clear hb hbox hg; obtain ⟨hcz46_0, hcz46_1, hcz46_2, hcz46_3, hcz46_4, hcz46_5, hfz46_0, hfz46_1, hfz46_2, hfz46_3, hfz46_4, hfz46_5⟩ := bk6 BK590.out) | ((with_reducible refine gate_callee (f := 53) rfl ?_); refine goesL_ (some 35) rfl rfl Try.func53 (by kernel_rfl) rfl #[.agg #[.int .i64 ((J49 l0 (rd l1 x6_1)).f0), .int .i64 ((J49 l0 (rd l1 x6_1)).f1), .int .i64 ((J49 l0 (rd l1 x6_1)).f2), .int .i64 ((J49 l0 (rd l1 x6_1)).f3), .int .i64 ((J49 l0 (rd l1 x6_1)).f4), .int .i64 ((J49 l0 (rd l1 x6_1)).f5)]] rfl ags ?_; (with_reducible refine (larchref17_leaf.calls ((J49 l0 (rd l1 x6_1)).f0) ((J49 l0 (rd l1 x6_1)).f1) ((J49 l0 (rd l1 x6_1)).f2) ((J49 l0 (rd l1 x6_1)).f3) ((J49 l0 (rd l1 x6_1)).f4) ((J49 l0 (rd l1 x6_1)).f5) true _ A43.out).mono ?_); rintro e w47 ⟨rfl, hb⟩; refine ⟨_, rfl, ?_⟩; have n0_ := asd (Kd.R_below (skR (Kd.R_mono (Kd.R_far (p := ⟨gb590, 5, none⟩) (Kd.R_far (p := ⟨gb590, 4, none⟩) (Kd.R_far (p := ⟨gb590, 3, none⟩) (Kd.R_far (p := ⟨gb590, 2, none⟩) (Kd.R_far (p := ⟨gb590, 1, none⟩) (Kd.R_far (p := ⟨gb590, 0, none⟩) (Kd.R_types HO_5.out BK590.out (by decide)) (fun _ hk => hk.2) (.int .i64 ((J49 l0 (rd l1 x6_1)).f0))) (fun _ hk => hk.2) (.int .i64 ((J49 l0 (rd l1 x6_1)).f1))) (fun _ hk => hk.2) (.int .i64 ((J49 l0 (rd l1 x6_1)).f2))) (fun _ hk => hk.2) (.int .i64 ((J49 l0 (rd l1 x6_1)).f3))) (fun _ hk => hk.2) (.int .i64 ((J49 l0 (rd l1 x6_1)).f4))) (fun _ hk => hk.2) (.int .i64 ((J49 l0 (rd l1 x6_1)).f5))) (fun _ h_ => h_.1))) hb); have n1_ := asd (blk_below (g := gb590) (o := .cells #[.int .i64 ((J49 l0 (rd l1 x6_1)).f0), .int .i64 ((J49 l0 (rd l1 x6_1)).f1), .int .i64 ((J49 l0 (rd l1 x6_1)).f2), .int .i64 ((J49 l0 (rd l1 x6_1)).f3), .int .i64 ((J49 l0 (rd l1 x6_1)).f4), .int .i64 ((J49 l0 (rd l1 x6_1)).f5)] 49 (0, 0)) (by refine skk ?_; refine blk_put (cs := #[.int .i64 ((J49 l0 (rd l1 x6_1)).f0), .int .i64 ((J49 l0 (rd l1 x6_1)).f1), .int .i64 ((J49 l0 (rd l1 x6_1)).f2), .int .i64 ((J49 l0 (rd l1 x6_1)).f3), .int .i64 ((J49 l0 (rd l1 x6_1)).f4), .int .i64 0]) ?_ 5 _ rfl; refine skk ?_; refine blk_put (cs := #[.int .i64 ((J49 l0 (rd l1 x6_1)).f0), .int .i64 ((J49 l0 (rd l1 x6_1)).f1), .int .i64 ((J49 l0 (rd l1 x6_1)).f2), .int .i64 ((J49 l0 (rd l1 x6_1)).f3), .int .i64 0, .int .i64 0]) ?_ 4 _ rfl; refine skk ?_; refine blk_put (cs := #[.int .i64 ((J49 l0 (rd l1 x6_1)).f0), .int .i64 ((J49 l0 (rd l1 x6_1)).f1), .int .i64 ((J49 l0 (rd l1 x6_1)).f2), .int .i64 0, .int .i64 0, .int .i64 0]) ?_ 3 _ rfl; refine skk ?_; refine blk_put (cs := #[.int .i64 ((J49 l0 (rd l1 x6_1)).f0), .int .i64 ((J49 l0 (rd l1 x6_1)).f1), .int .i64 0, .int .i64 0, .int .i64 0, .int .i64 0]) ?_ 2 _ rfl; refine skk ?_; refine blk_put (cs := #[.int .i64 ((J49 l0 (rd l1 x6_1)).f0), .int .i64 0, .int .i64 0, .int .i64 0, .int .i64 0, .int .i64 0]) ?_ 1 _ rfl; refine skk ?_; refine blk_put (cs := #[.int .i64 0, .int .i64 0, .int .i64 0, .int .i64 0, .int .i64 0, .int .i64 0]) ?_ 0 _ rfl; refine skk ?_; exact BK590.out) hb); have n2_ := asd (below_step (skG HB.out GE590.out GE590.out) hb); clear HO_5; clear BK590; clear HB; have HO_5 := n0_; have BK590 := n1_; have HB := n2_; clear n0_ n1_ n2_; (try clear hb); (try clear hb2); (try clear hk); (try clear hi)))
           go_roundg k1
           case measure => have := HK1.out; omega
           case rel => exact ⟨(x5_1), (wrap64 (x6_1 + 1)), rs, H', ⟨by have := HK1.out; omega⟩, ⟨skR HO_5.out⟩, ⟨skG HB.out GE590.out GE590.out⟩⟩
          ·
           replace c44 := Bool.eq_false_iff.mpr c44
           subst c44
           have H1 : (if (rd l1 x6_1) < (x5_1.length : Int) then (if 0 ≤ ((J49 l0 (rd l1 x6_1)).f4) then (if ((J49 l0 (rd l1 x6_1)).f4) < (l0.length : Int) then (if ((J49 l0 (rd l1 x6_1)).f4) < (x5_1.length : Int) then ((some (x5_1.set (((J49 l0 (rd l1 x6_1)).f4) : Int).toNat (wrap64 ((rd x5_1 (rd l1 x6_1)) + ((J49 l0 ((J49 l0 (rd l1 x6_1)).f4)).f2))) : List Int)).bind fun y606 => (if 0 ≤ ((J49 l0 (rd l1 x6_1)).f5) then (if ((J49 l0 (rd l1 x6_1)).f5) < (l0.length : Int) then (if ((J49 l0 (rd l1 x6_1)).f5) < (x5_1.length : Int) then (larchref17_sums.l0 k1 l0 l1 (y606.set (((J49 l0 (rd l1 x6_1)).f5) : Int).toNat (wrap64 ((rd y606 (rd l1 x6_1)) + ((J49 l0 ((J49 l0 (rd l1 x6_1)).f5)).f2)))) (wrap64 (x6_1 + 1))) else (none)) else (none)) else (none))) else (none)) else (none)) else (none)) else (none)) = some r := by rw [if_neg (show ¬ (false = true) by decide)] at H; exact H
           clear H
           have H := H1
           clear H1
           by_cases c48 : (rd l1 x6_1) < (x5_1.length : Int)
           ·
            rw [if_pos c48] at H
            have c48b0 : decide ((rd l1 x6_1) < (x5_1.length : Int)) = true := decide_eq_true c48
            clear c48
            by_cases c49 : 0 ≤ ((J49 l0 (rd l1 x6_1)).f4)
            ·
             rw [if_pos c49] at H
             have c49b0 : decide (0 ≤ ((J49 l0 (rd l1 x6_1)).f4)) = true := decide_eq_true c49
             clear c49
             by_cases c50 : ((J49 l0 (rd l1 x6_1)).f4) < (l0.length : Int)
             ·
              rw [if_pos c50] at H
              have c50b0 : decide (((J49 l0 (rd l1 x6_1)).f4) < (l0.length : Int)) = true := decide_eq_true c50
              clear c50
              by_cases c51 : ((J49 l0 (rd l1 x6_1)).f4) < (x5_1.length : Int)
              ·
               rw [if_pos c51] at H
               have c51b0 : decide (((J49 l0 (rd l1 x6_1)).f4) < (x5_1.length : Int)) = true := decide_eq_true c51
               clear c51
               obtain ⟨y606, hy606⟩ : ∃ y_ : List Int, y_ = (x5_1.set (((J49 l0 (rd l1 x6_1)).f4) : Int).toNat (wrap64 ((rd x5_1 (rd l1 x6_1)) + ((J49 l0 ((J49 l0 (rd l1 x6_1)).f4)).f2)))) := ⟨_, rfl⟩
               replace H : (if 0 ≤ ((J49 l0 (rd l1 x6_1)).f5) then (if ((J49 l0 (rd l1 x6_1)).f5) < (l0.length : Int) then (if ((J49 l0 (rd l1 x6_1)).f5) < (x5_1.length : Int) then (larchref17_sums.l0 k1 l0 l1 (y606.set (((J49 l0 (rd l1 x6_1)).f5) : Int).toNat (wrap64 ((rd y606 (rd l1 x6_1)) + ((J49 l0 ((J49 l0 (rd l1 x6_1)).f5)).f2)))) (wrap64 (x6_1 + 1))) else (none)) else (none)) else (none)) = some r := by first | (rw [hy606]; with_reducible exact H) | (have H2_ := (Option.bind_some _ _).symm.trans H; rw [hy606]; with_reducible exact H2_) | (have H2_ := (Option.bind_some _ _).symm.trans H; with_reducible exact H2_) | with_reducible exact H | (rw [hy606]; exact H) | exact H
               have Ny606 := asd hy606
               clear hy606
               by_cases c53 : 0 ≤ ((J49 l0 (rd l1 x6_1)).f5)
               ·
                rw [if_pos c53] at H
                have c53b0 : decide (0 ≤ ((J49 l0 (rd l1 x6_1)).f5)) = true := decide_eq_true c53
                clear c53
                by_cases c54 : ((J49 l0 (rd l1 x6_1)).f5) < (l0.length : Int)
                ·
                 rw [if_pos c54] at H
                 have c54b0 : decide (((J49 l0 (rd l1 x6_1)).f5) < (l0.length : Int)) = true := decide_eq_true c54
                 clear c54
                 by_cases c55 : ((J49 l0 (rd l1 x6_1)).f5) < (x5_1.length : Int)
                 ·
                  rw [if_pos c55] at H
                  have c55b0 : decide (((J49 l0 (rd l1 x6_1)).f5) < (x5_1.length : Int)) = true := decide_eq_true c55
                  clear c55
                  obtain ⟨y610, hy610⟩ : ∃ y_ : List Int, y_ = (y606.set (((J49 l0 (rd l1 x6_1)).f5) : Int).toNat (wrap64 ((rd y606 (rd l1 x6_1)) + ((J49 l0 ((J49 l0 (rd l1 x6_1)).f5)).f2)))) := ⟨_, rfl⟩
                  replace H : (larchref17_sums.l0 k1 l0 l1 y610 (wrap64 (x6_1 + 1))) = some r := by first | (rw [hy610]; with_reducible exact H) | (have H2_ := (Option.bind_some _ _).symm.trans H; rw [hy610]; with_reducible exact H2_) | (have H2_ := (Option.bind_some _ _).symm.trans H; with_reducible exact H2_) | with_reducible exact H | (rw [hy610]; exact H) | exact H
                  have Ny610 := asd hy610
                  clear hy610
                  have H' := asd H
                  clear H
                  have p588 : 0 ≤ (x6_1 : Int) := dt
                  have q588 : x6_1 < (l1.length : Int) := dt
                  obtain ⟨ad588, e588, hx588_0⟩ := Kd.at_int HR1.out x6_1 p588 q588
                  cases e588
                  replace hx588_0 := skc HB.out hx588_0
                  replace p588 := eq_true p588
                  replace q588 := eq_true q588
                  have p589 : 0 ≤ ((rd l1 x6_1) : Int) := dt
                  have q589 : (rd l1 x6_1) < (l0.length : Int) := dt
                  obtain ⟨ad589, e589, hx589_0, hx589_1, hx589_2, hx589_3, hx589_4, hx589_5⟩ := at_T49 HR0.out (rd l1 x6_1) p589 q589
                  cases e589
                  replace hx589_0 := skc HB.out hx589_0
                  replace hx589_1 := skc HB.out hx589_1
                  replace hx589_2 := skc HB.out hx589_2
                  replace hx589_3 := skc HB.out hx589_3
                  replace hx589_4 := skc HB.out hx589_4
                  replace hx589_5 := skc HB.out hx589_5
                  replace p589 := eq_true p589
                  replace q589 := eq_true q589
                  try go_wp2_with (first | ((with_reducible refine gate_dst (N := 7) rfl ?_); refine box_event ?hg (N := 7) ?hd (cs := #[.int .i64 0, .int .i64 0, .int .i64 0, .int .i64 0, .int .i64 0, .int .i64 0]) (t := 49) ?hr ?_; (case hd => rfl); (case hg => rfl); (case hr => first | (go_simp; done) | (go_simp; rfl)); intro gb590 hg w57 hbox hb; have n0_ := asd (Kd.R_below (skR HO_5.out) hb); have n1_ := asd (below_step (skB HB.out) hb); have n2_ := asd (hbox); have n3_ := asd ((by rw [hg]; exact (below_size (skB HB.out)) : w.heap.size ≤ gb590)); have n4_ := asd ((by rw [hg]; exact (below_size (skB HB.out)) : w.heap.size ≤ gb590)); clear HO_5; clear HB; have HO_5 := n0_; have HB := n1_; have BK590 := n2_; have GW590 := n3_; have GE590 := n4_; clear n0_ n1_ n2_ n3_ n4_; clear hb hbox hg; obtain ⟨hcz58_0, hcz58_1, hcz58_2, hcz58_3, hcz58_4, hcz58_5, hfz58_0, hfz58_1, hfz58_2, hfz58_3, hfz58_4, hfz58_5⟩ := bk6 BK590.out) | ((with_reducible refine gate_callee (f := 53) rfl ?_); refine goesL_ (some 35) rfl rfl Try.func53 (by kernel_rfl) rfl #[.agg #[.int .i64 ((J49 l0 (rd l1 x6_1)).f0), .int .i64 ((J49 l0 (rd l1 x6_1)).f1), .int .i64 ((J49 l0 (rd l1 x6_1)).f2), .int .i64 ((J49 l0 (rd l1 x6_1)).f3), .int .i64 ((J49 l0 (rd l1 x6_1)).f4), .int .i64 ((J49 l0 (rd l1 x6_1)).f5)]] rfl ags ?_; (with_reducible refine (larchref17_leaf.calls ((J49 l0 (rd l1 x6_1)).f0) ((J49 l0 (rd l1 x6_1)).f1) ((J49 l0 (rd l1 x6_1)).f2) ((J49 l0 (rd l1 x6_1)).f3) ((J49 l0 (rd l1 x6_1)).f4) ((J49 l0 (rd l1 x6_1)).f5) false _ A43.out).mono ?_); rintro e w59 ⟨rfl, hb⟩; refine ⟨_, rfl, ?_⟩; have n0_ := asd (Kd.R_below (skR (Kd.R_mono (Kd.R_far (p := ⟨gb590, 5, none⟩) (Kd.R_far (p := ⟨gb590, 4, none⟩) (Kd.R_far (p := ⟨gb590, 3, none⟩) (Kd.R_far (p := ⟨gb590, 2, none⟩) (Kd.R_far (p := ⟨gb590, 1, none⟩) (Kd.R_far (p := ⟨gb590, 0, none⟩) (Kd.R_types HO_5.out BK590.out (by decide)) (fun _ hk => hk.2) (.int .i64 ((J49 l0 (rd l1 x6_1)).f0))) (fun _ hk => hk.2) (.int .i64 ((J49 l0 (rd l1 x6_1)).f1))) (fun _ hk => hk.2) (.int .i64 ((J49 l0 (rd l1 x6_1)).f2))) (fun _ hk => hk.2) (.int .i64 ((J49 l0 (rd l1 x6_1)).f3))) (fun _ hk => hk.2) (.int .i64 ((J49 l0 (rd l1 x6_1)).f4))) (fun _ hk => hk.2) (.int .i64 ((J49 l0 (rd l1 x6_1)).f5))) (fun _ h_ => h_.1))) hb); have n1_ := asd (blk_below (g := gb590) (o := .cells #[.int .i64 ((J49 l0 (rd l1 x6_1)).f0), .int .i64 ((J49 l0 (rd l1 x6_1)).f1), .int .i64 ((J49 l0 (rd l1 x6_1)).f2), .int .i64 ((J49 l0 (rd l1 x6_1)).f3), .int .i64 ((J49 l0 (rd l1 x6_1)).f4), .int .i64 ((J49 l0 (rd l1 x6_1)).f5)] 49 (0, 0)) (by refine skk ?_; refine blk_put (cs := #[.int .i64 ((J49 l0 (rd l1 x6_1)).f0), .int .i64 ((J49 l0 (rd l1 x6_1)).f1), .int .i64 ((J49 l0 (rd l1 x6_1)).f2), .int .i64 ((J49 l0 (rd l1 x6_1)).f3), .int .i64 ((J49 l0 (rd l1 x6_1)).f4), .int .i64 0]) ?_ 5 _ rfl; refine skk ?_; refine blk_put (cs := #[.int .i64 ((J49 l0 (rd l1 x6_1)).f0), .int .i64 ((J49 l0 (rd l1 x6_1)).f1), .int .i64 ((J49 l0 (rd l1 x6_1)).f2), .int .i64 ((J49 l0 (rd l1 x6_1)).f3), .int .i64 0, .int .i64 0]) ?_ 4 _ rfl; refine skk ?_; refine blk_put (cs := #[.int .i64 ((J49 l0 (rd l1 x6_1)).f0), .int .i64 ((J49 l0 (rd l1 x6_1)).f1), .int .i64 ((J49 l0 (rd l1 x6_1)).f2), .int .i64 0, .int .i64 0, .int .i64 0]) ?_ 3 _ rfl; refine skk ?_; refine blk_put (cs := #[.int .i64 ((J49 l0 (rd l1 x6_1)).f0), .int .i64 ((J49 l0 (rd l1 x6_1)).f1), .int .i64 0, .int .i64 0, .int .i64 0, .int .i64 0]) ?_ 2 _ rfl; refine skk ?_; refine blk_put (cs := #[.int .i64 ((J49 l0 (rd l1 x6_1)).f0), .int .i64 0, .int .i64 0, .int .i64 0, .int .i64 0, .int .i64 0]) ?_ 1 _ rfl; refine skk ?_; refine blk_put (cs := #[.int .i64 0, .int .i64 0, .int .i64 0, .int .i64 0, .int .i64 0, .int .i64 0]) ?_ 0 _ rfl; refine skk ?_; exact BK590.out) hb); have n2_ := asd (below_step (skG HB.out GE590.out GE590.out) hb); clear HO_5; clear BK590; clear HB; have HO_5 := n0_; have BK590 := n1_; have HB := n2_; clear n0_ n1_ n2_; (try clear hb); (try clear hb2); (try clear hk); (try clear hi)))
                  have n0_ := asd (Kd.R_drew HO_5.out)
                  have n1_ := asd (blk_drew BK590.out)
                  have n2_ := asd (below_drew1 HB.out)
                  clear HO_5
                  clear BK590
                  clear HB
                  have HO_5 := n0_
                  have BK590 := n1_
                  have HB := n2_
                  clear n0_ n1_ n2_
                  have p603 : 0 ≤ (x6_1 : Int) := dt
                  have q603 : x6_1 < (l1.length : Int) := dt
                  obtain ⟨ad603, e603, hx603_0⟩ := Kd.at_int HR1.out x6_1 p603 q603
                  have hw603_0 := hx603_0
                  obtain rfl : ad588 = ad603 := (by injection e603)
                  replace hx603_0 := skc HB.out hx603_0
                  replace p603 := eq_true p603
                  replace q603 := eq_true q603
                  obtain ⟨Ao61, co61, eo61⟩ := Kd.R_slice HO_5.out
                  (first | subst eo61 | (injection eo61 with f1_ f2_ f3_; have f4_ := f1_.symm; have f5_ := f3_.symm; clear f1_ f2_ f3_; subst f4_; subst f5_))
                  have p604 : 0 ≤ ((rd l1 x6_1) : Int) := dt
                  have q604 : (rd l1 x6_1) < (x5_1.length : Int) := dt
                  obtain ⟨ad604, e604, hx604_0⟩ := Kd.at_int (Kd.R_reads' HO_5.out).2.2 (rd l1 x6_1) p604 q604
                  cases e604
                  replace p604 := eq_true p604
                  replace q604 := eq_true q604
                  have p605 : 0 ≤ (((J49 l0 (rd l1 x6_1)).f4) : Int) := dt
                  have q605 : ((J49 l0 (rd l1 x6_1)).f4) < (l0.length : Int) := dt
                  obtain ⟨ad605, e605, hx605_0, hx605_1, hx605_2, hx605_3, hx605_4, hx605_5⟩ := at_T49 HR0.out ((J49 l0 (rd l1 x6_1)).f4) p605 q605
                  have hw605_5 := hx605_5
                  have hw605_4 := hx605_4
                  have hw605_3 := hx605_3
                  have hw605_2 := hx605_2
                  have hw605_1 := hx605_1
                  have hw605_0 := hx605_0
                  obtain rfl : ad589 = ad605 := (by injection e605)
                  replace hx605_0 := skc HB.out hx605_0
                  replace hx605_1 := skc HB.out hx605_1
                  replace hx605_2 := skc HB.out hx605_2
                  replace hx605_3 := skc HB.out hx605_3
                  replace hx605_4 := skc HB.out hx605_4
                  replace hx605_5 := skc HB.out hx605_5
                  replace p605 := eq_true p605
                  replace q605 := eq_true q605
                  have p52 : 0 ≤ (((J49 l0 (rd l1 x6_1)).f4) : Int) := dt
                  have q52 : (((J49 l0 (rd l1 x6_1)).f4) : Int) < ((x5_1.length : Int) : Int) := dt
                  obtain ⟨go52, co52, eo52, gb52, gl52, cl52, HG52⟩ := Kd.R_form HO_5.out (by omega)
                  (first | cases eo52 | (injection eo52 with ea_ en_ ec_; (first | subst ea_ | (injection ea_ with ea_; subst ea_)); subst ec_; clear en_))
                  have GB52 := asd gb52
                  have GG52 := asd HG52
                  clear gb52 gl52 HG52
                  (first | simp only [add_plain] at hx604_0 | skip)
                  obtain ⟨hx52_0, hf52_0⟩ := Kd.R_celln 0 HO_5.out (((J49 l0 (rd l1 x6_1)).f4) : Int) p52 q52
                  replace p52 := eq_true p52
                  replace q52 := eq_true q52
                  have HP62 := Kd.R_putn HO_5.out (((J49 l0 (rd l1 x6_1)).f4) : Int) (wrap64 ((rd x5_1 (rd l1 x6_1)) + ((J49 l0 ((J49 l0 (rd l1 x6_1)).f4)).f2)))
                  rw [← Ny606.out] at HP62
                  have HQ62 := asd HP62
                  clear HP62
                  refine start_ (n := 19) (S := fun w' => w'.cell? ⟨gb590, 0, none⟩ = some (.int .i64 ((J49 l0 (rd l1 x6_1)).f0)) ∧ w'.cell? ⟨gb590, 1, none⟩ = some (.int .i64 ((J49 l0 (rd l1 x6_1)).f1)) ∧ w'.cell? ⟨gb590, 2, none⟩ = some (.int .i64 ((J49 l0 (rd l1 x6_1)).f2)) ∧ w'.cell? ⟨gb590, 3, none⟩ = some (.int .i64 ((J49 l0 (rd l1 x6_1)).f3)) ∧ w'.cell? ⟨gb590, 4, none⟩ = some (.int .i64 ((J49 l0 (rd l1 x6_1)).f4)) ∧ w'.cell? ⟨gb590, 5, none⟩ = some (.int .i64 ((J49 l0 (rd l1 x6_1)).f5)) ∧ w'.cell? (ad588.add (x6_1).toNat) = some (.int .i64 (rd l1 x6_1)) ∧ w'.cell? ⟨go52, ((rd l1 x6_1)).toNat, none⟩ = some (.int .i64 (rd x5_1 (rd l1 x6_1))) ∧ w'.cell? (ad589.add ((((J49 l0 (rd l1 x6_1)).f4)).toNat * 6)) = some (.int .i64 ((J49 l0 ((J49 l0 (rd l1 x6_1)).f4)).f0)) ∧ w'.cell? ⟨(ad589.add ((((J49 l0 (rd l1 x6_1)).f4)).toNat * 6)).block, (ad589.add ((((J49 l0 (rd l1 x6_1)).f4)).toNat * 6)).off + 1, none⟩ = some (.int .i64 ((J49 l0 ((J49 l0 (rd l1 x6_1)).f4)).f1)) ∧ w'.cell? ⟨(ad589.add ((((J49 l0 (rd l1 x6_1)).f4)).toNat * 6)).block, (ad589.add ((((J49 l0 (rd l1 x6_1)).f4)).toNat * 6)).off + 2, none⟩ = some (.int .i64 ((J49 l0 ((J49 l0 (rd l1 x6_1)).f4)).f2)) ∧ w'.cell? ⟨(ad589.add ((((J49 l0 (rd l1 x6_1)).f4)).toNat * 6)).block, (ad589.add ((((J49 l0 (rd l1 x6_1)).f4)).toNat * 6)).off + 3, none⟩ = some (.int .i64 ((J49 l0 ((J49 l0 (rd l1 x6_1)).f4)).f3)) ∧ w'.cell? ⟨(ad589.add ((((J49 l0 (rd l1 x6_1)).f4)).toNat * 6)).block, (ad589.add ((((J49 l0 (rd l1 x6_1)).f4)).toNat * 6)).off + 4, none⟩ = some (.int .i64 ((J49 l0 ((J49 l0 (rd l1 x6_1)).f4)).f4)) ∧ w'.cell? ⟨(ad589.add ((((J49 l0 (rd l1 x6_1)).f4)).toNat * 6)).block, (ad589.add ((((J49 l0 (rd l1 x6_1)).f4)).toNat * 6)).off + 5, none⟩ = some (.int .i64 ((J49 l0 ((J49 l0 (rd l1 x6_1)).f4)).f5))) (ds := [18]) #[false,false,false,false,false,false,false,false,false,false,false,false,false,false,false,false,false,false,false] (by kernel_rfl) rfl rfl ⟨(blk_cell BK590.out 0).trans rfl, (blk_cell BK590.out 1).trans rfl, (blk_cell BK590.out 2).trans rfl, (blk_cell BK590.out 3).trans rfl, (blk_cell BK590.out 4).trans rfl, (blk_cell BK590.out 5).trans rfl, (skc HB.out hw603_0), hx604_0, (skc HB.out hw605_0), (skc HB.out hw605_1), (skc HB.out hw605_2), (skc HB.out hw605_3), (skc HB.out hw605_4), (skc HB.out hw605_5)⟩ (fun hHeld => ?_); refine with_tabW larchref17_sums.tab9 larchref17_sums.bits9 (fun HT_ HW_ => ?_)
                  generalize w59.drew = w60 at HO_5 BK590 HB GG52 HQ62 hf52_0 hx52_0 hx603_0 hx604_0 hx605_0 hx605_1 hx605_2 hx605_3 hx605_4 hx605_5 hHeld ⊢
                  refine pure_ (i := 0) (N := some 37) (v := ?_) (a' := ?_) #[true,false,false,false,false,false,false,false,false,false,false,false,false,false,false,false,false,false,false] rfl rfl (aK HT_.out) (fun _ _ _ h => h) (Or.inl ⟨by rfl, ?_⟩) ?_ ?_
                  rotate_left
                  ·
                   intro w'
                   go_simp
                   with_reducible rfl
                  rotate_left
                  ·
                   simp only [Act.put, sp]
                   rfl
                  refine pure_ (i := 1) (N := some 38) (v := ?_) (a' := ?_) #[true,true,false,false,false,false,false,false,false,false,false,false,false,false,false,false,false,false,false] rfl rfl (aK HT_.out) (fun _ _ _ h => h) (Or.inl ⟨by rfl, ?_⟩) ?_ ?_
                  rotate_left
                  ·
                   intro w'
                   go_simp
                   with_reducible rfl
                  rotate_left
                  ·
                   simp only [Act.put, sp]
                   rfl
                  refine pure_ (i := 3) (N := some 40) (v := ?_) (a' := ?_) #[true,true,false,true,false,false,false,false,false,false,false,false,false,false,false,false,false,false,false] rfl rfl (aK HT_.out) (fun _ _ _ h => h) (Or.inl ⟨by rfl, ?_⟩) ?_ ?_
                  rotate_left
                  ·
                   intro w'
                   go_simp
                   with_reducible rfl
                  rotate_left
                  ·
                   simp only [Act.put, sp]
                   rfl
                  refine pure_ (i := 4) (N := some 41) (v := ?_) (a' := ?_) #[true,true,false,true,true,false,false,false,false,false,false,false,false,false,false,false,false,false,false] rfl rfl (aK HT_.out) (fun _ _ _ h => h) (Or.inl ⟨by rfl, ?_⟩) ?_ ?_
                  rotate_left
                  ·
                   intro w'
                   go_simp
                   with_reducible rfl
                  rotate_left
                  ·
                   simp only [Act.put, sp]
                   rfl
                  refine pure_ (i := 5) (N := some 42) (v := ?_) (a' := ?_) #[true,true,false,true,true,true,false,false,false,false,false,false,false,false,false,false,false,false,false] rfl rfl (aK HT_.out) (fun _ _ _ h => h) (Or.inl ⟨by rfl, ?_⟩) ?_ ?_
                  rotate_left
                  ·
                   intro w'
                   go_simp
                   with_reducible rfl
                  rotate_left
                  ·
                   simp only [Act.put, sp]
                   rfl
                  refine pure_ (i := 6) (N := some 43) (v := ?_) (a' := ?_) #[true,true,false,true,true,true,true,false,false,false,false,false,false,false,false,false,false,false,false] rfl rfl (aK HT_.out) (fun _ _ _ h => h) (Or.inl ⟨by rfl, ?_⟩) ?_ ?_
                  rotate_left
                  ·
                   intro w'
                   go_simp
                   with_reducible rfl
                  rotate_left
                  ·
                   simp only [Act.put, sp]
                   rfl
                  refine pure_ (i := 10) (N := some 47) (v := ?_) (a' := ?_) #[true,true,false,true,true,true,true,false,false,false,true,false,false,false,false,false,false,false,false] rfl rfl (aK HT_.out) (fun _ _ _ h => h) (Or.inl ⟨by rfl, ?_⟩) ?_ ?_
                  rotate_left
                  ·
                   intro w'
                   go_simp
                   with_reducible rfl
                  rotate_left
                  ·
                   simp only [Act.put, sp]
                   rfl
                  refine pure_ (i := 11) (N := some 48) (v := ?_) (a' := ?_) #[true,true,false,true,true,true,true,false,false,false,true,true,false,false,false,false,false,false,false] rfl rfl (aK HT_.out) (fun _ _ _ h => h) (Or.inl ⟨by rfl, ?_⟩) ?_ ?_
                  rotate_left
                  ·
                   intro w'
                   go_simp
                   with_reducible rfl
                  rotate_left
                  ·
                   simp only [Act.put, sp]
                   rfl
                  refine take_ (i := 2) (N := some 39) (v := ?_) (a' := ?_) #[true,true,true,true,true,true,true,false,false,false,true,true,false,false,false,false,false,false,false] rfl rfl (take_ofW HT_.out HW_.out (by kernel_rfl)) (fun _ _ _ h => h) (Or.inl ⟨by rfl, ?_⟩) hHeld ?_ ?_
                  rotate_left
                  ·
                   rintro w' ⟨s0, s1, s2, s3, s4, s5, s6, s7, s8, s9, s10, s11, s12, s13⟩
                   go_simp
                   with_reducible rfl
                  rotate_left
                  ·
                   simp only [Act.put, sp]
                   rfl
                  refine take_ (i := 7) (N := some 44) (v := ?_) (a' := ?_) #[true,true,true,true,true,true,true,true,false,false,true,true,false,false,false,false,false,false,false] rfl rfl (take_ofW HT_.out HW_.out (by kernel_rfl)) (fun _ _ _ h => h) (Or.inl ⟨by rfl, ?_⟩) hHeld ?_ ?_
                  rotate_left
                  ·
                   rintro w' ⟨s0, s1, s2, s3, s4, s5, s6, s7, s8, s9, s10, s11, s12, s13⟩
                   go_simp
                   with_reducible rfl
                  rotate_left
                  ·
                   simp only [Act.put, sp]
                   rfl
                  refine pure_ (i := 8) (N := some 45) (v := ?_) (a' := ?_) #[true,true,true,true,true,true,true,true,true,false,true,true,false,false,false,false,false,false,false] rfl rfl (aK HT_.out) (fun _ _ _ h => h) (Or.inl ⟨by rfl, ?_⟩) ?_ ?_
                  rotate_left
                  ·
                   intro w'
                   go_simp
                   with_reducible rfl
                  rotate_left
                  ·
                   simp only [Act.put, sp]
                   rfl
                  refine take_ (i := 9) (N := some 46) (v := ?_) (a' := ?_) #[true,true,true,true,true,true,true,true,true,true,true,true,false,false,false,false,false,false,false] rfl rfl (take_ofW HT_.out HW_.out (by kernel_rfl)) (fun _ _ _ h => h) (Or.inl ⟨by rfl, ?_⟩) hHeld ?_ ?_
                  rotate_left
                  ·
                   rintro w' ⟨s0, s1, s2, s3, s4, s5, s6, s7, s8, s9, s10, s11, s12, s13⟩
                   go_simp
                   with_reducible rfl
                  rotate_left
                  ·
                   simp only [Act.put, sp]
                   rfl
                  refine take_ (i := 12) (N := some 49) (v := ?_) (a' := ?_) #[true,true,true,true,true,true,true,true,true,true,true,true,true,false,false,false,false,false,false] rfl rfl (take_ofW HT_.out HW_.out (by kernel_rfl)) (fun _ _ _ h => h) (Or.inl ⟨by rfl, ?_⟩) hHeld ?_ ?_
                  rotate_left
                  ·
                   rintro w' ⟨s0, s1, s2, s3, s4, s5, s6, s7, s8, s9, s10, s11, s12, s13⟩
                   go_simp
                   with_reducible rfl
                  rotate_left
                  ·
                   simp only [Act.put, sp]
                   rfl
                  refine pure_ (i := 13) (N := some 50) (v := ?_) (a' := ?_) #[true,true,true,true,true,true,true,true,true,true,true,true,true,true,false,false,false,false,false] rfl rfl (aK HT_.out) (fun _ _ _ h => h) (Or.inl ⟨by rfl, ?_⟩) ?_ ?_
                  rotate_left
                  ·
                   intro w'
                   go_simp
                   with_reducible rfl
                  rotate_left
                  ·
                   simp only [Act.put, sp]
                   rfl
                  refine pure_ (i := 14) (N := some 51) (v := ?_) (a' := ?_) #[true,true,true,true,true,true,true,true,true,true,true,true,true,true,true,false,false,false,false] rfl rfl (aK HT_.out) (fun _ _ _ h => h) (Or.inl ⟨by rfl, ?_⟩) ?_ ?_
                  rotate_left
                  ·
                   intro w'
                   go_simp
                   with_reducible rfl
                  rotate_left
                  ·
                   simp only [Act.put, sp]
                   rfl
                  refine take_ (i := 15) (N := some 52) (v := ?_) (a' := ?_) #[true,true,true,true,true,true,true,true,true,true,true,true,true,true,true,true,false,false,false] rfl rfl (take_ofW HT_.out HW_.out (by kernel_rfl)) (fun _ _ _ h => h) (Or.inl ⟨by rfl, ?_⟩) hHeld ?_ ?_
                  rotate_left
                  ·
                   rintro w' ⟨s0, s1, s2, s3, s4, s5, s6, s7, s8, s9, s10, s11, s12, s13⟩
                   go_simp
                   with_reducible rfl
                  rotate_left
                  ·
                   simp only [Act.put, sp]
                   rfl
                  refine pure_ (i := 16) (N := some 53) (v := ?_) (a' := ?_) #[true,true,true,true,true,true,true,true,true,true,true,true,true,true,true,true,true,false,false] rfl rfl (aK HT_.out) (fun _ _ _ h => h) (Or.inl ⟨by rfl, ?_⟩) ?_ ?_
                  rotate_left
                  ·
                   intro w'
                   go_simp
                   with_reducible rfl
                  rotate_left
                  ·
                   simp only [Act.put, sp]
                   rfl
                  refine pure_ (i := 17) (N := some 54) (v := ?_) (a' := ?_) #[true,true,true,true,true,true,true,true,true,true,true,true,true,true,true,true,true,true,false] rfl rfl (aK HT_.out) (fun _ _ _ h => h) (Or.inl ⟨by rfl, ?_⟩) ?_ ?_
                  rotate_left
                  ·
                   intro w'
                   go_simp
                   with_reducible rfl
                  rotate_left
                  ·
                   simp only [Act.put, sp]
                   rfl
                  refine last_ (i := 18) (N := none) #[true,true,true,true,true,true,true,true,true,true,true,true,true,true,true,true,true,true,true] rfl rfl (one_of HT_.out (by kernel_rfl)) (by decide) (fun K hK => ?_)
                  refine skip_ (w1 := ?_) (by rfl) rfl ?_ ?_
                  rotate_left
                  ·
                   go_simp
                   rfl
                  refine hK.out _ _ ?_
                  clear hK K
                  refine done_ (done_of HT_.out (by kernel_rfl)) ?_
                  try go_wp2
                  have n0_ : Aside0 (Kd.R (Kd.int .i64) 3 (w60.setCell ⟨go52, (((J49 l0 (rd l1 x6_1)).f4) : Int).toNat, none⟩ (.int .i64 (wrap64 ((rd x5_1 (rd l1 x6_1)) + ((J49 l0 ((J49 l0 (rd l1 x6_1)).f4)).f2))))) w.heap.size (fun _ => True) (.slice (some ⟨go52, 0, none⟩) x5_1.length co61) y606) := ⟨skR HQ62.out⟩
                  have n1_ : Aside0 ((w60.setCell ⟨go52, (((J49 l0 (rd l1 x6_1)).f4) : Int).toNat, none⟩ (.int .i64 (wrap64 ((rd x5_1 (rd l1 x6_1)) + ((J49 l0 ((J49 l0 (rd l1 x6_1)).f4)).f2))))).heap[gb590]? = some (.cells #[.int .i64 ((J49 l0 (rd l1 x6_1)).f0), .int .i64 ((J49 l0 (rd l1 x6_1)).f1), .int .i64 ((J49 l0 (rd l1 x6_1)).f2), .int .i64 ((J49 l0 (rd l1 x6_1)).f3), .int .i64 ((J49 l0 (rd l1 x6_1)).f4), .int .i64 ((J49 l0 (rd l1 x6_1)).f5)] 49 (0, 0))) := ⟨by refine skk ?_; refine blk_far ?_ (by have h_ := Kd.R_ne HO_5.out BK590.out (by decide); intro e_; exact h_ (by rw [e_]; rfl)) _; refine skk ?_; exact BK590.out⟩
                  have n2_ : Aside0 (Below w.heap.size w (w60.setCell ⟨go52, (((J49 l0 (rd l1 x6_1)).f4) : Int).toNat, none⟩ (.int .i64 (wrap64 ((rd x5_1 (rd l1 x6_1)) + ((J49 l0 ((J49 l0 (rd l1 x6_1)).f4)).f2)))))) := ⟨skG HB.out GB52.out GE590.out⟩
                  (try clear HO_5)
                  (try clear BK590)
                  (try clear HB)
                  generalize (w60.setCell ⟨go52, (((J49 l0 (rd l1 x6_1)).f4) : Int).toNat, none⟩ (.int .i64 (wrap64 ((rd x5_1 (rd l1 x6_1)) + ((J49 l0 ((J49 l0 (rd l1 x6_1)).f4)).f2))))) = w63 at n0_ n1_ n2_ ⊢
                  have HO_5 := n0_
                  have BK590 := n1_
                  have HB := n2_
                  clear n0_ n1_ n2_
                  have n0_ := asd (Kd.R_drew HO_5.out)
                  have n1_ := asd (blk_drew BK590.out)
                  have n2_ := asd (below_drew1 HB.out)
                  clear HO_5
                  clear BK590
                  clear HB
                  have HO_5 := n0_
                  have BK590 := n1_
                  have HB := n2_
                  clear n0_ n1_ n2_
                  have p607 : 0 ≤ (x6_1 : Int) := dt
                  have q607 : x6_1 < (l1.length : Int) := dt
                  obtain ⟨ad607, e607, hx607_0⟩ := Kd.at_int HR1.out x6_1 p607 q607
                  have hw607_0 := hx607_0
                  obtain rfl : ad588 = ad607 := (by injection e607)
                  replace hx607_0 := skc HB.out hx607_0
                  replace p607 := eq_true p607
                  replace q607 := eq_true q607
                  have p608 : 0 ≤ ((rd l1 x6_1) : Int) := dt
                  have q608 : (rd l1 x6_1) < (y606.length : Int) := (by have h_ : ((rd l1 x6_1) : Int) < ((x5_1.length : Int) : Int) := dt; first | (have e_ := (Kd.R_reads' HO_5.out).1; omega) | simpa only [Ny606.out, List.length_set] using h_)
                  have ql608 : (((rd l1 x6_1) : Int) < ((x5_1.length : Int) : Int)) = True := eq_true dt
                  obtain ⟨ad608, e608, hx608_0⟩ := Kd.at_int (Kd.R_reads' HO_5.out).2.2 (rd l1 x6_1) p608 q608
                  obtain rfl : (⟨go52, 0, none⟩ : Addr) = ad608 := (by injection e608)
                  (first | simp only [add_plain] at hx608_0 | simp only [add_at] at hx608_0 | simp only [Addr.add, Nat.zero_add] at hx608_0 | skip)
                  replace p608 := eq_true p608
                  replace q608 := eq_true q608
                  have p609 : 0 ≤ (((J49 l0 (rd l1 x6_1)).f5) : Int) := dt
                  have q609 : ((J49 l0 (rd l1 x6_1)).f5) < (l0.length : Int) := dt
                  obtain ⟨ad609, e609, hx609_0, hx609_1, hx609_2, hx609_3, hx609_4, hx609_5⟩ := at_T49 HR0.out ((J49 l0 (rd l1 x6_1)).f5) p609 q609
                  have hw609_5 := hx609_5
                  have hw609_4 := hx609_4
                  have hw609_3 := hx609_3
                  have hw609_2 := hx609_2
                  have hw609_1 := hx609_1
                  have hw609_0 := hx609_0
                  obtain rfl : ad589 = ad609 := (by injection e609)
                  replace hx609_0 := skc HB.out hx609_0
                  replace hx609_1 := skc HB.out hx609_1
                  replace hx609_2 := skc HB.out hx609_2
                  replace hx609_3 := skc HB.out hx609_3
                  replace hx609_4 := skc HB.out hx609_4
                  replace hx609_5 := skc HB.out hx609_5
                  replace p609 := eq_true p609
                  replace q609 := eq_true q609
                  have p56 : 0 ≤ (((J49 l0 (rd l1 x6_1)).f5) : Int) := dt
                  have q56 : (((J49 l0 (rd l1 x6_1)).f5) : Int) < ((x5_1.length : Int) : Int) := dt
                  obtain ⟨hx56_0, hf56_0⟩ := Kd.R_celln 0 HO_5.out (((J49 l0 (rd l1 x6_1)).f5) : Int) p56 q56
                  replace p56 := eq_true p56
                  replace q56 := eq_true q56
                  have HP65 := Kd.R_putn HO_5.out (((J49 l0 (rd l1 x6_1)).f5) : Int) (wrap64 ((rd y606 (rd l1 x6_1)) + ((J49 l0 ((J49 l0 (rd l1 x6_1)).f5)).f2)))
                  rw [← Ny610.out] at HP65
                  have HQ65 := asd HP65
                  clear HP65
                  refine start_ (n := 19) (S := fun w' => w'.cell? ⟨gb590, 0, none⟩ = some (.int .i64 ((J49 l0 (rd l1 x6_1)).f0)) ∧ w'.cell? ⟨gb590, 1, none⟩ = some (.int .i64 ((J49 l0 (rd l1 x6_1)).f1)) ∧ w'.cell? ⟨gb590, 2, none⟩ = some (.int .i64 ((J49 l0 (rd l1 x6_1)).f2)) ∧ w'.cell? ⟨gb590, 3, none⟩ = some (.int .i64 ((J49 l0 (rd l1 x6_1)).f3)) ∧ w'.cell? ⟨gb590, 4, none⟩ = some (.int .i64 ((J49 l0 (rd l1 x6_1)).f4)) ∧ w'.cell? ⟨gb590, 5, none⟩ = some (.int .i64 ((J49 l0 (rd l1 x6_1)).f5)) ∧ w'.cell? (ad588.add (x6_1).toNat) = some (.int .i64 (rd l1 x6_1)) ∧ w'.cell? ⟨go52, ((rd l1 x6_1)).toNat, none⟩ = some (.int .i64 (rd y606 (rd l1 x6_1))) ∧ w'.cell? (ad589.add ((((J49 l0 (rd l1 x6_1)).f5)).toNat * 6)) = some (.int .i64 ((J49 l0 ((J49 l0 (rd l1 x6_1)).f5)).f0)) ∧ w'.cell? ⟨(ad589.add ((((J49 l0 (rd l1 x6_1)).f5)).toNat * 6)).block, (ad589.add ((((J49 l0 (rd l1 x6_1)).f5)).toNat * 6)).off + 1, none⟩ = some (.int .i64 ((J49 l0 ((J49 l0 (rd l1 x6_1)).f5)).f1)) ∧ w'.cell? ⟨(ad589.add ((((J49 l0 (rd l1 x6_1)).f5)).toNat * 6)).block, (ad589.add ((((J49 l0 (rd l1 x6_1)).f5)).toNat * 6)).off + 2, none⟩ = some (.int .i64 ((J49 l0 ((J49 l0 (rd l1 x6_1)).f5)).f2)) ∧ w'.cell? ⟨(ad589.add ((((J49 l0 (rd l1 x6_1)).f5)).toNat * 6)).block, (ad589.add ((((J49 l0 (rd l1 x6_1)).f5)).toNat * 6)).off + 3, none⟩ = some (.int .i64 ((J49 l0 ((J49 l0 (rd l1 x6_1)).f5)).f3)) ∧ w'.cell? ⟨(ad589.add ((((J49 l0 (rd l1 x6_1)).f5)).toNat * 6)).block, (ad589.add ((((J49 l0 (rd l1 x6_1)).f5)).toNat * 6)).off + 4, none⟩ = some (.int .i64 ((J49 l0 ((J49 l0 (rd l1 x6_1)).f5)).f4)) ∧ w'.cell? ⟨(ad589.add ((((J49 l0 (rd l1 x6_1)).f5)).toNat * 6)).block, (ad589.add ((((J49 l0 (rd l1 x6_1)).f5)).toNat * 6)).off + 5, none⟩ = some (.int .i64 ((J49 l0 ((J49 l0 (rd l1 x6_1)).f5)).f5))) (ds := [18]) #[false,false,false,false,false,false,false,false,false,false,false,false,false,false,false,false,false,false,false] (by kernel_rfl) rfl rfl ⟨(blk_cell BK590.out 0).trans rfl, (blk_cell BK590.out 1).trans rfl, (blk_cell BK590.out 2).trans rfl, (blk_cell BK590.out 3).trans rfl, (blk_cell BK590.out 4).trans rfl, (blk_cell BK590.out 5).trans rfl, (skc HB.out hw607_0), hx608_0, (skc HB.out hw609_0), (skc HB.out hw609_1), (skc HB.out hw609_2), (skc HB.out hw609_3), (skc HB.out hw609_4), (skc HB.out hw609_5)⟩ (fun hHeld => ?_); refine with_tabW larchref17_sums.tab10 larchref17_sums.bits10 (fun HT_ HW_ => ?_)
                  generalize w63.drew = w64 at HO_5 BK590 HB HQ62 HQ65 hf56_0 hx56_0 hx607_0 hx608_0 hx609_0 hx609_1 hx609_2 hx609_3 hx609_4 hx609_5 hHeld ⊢
                  refine pure_ (i := 0) (N := some 55) (v := ?_) (a' := ?_) #[true,false,false,false,false,false,false,false,false,false,false,false,false,false,false,false,false,false,false] rfl rfl (aK HT_.out) (fun _ _ _ h => h) (Or.inl ⟨by rfl, ?_⟩) ?_ ?_
                  rotate_left
                  ·
                   intro w'
                   go_simp
                   with_reducible rfl
                  rotate_left
                  ·
                   simp only [Act.put, sp]
                   rfl
                  refine pure_ (i := 1) (N := some 56) (v := ?_) (a' := ?_) #[true,true,false,false,false,false,false,false,false,false,false,false,false,false,false,false,false,false,false] rfl rfl (aK HT_.out) (fun _ _ _ h => h) (Or.inl ⟨by rfl, ?_⟩) ?_ ?_
                  rotate_left
                  ·
                   intro w'
                   go_simp
                   with_reducible rfl
                  rotate_left
                  ·
                   simp only [Act.put, sp]
                   rfl
                  refine pure_ (i := 3) (N := some 58) (v := ?_) (a' := ?_) #[true,true,false,true,false,false,false,false,false,false,false,false,false,false,false,false,false,false,false] rfl rfl (aK HT_.out) (fun _ _ _ h => h) (Or.inl ⟨by rfl, ?_⟩) ?_ ?_
                  rotate_left
                  ·
                   intro w'
                   go_simp
                   with_reducible rfl
                  rotate_left
                  ·
                   simp only [Act.put, sp]
                   rfl
                  refine pure_ (i := 4) (N := some 59) (v := ?_) (a' := ?_) #[true,true,false,true,true,false,false,false,false,false,false,false,false,false,false,false,false,false,false] rfl rfl (aK HT_.out) (fun _ _ _ h => h) (Or.inl ⟨by rfl, ?_⟩) ?_ ?_
                  rotate_left
                  ·
                   intro w'
                   go_simp
                   with_reducible rfl
                  rotate_left
                  ·
                   simp only [Act.put, sp]
                   rfl
                  refine pure_ (i := 5) (N := some 60) (v := ?_) (a' := ?_) #[true,true,false,true,true,true,false,false,false,false,false,false,false,false,false,false,false,false,false] rfl rfl (aK HT_.out) (fun _ _ _ h => h) (Or.inl ⟨by rfl, ?_⟩) ?_ ?_
                  rotate_left
                  ·
                   intro w'
                   go_simp
                   with_reducible rfl
                  rotate_left
                  ·
                   simp only [Act.put, sp]
                   rfl
                  refine pure_ (i := 6) (N := some 61) (v := ?_) (a' := ?_) #[true,true,false,true,true,true,true,false,false,false,false,false,false,false,false,false,false,false,false] rfl rfl (aK HT_.out) (fun _ _ _ h => h) (Or.inl ⟨by rfl, ?_⟩) ?_ ?_
                  rotate_left
                  ·
                   intro w'
                   go_simp
                   with_reducible rfl
                  rotate_left
                  ·
                   simp only [Act.put, sp]
                   rfl
                  refine pure_ (i := 10) (N := some 65) (v := ?_) (a' := ?_) #[true,true,false,true,true,true,true,false,false,false,true,false,false,false,false,false,false,false,false] rfl rfl (aK HT_.out) (fun _ _ _ h => h) (Or.inl ⟨by rfl, ?_⟩) ?_ ?_
                  rotate_left
                  ·
                   intro w'
                   go_simp
                   with_reducible rfl
                  rotate_left
                  ·
                   simp only [Act.put, sp]
                   rfl
                  refine pure_ (i := 11) (N := some 66) (v := ?_) (a' := ?_) #[true,true,false,true,true,true,true,false,false,false,true,true,false,false,false,false,false,false,false] rfl rfl (aK HT_.out) (fun _ _ _ h => h) (Or.inl ⟨by rfl, ?_⟩) ?_ ?_
                  rotate_left
                  ·
                   intro w'
                   go_simp
                   with_reducible rfl
                  rotate_left
                  ·
                   simp only [Act.put, sp]
                   rfl
                  refine take_ (i := 2) (N := some 57) (v := ?_) (a' := ?_) #[true,true,true,true,true,true,true,false,false,false,true,true,false,false,false,false,false,false,false] rfl rfl (take_ofW HT_.out HW_.out (by kernel_rfl)) (fun _ _ _ h => h) (Or.inl ⟨by rfl, ?_⟩) hHeld ?_ ?_
                  rotate_left
                  ·
                   rintro w' ⟨s0, s1, s2, s3, s4, s5, s6, s7, s8, s9, s10, s11, s12, s13⟩
                   go_simp
                   with_reducible rfl
                  rotate_left
                  ·
                   simp only [Act.put, sp]
                   rfl
                  refine take_ (i := 7) (N := some 62) (v := ?_) (a' := ?_) #[true,true,true,true,true,true,true,true,false,false,true,true,false,false,false,false,false,false,false] rfl rfl (take_ofW HT_.out HW_.out (by kernel_rfl)) (fun _ _ _ h => h) (Or.inl ⟨by rfl, ?_⟩) hHeld ?_ ?_
                  rotate_left
                  ·
                   rintro w' ⟨s0, s1, s2, s3, s4, s5, s6, s7, s8, s9, s10, s11, s12, s13⟩
                   go_simp
                   with_reducible rfl
                  rotate_left
                  ·
                   simp only [Act.put, sp]
                   rfl
                  refine pure_ (i := 8) (N := some 63) (v := ?_) (a' := ?_) #[true,true,true,true,true,true,true,true,true,false,true,true,false,false,false,false,false,false,false] rfl rfl (aK HT_.out) (fun _ _ _ h => h) (Or.inl ⟨by rfl, ?_⟩) ?_ ?_
                  rotate_left
                  ·
                   intro w'
                   go_simp
                   with_reducible rfl
                  rotate_left
                  ·
                   simp only [Act.put, sp]
                   rfl
                  refine take_ (i := 9) (N := some 64) (v := ?_) (a' := ?_) #[true,true,true,true,true,true,true,true,true,true,true,true,false,false,false,false,false,false,false] rfl rfl (take_ofW HT_.out HW_.out (by kernel_rfl)) (fun _ _ _ h => h) (Or.inl ⟨by rfl, ?_⟩) hHeld ?_ ?_
                  rotate_left
                  ·
                   rintro w' ⟨s0, s1, s2, s3, s4, s5, s6, s7, s8, s9, s10, s11, s12, s13⟩
                   go_simp
                   with_reducible rfl
                  rotate_left
                  ·
                   simp only [Act.put, sp]
                   rfl
                  refine take_ (i := 12) (N := some 67) (v := ?_) (a' := ?_) #[true,true,true,true,true,true,true,true,true,true,true,true,true,false,false,false,false,false,false] rfl rfl (take_ofW HT_.out HW_.out (by kernel_rfl)) (fun _ _ _ h => h) (Or.inl ⟨by rfl, ?_⟩) hHeld ?_ ?_
                  rotate_left
                  ·
                   rintro w' ⟨s0, s1, s2, s3, s4, s5, s6, s7, s8, s9, s10, s11, s12, s13⟩
                   go_simp
                   with_reducible rfl
                  rotate_left
                  ·
                   simp only [Act.put, sp]
                   rfl
                  refine pure_ (i := 13) (N := some 68) (v := ?_) (a' := ?_) #[true,true,true,true,true,true,true,true,true,true,true,true,true,true,false,false,false,false,false] rfl rfl (aK HT_.out) (fun _ _ _ h => h) (Or.inl ⟨by rfl, ?_⟩) ?_ ?_
                  rotate_left
                  ·
                   intro w'
                   go_simp
                   with_reducible rfl
                  rotate_left
                  ·
                   simp only [Act.put, sp]
                   rfl
                  refine pure_ (i := 14) (N := some 69) (v := ?_) (a' := ?_) #[true,true,true,true,true,true,true,true,true,true,true,true,true,true,true,false,false,false,false] rfl rfl (aK HT_.out) (fun _ _ _ h => h) (Or.inl ⟨by rfl, ?_⟩) ?_ ?_
                  rotate_left
                  ·
                   intro w'
                   go_simp
                   with_reducible rfl
                  rotate_left
                  ·
                   simp only [Act.put, sp]
                   rfl
                  refine take_ (i := 15) (N := some 70) (v := ?_) (a' := ?_) #[true,true,true,true,true,true,true,true,true,true,true,true,true,true,true,true,false,false,false] rfl rfl (take_ofW HT_.out HW_.out (by kernel_rfl)) (fun _ _ _ h => h) (Or.inl ⟨by rfl, ?_⟩) hHeld ?_ ?_
                  rotate_left
                  ·
                   rintro w' ⟨s0, s1, s2, s3, s4, s5, s6, s7, s8, s9, s10, s11, s12, s13⟩
                   go_simp
                   with_reducible rfl
                  rotate_left
                  ·
                   simp only [Act.put, sp]
                   rfl
                  refine pure_ (i := 16) (N := some 71) (v := ?_) (a' := ?_) #[true,true,true,true,true,true,true,true,true,true,true,true,true,true,true,true,true,false,false] rfl rfl (aK HT_.out) (fun _ _ _ h => h) (Or.inl ⟨by rfl, ?_⟩) ?_ ?_
                  rotate_left
                  ·
                   intro w'
                   go_simp
                   with_reducible rfl
                  rotate_left
                  ·
                   simp only [Act.put, sp]
                   rfl
                  refine pure_ (i := 17) (N := some 72) (v := ?_) (a' := ?_) #[true,true,true,true,true,true,true,true,true,true,true,true,true,true,true,true,true,true,false] rfl rfl (aK HT_.out) (fun _ _ _ h => h) (Or.inl ⟨by rfl, ?_⟩) ?_ ?_
                  rotate_left
                  ·
                   intro w'
                   go_simp
                   with_reducible rfl
                  rotate_left
                  ·
                   simp only [Act.put, sp]
                   rfl
                  refine last_ (i := 18) (N := none) #[true,true,true,true,true,true,true,true,true,true,true,true,true,true,true,true,true,true,true] rfl rfl (one_of HT_.out (by kernel_rfl)) (by decide) (fun K hK => ?_)
                  refine skip_ (w1 := ?_) (by rfl) rfl ?_ ?_
                  rotate_left
                  ·
                   go_simp
                   rfl
                  refine hK.out _ _ ?_
                  clear hK K
                  refine done_ (done_of HT_.out (by kernel_rfl)) ?_
                  try go_wp2
                  go_roundg k1
                  case measure => have := HK1.out; omega
                  case rel => exact ⟨(y610), (wrap64 (x6_1 + 1)), rs, H', ⟨by have := HK1.out; omega⟩, ⟨skR HQ65.out⟩, ⟨skG HB.out GB52.out GE590.out⟩⟩
                 ·
                  rw [if_neg c55] at H
                  exact absurd H (by simp)
                ·
                 rw [if_neg c54] at H
                 exact absurd H (by simp)
               ·
                rw [if_neg c53] at H
                exact absurd H (by simp)
              ·
               rw [if_neg c51] at H
               exact absurd H (by simp)
             ·
              rw [if_neg c50] at H
              exact absurd H (by simp)
            ·
             rw [if_neg c49] at H
             exact absurd H (by simp)
           ·
            rw [if_neg c48] at H
            exact absurd H (by simp)
        ·
         rw [if_neg c10] at H
         exact absurd H (by simp)
       ·
        rw [if_neg c9] at H
        exact absurd H (by simp)
      ·
       rw [if_neg c8] at H
       exact absurd H (by simp)
     ·
      rw [if_neg c7] at H
      have c7b0 : decide (x6_1 < (l1.length : Int)) = false := decide_eq_false c7
      clear c7
      obtain rfl := Option.some.inj H
      go_wp2
      go_ret
      exact ⟨_, re, skR HO_5.out, skB HB.out⟩
  ·
   rw [if_neg c4] at H
   exact absurd H (by simp)
 ·
  rw [if_neg c3] at H
  exact absurd H (by simp)
end Go.Proofs.Ytmmjkebboonnkaa.P
