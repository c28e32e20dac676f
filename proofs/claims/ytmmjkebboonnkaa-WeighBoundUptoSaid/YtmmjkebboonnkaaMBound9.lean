/- P.weighBound_holds, part 10 of 22: the contracts of the Go functions that the law calls, its own walk, and its plain law, for every input that the statement speaks of. -/
import Derived.Test.YtmmjkebboonnkaaMBound2
import Derived.Test.YtmmjkebboonnkaaMBound3
import Derived.Test.YtmmjkebboonnkaaMBound1
import Derived.Test.YtmmjkebboonnkaaMBound5
import Derived.Test.YtmmjkebboonnkaaMBound6
import Derived.Test.YtmmjkebboonnkaaMBound4
import Derived.Test.YtmmjkebboonnkaaMBound8
set_option linter.unusedVariables false
set_option linter.unusedSimpArgs false
/- F6 -/
namespace Go.Proofs.Ytmmjkebboonnkaa.P
open Go.RowKit Go.Proofs.YtmmjkebboonnkaaW.PrintWords Go.Proofs.YtmmjkebboonnkaaW.PrintLast Go.Proofs.YtmmjkebboonnkaaW.PrintMore
attribute [local go_sem] max2_int min2_int max_two min_two max_three min_three max_four min_four   -- for this text's walks alone
set_option linter.unusedVariables false
set_option linter.unusedSimpArgs false
def table_Check.l0 : Nat → List (S49) → List (S49) → Int → Int → Option (Int)
 | 0, _, _, _, _ => none
 | k + 1, x0, x13, x14, x15 => if x15 < x14 then (if 0 ≤ x15 then (if x15 < (x13.length : Int) then ((table_formed.f ((J49 x13 x15).f0) ((J49 x13 x15).f1) ((J49 x13 x15).f2) ((J49 x13 x15).f3) ((J49 x13 x15).f4) ((J49 x13 x15).f5) (x0.length : Int)).bind fun t131 => (if t131 = true then (table_Check.l0 k x0 x13 x14 (wrap64 (x15 + 1))) else (some 3))) else (none)) else (none)) else ((table_order.f k x0 0).bind fun t132 => (if (t132.length : Int) = (x0.length : Int) then (some 0) else (some 3)))
def table_Check.f (k : Nat) (l0 : List (S49)) : Option (Int) := if (l0.length : Int) > 100000 then (some 2) else (if (l0.length : Int) = 0 then (some 3) else (table_Check.l0 k l0 l0 (l0.length : Int) 0))
theorem table_Check.mono_l : ∀ k, (∀ y0 y1 y2 y3, LeO (table_Check.l0 k y0 y1 y2 y3) (table_Check.l0 (k + 1) y0 y1 y2 y3))
 | 0 => fun _ _ _ _ r h => by simp [table_Check.l0] at h
 | k + 1 => by
  have ih0 := table_Check.mono_l k
  ·
   intro y0 y1 y2 y3
   unfold table_Check.l0
   repeat' first
   | (with_reducible exact ih0 _ _ _ _)
   | (with_reducible exact table_order.mono _ _ _)
   | (with_reducible exact LeO.refl _)
   | (with_reducible exact LeO.none _)
   | (with_reducible refine LeO.ite ?_ ?_)
   | (with_reducible refine LeO.bind ?_ (fun _ => ?_))
   | exact ih0 _ _ _ _
   | exact table_order.mono _ _ _
   | exact LeO.none _
   | refine LeO.ite ?_ ?_
   | refine LeO.bind ?_ (fun _ => ?_)
theorem table_Check.mono : ∀ a0 k, LeO (table_Check.f k a0) (table_Check.f (k + 1) a0) := by
 intro a0 k
 have ih0 := table_Check.mono_l k
 unfold table_Check.f
 repeat' first
   | (with_reducible exact ih0 _ _ _ _)
   | (with_reducible exact table_order.mono _ _ _)
   | (with_reducible exact LeO.refl _)
   | (with_reducible exact LeO.none _)
   | (with_reducible refine LeO.ite ?_ ?_)
   | (with_reducible refine LeO.bind ?_ (fun _ => ?_))
   | exact ih0 _ _ _ _
   | exact table_order.mono _ _ _
   | exact LeO.none _
   | refine LeO.ite ?_ ?_
   | refine LeO.bind ?_ (fun _ => ?_)
set_option maxHeartbeats 8000000 in
set_option maxRecDepth 100000 in
theorem table_Check.calls (k : Nat) (A0 : Option Addr) (c0 : Nat) (l0 : List (S49)) (r : Int) (w : World) (hr0 : Kd.C k49 w A0 l0.length l0) (hc0 : l0.length ≤ c0) (h : table_Check.f k l0 = some r) :
  Calls Try.prog 60 #[.slice A0 l0.length c0] w fun e w' => e = .returned (.int .i64 r) ∧ Below w.heap.size w w' := by
 have hu49 := Try.underlying49
 have HR0 := asd hr0
 have HC0 := asd hc0
 clear hr0 hc0
 have HB := asd (Below.refl w.heap.size w)
 have H : (if (l0.length : Int) > 100000 then (some 2) else (if (l0.length : Int) = 0 then (some 3) else (table_Check.l0 k l0 l0 (l0.length : Int) 0))) = some r := h
 clear h
 by_cases c2 : (l0.length : Int) > 100000
 ·
  rw [if_pos c2] at H
  have c2b0 : decide (100000 < (l0.length : Int)) = true := decide_eq_true c2
  have c2b1 : decide (100000 < l0.length) = true := decide_eq_true (by omega)
  clear c2
  obtain rfl := Option.some.inj H
  go_enter Try.func60, Try.ntmps60
  go_wp2
  go_ret
  exact ⟨re, skB HB.out⟩
 ·
  rw [if_neg c2] at H
  have c2b0 : decide (100000 < (l0.length : Int)) = false := decide_eq_false c2
  have c2b1 : decide (100000 < l0.length) = false := decide_eq_false (by omega)
  clear c2
  by_cases c3 : (l0.length : Int) = 0
  ·
   rw [if_pos c3] at H
   have c3b0 : ((l0.length : Int) == 0) = true := beq_iff_eq.mpr c3
   have c3b1 : ((l0.length : Int) != 0) = false := bne_eq_false_iff_eq.mpr c3
   clear c3
   obtain rfl := Option.some.inj H
   go_enter Try.func60, Try.ntmps60
   go_wp2
   go_ret
   exact ⟨re, skB HB.out⟩
  ·
   rw [if_neg c3] at H
   have c3b0 : ((l0.length : Int) == 0) = false := beq_eq_false_iff_ne.mpr c3
   have c3b1 : ((l0.length : Int) != 0) = true := bne_iff_ne.mpr c3
   have c3b2 : ¬ (l0 = []) := fun h_ => c3 (by rw [h_]; rfl)
   have H' := asd H
   clear H
   go_enter Try.func60, Try.ntmps60
   go_wp2
   go_loopg [15] k (fun kq v15 w' => ∃ (x15_1 : Int), v15 = .int .i64 x15_1 ∧ Aside0 (table_Check.l0 kq l0 l0 (l0.length : Int) x15_1 = some r) ∧ Aside0 (kq ≤ k) ∧ Aside0 (Below w.heap.size w w'))
   case atStart => exact ⟨(0), rs, H', ⟨Nat.le_refl _⟩, ⟨skB HB.out⟩⟩
   case round =>
    clear H'
    try clear c2
    try clear c2b0
    try clear c2b1
    try clear p2
    try clear c3
    try clear c3b0
    try clear c3b1
    try clear c3b2
    obtain ⟨x15_1, rfl, HA, HK1, HB⟩ := hrel
    cases gk with
    | zero => exact absurd HA.out (by simp [table_Check.l0])
    | succ k1 =>
     have H := HA.out
     clear HA
     simp only [table_Check.l0] at H
     by_cases c4 : x15_1 < (l0.length : Int)
     ·
      rw [if_pos c4] at H
      have c4b0 : decide (x15_1 < (l0.length : Int)) = true := decide_eq_true c4
      clear c4
      by_cases c5 : 0 ≤ x15_1
      ·
       rw [if_pos c5] at H
       have c5b0 : decide (0 ≤ x15_1) = true := decide_eq_true c5
       clear c5
       by_cases c6 : x15_1 < (l0.length : Int)
       ·
        rw [if_pos c6] at H
        have c6b0 : decide (x15_1 < (l0.length : Int)) = true := decide_eq_true c6
        clear c6
        replace H := Option.bind_eq_some_iff.mp H
        obtain ⟨t131, A70, H⟩ := H
        replace H : (if t131 = true then (table_Check.l0 k1 l0 l0 (l0.length : Int) (wrap64 (x15_1 + 1))) else (some 3)) = some r := H
        have A7 := asd A70
        clear A70
        by_cases c8 : t131 = true
        ·
         subst c8
         have H1 : (table_Check.l0 k1 l0 l0 (l0.length : Int) (wrap64 (x15_1 + 1))) = some r := by rw [if_pos rfl] at H; exact H
         clear H
         have H := H1
         clear H1
         have H' := asd H
         clear H
         have p129 : 0 ≤ (x15_1 : Int) := dt
         have q129 : x15_1 < (l0.length : Int) := dt
         obtain ⟨ad129, e129, hx129_0, hx129_1, hx129_2, hx129_3, hx129_4, hx129_5⟩ := at_T49 HR0.out x15_1 p129 q129
         cases e129
         replace hx129_0 := skc HB.out hx129_0
         replace hx129_1 := skc HB.out hx129_1
         replace hx129_2 := skc HB.out hx129_2
         replace hx129_3 := skc HB.out hx129_3
         replace hx129_4 := skc HB.out hx129_4
         replace hx129_5 := skc HB.out hx129_5
         replace p129 := eq_true p129
         replace q129 := eq_true q129
         go_wp2_with (first | ((with_reducible refine gate_dst (N := 4) rfl ?_); refine box_event ?hg (N := 4) ?hd (cs := #[.int .i64 0, .int .i64 0, .int .i64 0, .int .i64 0, .int .i64 0, .int .i64 0]) (t := 49) ?hr ?_; (case hd => rfl); (case hg => rfl); (case hr => first | (go_simp; done) | (go_simp; rfl)); intro gb130 hg w9 hbox hb; have n0_ := asd (below_step (skB HB.out) hb); have n1_ := asd (hbox); have n2_ := asd ((by rw [hg]; exact (below_size (skB HB.out)) : w.heap.size ≤ gb130)); have n3_ := asd ((by rw [hg]; exact (below_size (skB HB.out)) : w.heap.size ≤ gb130)); clear HB; have HB := n0_; have BK130 := n1_; have GW130 := n2_; have GE130 := n3_; clear n0_ n1_ n2_ n3_; clear hb hbox hg; obtain ⟨hcz10_0, hcz10_1, hcz10_2, hcz10_3, hcz10_4, hcz10_5, hfz10_0, hfz10_1, hfz10_2, hfz10_3, hfz10_4, hfz10_5⟩ := bk6 BK130.out) | ((with_reducible refine gate_callee (f := 67) rfl ?_); refine goesL_ (some 22) rfl rfl Try.func67 (by kernel_rfl) rfl #[.agg #[.int .i64 ((J49 l0 x15_1).f0), .int .i64 ((J49 l0 x15_1).f1), .int .i64 ((J49 l0 x15_1).f2), .int .i64 ((J49 l0 x15_1).f3), .int .i64 ((J49 l0 x15_1).f4), .int .i64 ((J49 l0 x15_1).f5)], .int .i64 (l0.length : Int)] rfl ags ?_; (with_reducible refine (table_formed.calls ((J49 l0 x15_1).f0) ((J49 l0 x15_1).f1) ((J49 l0 x15_1).f2) ((J49 l0 x15_1).f3) ((J49 l0 x15_1).f4) ((J49 l0 x15_1).f5) (l0.length : Int) true _ A7.out).mono ?_); rintro e w11 ⟨rfl, hb⟩; refine ⟨_, rfl, ?_⟩; have n0_ := asd (blk_below (g := gb130) (o := .cells #[.int .i64 ((J49 l0 x15_1).f0), .int .i64 ((J49 l0 x15_1).f1), .int .i64 ((J49 l0 x15_1).f2), .int .i64 ((J49 l0 x15_1).f3), .int .i64 ((J49 l0 x15_1).f4), .int .i64 ((J49 l0 x15_1).f5)] 49 (0, 0)) (by refine skk ?_; refine blk_put (cs := #[.int .i64 ((J49 l0 x15_1).f0), .int .i64 ((J49 l0 x15_1).f1), .int .i64 ((J49 l0 x15_1).f2), .int .i64 ((J49 l0 x15_1).f3), .int .i64 ((J49 l0 x15_1).f4), .int .i64 0]) ?_ 5 _ rfl; refine skk ?_; refine blk_put (cs := #[.int .i64 ((J49 l0 x15_1).f0), .int .i64 ((J49 l0 x15_1).f1), .int .i64 ((J49 l0 x15_1).f2), .int .i64 ((J49 l0 x15_1).f3), .int .i64 0, .int .i64 0]) ?_ 4 _ rfl; refine skk ?_; refine blk_put (cs := #[.int .i64 ((J49 l0 x15_1).f0), .int .i64 ((J49 l0 x15_1).f1), .int .i64 ((J49 l0 x15_1).f2), .int .i64 0, .int .i64 0, .int .i64 0]) ?_ 3 _ rfl; refine skk ?_; refine blk_put (cs := #[.int .i64 ((J49 l0 x15_1).f0), .int .i64 ((J49 l0 x15_1).f1), .int .i64 0, .int .i64 0, .int .i64 0, .int .i64 0]) ?_ 2 _ rfl; refine skk ?_; refine blk_put (cs := #[.int .i64 ((J49 l0 x15_1).f0), .int .i64 0, .int .i64 0, .int .i64 0, .int .i64 0, .int .i64 0]) ?_ 1 _ rfl; refine skk ?_; refine blk_put (cs := #[.int .i64 0, .int .i64 0, .int .i64 0, .int .i64 0, .int .i64 0, .int .i64 0]) ?_ 0 _ rfl; refine skk ?_; exact BK130.out) hb); have n1_ := asd (below_step (skG HB.out GE130.out GE130.out) hb); clear BK130; clear HB; have BK130 := n0_; have HB := n1_; clear n0_ n1_; (try clear hb); (try clear hb2); (try clear hk); (try clear hi)))
         go_roundg k1
         case measure => have := HK1.out; omega
         case rel => exact ⟨(wrap64 (x15_1 + 1)), rs, H', ⟨by have := HK1.out; omega⟩, ⟨skG HB.out GE130.out GE130.out⟩⟩
        ·
         replace c8 := Bool.eq_false_iff.mpr c8
         subst c8
         have H1 : (some 3) = some r := by rw [if_neg (show ¬ (false = true) by decide)] at H; exact H
         clear H
         have H := H1
         clear H1
         obtain rfl := Option.some.inj H
         have p129 : 0 ≤ (x15_1 : Int) := dt
         have q129 : x15_1 < (l0.length : Int) := dt
         obtain ⟨ad129, e129, hx129_0, hx129_1, hx129_2, hx129_3, hx129_4, hx129_5⟩ := at_T49 HR0.out x15_1 p129 q129
         cases e129
         replace hx129_0 := skc HB.out hx129_0
         replace hx129_1 := skc HB.out hx129_1
         replace hx129_2 := skc HB.out hx129_2
         replace hx129_3 := skc HB.out hx129_3
         replace hx129_4 := skc HB.out hx129_4
         replace hx129_5 := skc HB.out hx129_5
         replace p129 := eq_true p129
         replace q129 := eq_true q129
         go_wp2_with (first | ((with_reducible refine gate_dst (N := 4) rfl ?_); refine box_event ?hg (N := 4) ?hd (cs := #[.int .i64 0, .int .i64 0, .int .i64 0, .int .i64 0, .int .i64 0, .int .i64 0]) (t := 49) ?hr ?_; (case hd => rfl); (case hg => rfl); (case hr => first | (go_simp; done) | (go_simp; rfl)); intro gb130 hg w12 hbox hb; have n0_ := asd (below_step (skB HB.out) hb); have n1_ := asd (hbox); have n2_ := asd ((by rw [hg]; exact (below_size (skB HB.out)) : w.heap.size ≤ gb130)); have n3_ := asd ((by rw [hg]; exact (below_size (skB HB.out)) : w.heap.size ≤ gb130)); clear HB; have HB := n0_; have BK130 := n1_; have GW130 := n2_; have GE130 := n3_; clear n0_ n1_ n2_ n3_; clear hb hbox hg; obtain ⟨hcz13_0, hcz13_1, hcz13_2, hcz13_3, hcz13_4, hcz13_5, hfz13_0, hfz13_1, hfz13_2, hfz13_3, hfz13_4, hfz13_5⟩ := bk6 BK130.out) | ((with_reducible refine gate_callee (f := 67) rfl ?_); refine goesL_ (some 22) rfl rfl Try.func67 (by kernel_rfl) rfl #[.agg #[.int .i64 ((J49 l0 x15_1).f0), .int .i64 ((J49 l0 x15_1).f1), .int .i64 ((J49 l0 x15_1).f2), .int .i64 ((J49 l0 x15_1).f3), .int .i64 ((J49 l0 x15_1).f4), .int .i64 ((J49 l0 x15_1).f5)], .int .i64 (l0.length : Int)] rfl ags ?_; (with_reducible refine (table_formed.calls ((J49 l0 x15_1).f0) ((J49 l0 x15_1).f1) ((J49 l0 x15_1).f2) ((J49 l0 x15_1).f3) ((J49 l0 x15_1).f4) ((J49 l0 x15_1).f5) (l0.length : Int) false _ A7.out).mono ?_); rintro e w14 ⟨rfl, hb⟩; refine ⟨_, rfl, ?_⟩; have n0_ := asd (blk_below (g := gb130) (o := .cells #[.int .i64 ((J49 l0 x15_1).f0), .int .i64 ((J49 l0 x15_1).f1), .int .i64 ((J49 l0 x15_1).f2), .int .i64 ((J49 l0 x15_1).f3), .int .i64 ((J49 l0 x15_1).f4), .int .i64 ((J49 l0 x15_1).f5)] 49 (0, 0)) (by refine skk ?_; refine blk_put (cs := #[.int .i64 ((J49 l0 x15_1).f0), .int .i64 ((J49 l0 x15_1).f1), .int .i64 ((J49 l0 x15_1).f2), .int .i64 ((J49 l0 x15_1).f3), .int .i64 ((J49 l0 x15_1).f4), .int .i64 0]) ?_ 5 _ rfl; refine skk ?_; refine blk_put (cs := #[.int .i64 ((J49 l0 x15_1).f0), .int .i64 ((J49 l0 x15_1).f1), .int .i64 ((J49 l0 x15_1).f2), .int .i64 ((J49 l0 x15_1).f3), .int .i64 0, .int .i64 0]) ?_ 4 _ rfl; refine skk ?_; refine blk_put (cs := #[.int .i64 ((J49 l0 x15_1).f0), .int .i64 ((J49 l0 x15_1).f1), .int .i64 ((J49 l0 x15_1).f2), .int .i64 0, .int .i64 0, .int .i64 0]) ?_ 3 _ rfl; refine skk ?_; refine blk_put (cs := #[.int .i64 ((J49 l0 x15_1).f0), .int .i64 ((J49 l0 x15_1).f1), .int .i64 0, .int .i64 0, .int .i64 0, .int .i64 0]) ?_ 2 _ rfl; refine skk ?_; refine blk_put (cs := #[.int .i64 ((J49 l0 x15_1).f0), .int .i64 0, .int .i64 0, .int .i64 0, .int .i64 0, .int .i64 0]) ?_ 1 _ rfl; refine skk ?_; refine blk_put (cs := #[.int .i64 0, .int .i64 0, .int .i64 0, .int .i64 0, .int .i64 0, .int .i64 0]) ?_ 0 _ rfl; refine skk ?_; exact BK130.out) hb); have n1_ := asd (below_step (skG HB.out GE130.out GE130.out) hb); clear BK130; clear HB; have BK130 := n0_; have HB := n1_; clear n0_ n1_; (try clear hb); (try clear hb2); (try clear hk); (try clear hi)))
         go_ret
         exact ⟨re, skG HB.out GE130.out GE130.out⟩
       ·
        rw [if_neg c6] at H
        exact absurd H (by simp)
      ·
       rw [if_neg c5] at H
       exact absurd H (by simp)
     ·
      rw [if_neg c4] at H
      have c4b0 : decide (x15_1 < (l0.length : Int)) = false := decide_eq_false c4
      clear c4
      replace H := Option.bind_eq_some_iff.mp H
      obtain ⟨t132, A150, H⟩ := H
      replace H : (if (t132.length : Int) = (l0.length : Int) then (some 0) else (some 3)) = some r := H
      have A15 := asd A150
      clear A150
      by_cases c16 : (t132.length : Int) = (l0.length : Int)
      ·
       rw [if_pos c16] at H
       have c16b0 : ((t132.length : Int) == (l0.length : Int)) = true := beq_iff_eq.mpr c16
       have c16b1 : ((t132.length : Int) != (l0.length : Int)) = false := bne_eq_false_iff_eq.mpr c16
       have c16b2 : (t132.length == l0.length) = true := by first | simpa using c16 | (simp at c16 ⊢; omega)
       clear c16
       obtain rfl := Option.some.inj H
       go_wp2_with (first | ((with_reducible refine gate_callee (f := 65) rfl ?_); refine goesL_ (some 26) rfl rfl Try.func65 (by kernel_rfl) rfl #[.slice A0 l0.length c0, .int .i64 0] rfl ags ?_; (with_reducible refine (table_order.calls k1 _ _ l0 0 t132 _ ?side1 ?side2 A15.out).mono ?_); (case side1 => exact skC (Kd.C_below HR0.out HB.out)); (case side2 => exact HC0.out); rintro e w17 ⟨v133, rfl, ho0, hb⟩; refine ⟨_, rfl, ?_⟩; have n0_ := asd (Kd.R_lower ho0 (below_size (skB HB.out))); have n1_ := asd (below_step (skB HB.out) hb); clear HB; have HO134 := n0_; have HB := n1_; clear n0_ n1_; (try clear hb); (try clear hb2); (try clear hk); (try clear hi); (try clear ho0); obtain ⟨Ao18, co18, eo18⟩ := Kd.R_slice HO134.out; subst eo18))
       go_ret
       exact ⟨re, skB HB.out⟩
      ·
       rw [if_neg c16] at H
       have c16b0 : ((t132.length : Int) == (l0.length : Int)) = false := beq_eq_false_iff_ne.mpr c16
       have c16b1 : ((t132.length : Int) != (l0.length : Int)) = true := bne_iff_ne.mpr c16
       have c16b2 : (t132.length == l0.length) = false := by first | simpa using c16 | (simp at c16 ⊢; omega)
       obtain rfl := Option.some.inj H
       go_wp2_with (first | ((with_reducible refine gate_callee (f := 65) rfl ?_); refine goesL_ (some 26) rfl rfl Try.func65 (by kernel_rfl) rfl #[.slice A0 l0.length c0, .int .i64 0] rfl ags ?_; (with_reducible refine (table_order.calls k1 _ _ l0 0 t132 _ ?side1 ?side2 A15.out).mono ?_); (case side1 => exact skC (Kd.C_below HR0.out HB.out)); (case side2 => exact HC0.out); rintro e w19 ⟨v133, rfl, ho0, hb⟩; refine ⟨_, rfl, ?_⟩; have n0_ := asd (Kd.R_lower ho0 (below_size (skB HB.out))); have n1_ := asd (below_step (skB HB.out) hb); clear HB; have HO134 := n0_; have HB := n1_; clear n0_ n1_; (try clear hb); (try clear hb2); (try clear hk); (try clear hi); (try clear ho0); obtain ⟨Ao20, co20, eo20⟩ := Kd.R_slice HO134.out; subst eo20))
       go_ret
       exact ⟨re, skB HB.out⟩
end Go.Proofs.Ytmmjkebboonnkaa.P
/- F9 -/
namespace Go.Proofs.Ytmmjkebboonnkaa.P
open Go.RowKit Go.Proofs.YtmmjkebboonnkaaW.PrintWords Go.Proofs.YtmmjkebboonnkaaW.PrintLast Go.Proofs.YtmmjkebboonnkaaW.PrintMore
attribute [local go_sem] max2_int min2_int max_two min_two max_three min_three max_four min_four   -- for this text's walks alone
set_option linter.unusedVariables false
set_option linter.unusedSimpArgs false
attribute [local go_sem high] eqA49
def table_Root.l0 : Nat → List (S49) → List Int → Int → Int → Int → Int → Int → Int → Int → Int → Option (Int × Int)
 | 0, _, _, _, _, _, _, _, _, _, _ => none
 | k + 1, x0, x36, x37, x38, x151000, x151001, x151002, x151003, x151004, x151005 => if x38 < x37 then (if 0 ≤ x38 then (if x38 < (x36.length : Int) then (if 0 ≤ (rd x36 x38) then (if (rd x36 x38) < (x0.length : Int) then (if ((J49 x0 (rd x36 x38)).f1) = 0 then (table_Root.l0 k x0 x36 x37 (wrap64 (x38 + 1)) x151000 x151001 x151002 x151003 x151004 x151005) else (some (0, 3))) else (none)) else (none)) else (none)) else (none)) else (some (x151004, 0))
def table_Root.f (k : Nat) (l0 : List (S49)) : Option (Int × Int) := (table_Check.f k l0).bind fun t145 => (if t145 = 0 then (if 0 < (l0.length : Int) then ((table_crowned.f l0 ((J49 l0 0).f0) ((J49 l0 0).f1) ((J49 l0 0).f2) ((J49 l0 0).f3) ((J49 l0 0).f4) ((J49 l0 0).f5)).bind fun t147 => (if t147 = true then (if 0 ≤ ((J49 l0 0).f4) then (if ((J49 l0 0).f4) < (l0.length : Int) then ((table_sentinel.f).bind fun bt151 => (if (((J49 l0 ((J49 l0 0).f4)).f0) == bt151.1 && (((J49 l0 ((J49 l0 0).f4)).f1) == bt151.2.1 && (((J49 l0 ((J49 l0 0).f4)).f2) == bt151.2.2.1 && (((J49 l0 ((J49 l0 0).f4)).f3) == bt151.2.2.2.1 && (((J49 l0 ((J49 l0 0).f4)).f4) == bt151.2.2.2.2.1 && (((J49 l0 ((J49 l0 0).f4)).f5) == bt151.2.2.2.2.2)))))) = true then (some (0, 4)) else ((table_crowned.f l0 ((J49 l0 ((J49 l0 0).f4)).f0) ((J49 l0 ((J49 l0 0).f4)).f1) ((J49 l0 ((J49 l0 0).f4)).f2) ((J49 l0 ((J49 l0 0).f4)).f3) ((J49 l0 ((J49 l0 0).f4)).f4) ((J49 l0 ((J49 l0 0).f4)).f5)).bind fun t157 => (if t157 = true then ((table_order.f k l0 ((J49 l0 ((J49 l0 0).f4)).f4)).bind fun t158 => (table_Root.l0 k l0 t158 (t158.length : Int) 0 ((J49 l0 ((J49 l0 0).f4)).f0) ((J49 l0 ((J49 l0 0).f4)).f1) ((J49 l0 ((J49 l0 0).f4)).f2) ((J49 l0 ((J49 l0 0).f4)).f3) ((J49 l0 ((J49 l0 0).f4)).f4) ((J49 l0 ((J49 l0 0).f4)).f5))) else (some (0, 3)))))) else (none)) else (none)) else (some (0, 3)))) else (none)) else (some (0, t145)))
theorem table_Root.mono_l : ∀ k, (∀ y0 y1 y2 y3 y4 y5 y6 y7 y8 y9, LeO (table_Root.l0 k y0 y1 y2 y3 y4 y5 y6 y7 y8 y9) (table_Root.l0 (k + 1) y0 y1 y2 y3 y4 y5 y6 y7 y8 y9))
 | 0 => fun _ _ _ _ _ _ _ _ _ _ r h => by simp [table_Root.l0] at h
 | k + 1 => by
  have ih0 := table_Root.mono_l k
  ·
   intro y0 y1 y2 y3 y4 y5 y6 y7 y8 y9
   unfold table_Root.l0
   repeat' first
   | (with_reducible exact ih0 _ _ _ _ _ _ _ _ _ _)
   | (with_reducible exact table_Check.mono _ _)
   | (with_reducible exact table_order.mono _ _ _)
   | (with_reducible exact LeO.refl _)
   | (with_reducible exact LeO.none _)
   | (with_reducible refine LeO.ite ?_ ?_)
   | (with_reducible refine LeO.bind ?_ (fun _ => ?_))
   | exact ih0 _ _ _ _ _ _ _ _ _ _
   | exact table_Check.mono _ _
   | exact table_order.mono _ _ _
   | exact LeO.none _
   | refine LeO.ite ?_ ?_
   | refine LeO.bind ?_ (fun _ => ?_)
theorem table_Root.mono : ∀ a0 k, LeO (table_Root.f k a0) (table_Root.f (k + 1) a0) := by
 intro a0 k
 have ih0 := table_Root.mono_l k
 unfold table_Root.f
 repeat' first
   | (with_reducible exact ih0 _ _ _ _ _ _ _ _ _ _)
   | (with_reducible exact table_Check.mono _ _)
   | (with_reducible exact table_order.mono _ _ _)
   | (with_reducible exact LeO.refl _)
   | (with_reducible exact LeO.none _)
   | (with_reducible refine LeO.ite ?_ ?_)
   | (with_reducible refine LeO.bind ?_ (fun _ => ?_))
   | exact ih0 _ _ _ _ _ _ _ _ _ _
   | exact table_Check.mono _ _
   | exact table_order.mono _ _ _
   | exact LeO.none _
   | refine LeO.ite ?_ ?_
   | refine LeO.bind ?_ (fun _ => ?_)
set_option maxHeartbeats 8000000 in
set_option maxRecDepth 100000 in
theorem table_Root.calls (k : Nat) (A0 : Option Addr) (c0 : Nat) (l0 : List (S49)) (r1 : Int) (r2 : Int) (w : World) (hr0 : Kd.C k49 w A0 l0.length l0) (hc0 : l0.length ≤ c0) (h : table_Root.f k l0 = some (r1, r2)) :
  Calls Try.prog 62 #[.slice A0 l0.length c0] w fun e w' => e = .returned (.tuple #[.int .i64 r1, .int .i64 r2]) ∧ Below w.heap.size w w' := by
 have hu49 := Try.underlying49
 have HR0 := asd hr0
 have HC0 := asd hc0
 clear hr0 hc0
 have HB := asd (Below.refl w.heap.size w)
 have H : ((table_Check.f k l0).bind fun t145 => (if t145 = 0 then (if 0 < (l0.length : Int) then ((table_crowned.f l0 ((J49 l0 0).f0) ((J49 l0 0).f1) ((J49 l0 0).f2) ((J49 l0 0).f3) ((J49 l0 0).f4) ((J49 l0 0).f5)).bind fun t147 => (if t147 = true then (if 0 ≤ ((J49 l0 0).f4) then (if ((J49 l0 0).f4) < (l0.length : Int) then ((table_sentinel.f).bind fun bt151 => (if (((J49 l0 ((J49 l0 0).f4)).f0) == bt151.1 && (((J49 l0 ((J49 l0 0).f4)).f1) == bt151.2.1 && (((J49 l0 ((J49 l0 0).f4)).f2) == bt151.2.2.1 && (((J49 l0 ((J49 l0 0).f4)).f3) == bt151.2.2.2.1 && (((J49 l0 ((J49 l0 0).f4)).f4) == bt151.2.2.2.2.1 && (((J49 l0 ((J49 l0 0).f4)).f5) == bt151.2.2.2.2.2)))))) = true then (some (0, 4)) else ((table_crowned.f l0 ((J49 l0 ((J49 l0 0).f4)).f0) ((J49 l0 ((J49 l0 0).f4)).f1) ((J49 l0 ((J49 l0 0).f4)).f2) ((J49 l0 ((J49 l0 0).f4)).f3) ((J49 l0 ((J49 l0 0).f4)).f4) ((J49 l0 ((J49 l0 0).f4)).f5)).bind fun t157 => (if t157 = true then ((table_order.f k l0 ((J49 l0 ((J49 l0 0).f4)).f4)).bind fun t158 => (table_Root.l0 k l0 t158 (t158.length : Int) 0 ((J49 l0 ((J49 l0 0).f4)).f0) ((J49 l0 ((J49 l0 0).f4)).f1) ((J49 l0 ((J49 l0 0).f4)).f2) ((J49 l0 ((J49 l0 0).f4)).f3) ((J49 l0 ((J49 l0 0).f4)).f4) ((J49 l0 ((J49 l0 0).f4)).f5))) else (some (0, 3)))))) else (none)) else (none)) else (some (0, 3)))) else (none)) else (some (0, t145)))) = some (r1, r2) := h
 clear h
 replace H := Option.bind_eq_some_iff.mp H
 obtain ⟨t145, A20, H⟩ := H
 replace H : (if t145 = 0 then (if 0 < (l0.length : Int) then ((table_crowned.f l0 ((J49 l0 0).f0) ((J49 l0 0).f1) ((J49 l0 0).f2) ((J49 l0 0).f3) ((J49 l0 0).f4) ((J49 l0 0).f5)).bind fun t147 => (if t147 = true then (if 0 ≤ ((J49 l0 0).f4) then (if ((J49 l0 0).f4) < (l0.length : Int) then ((table_sentinel.f).bind fun bt151 => (if (((J49 l0 ((J49 l0 0).f4)).f0) == bt151.1 && (((J49 l0 ((J49 l0 0).f4)).f1) == bt151.2.1 && (((J49 l0 ((J49 l0 0).f4)).f2) == bt151.2.2.1 && (((J49 l0 ((J49 l0 0).f4)).f3) == bt151.2.2.2.1 && (((J49 l0 ((J49 l0 0).f4)).f4) == bt151.2.2.2.2.1 && (((J49 l0 ((J49 l0 0).f4)).f5) == bt151.2.2.2.2.2)))))) = true then (some (0, 4)) else ((table_crowned.f l0 ((J49 l0 ((J49 l0 0).f4)).f0) ((J49 l0 ((J49 l0 0).f4)).f1) ((J49 l0 ((J49 l0 0).f4)).f2) ((J49 l0 ((J49 l0 0).f4)).f3) ((J49 l0 ((J49 l0 0).f4)).f4) ((J49 l0 ((J49 l0 0).f4)).f5)).bind fun t157 => (if t157 = true then ((table_order.f k l0 ((J49 l0 ((J49 l0 0).f4)).f4)).bind fun t158 => (table_Root.l0 k l0 t158 (t158.length : Int) 0 ((J49 l0 ((J49 l0 0).f4)).f0) ((J49 l0 ((J49 l0 0).f4)).f1) ((J49 l0 ((J49 l0 0).f4)).f2) ((J49 l0 ((J49 l0 0).f4)).f3) ((J49 l0 ((J49 l0 0).f4)).f4) ((J49 l0 ((J49 l0 0).f4)).f5))) else (some (0, 3)))))) else (none)) else (none)) else (some (0, 3)))) else (none)) else (some (0, t145))) = some (r1, r2) := H
 have A2 := asd A20
 clear A20
 by_cases c3 : t145 = 0
 ·
  rw [if_pos c3] at H
  have c3b0 : (t145 == 0) = true := beq_iff_eq.mpr c3
  have c3b1 : (t145 != 0) = false := bne_eq_false_iff_eq.mpr c3
  clear c3
  by_cases c4 : 0 < (l0.length : Int)
  ·
   rw [if_pos c4] at H
   have c4b0 : decide (0 < (l0.length : Int)) = true := decide_eq_true c4
   have c4b1 : decide (0 < l0.length) = true := decide_eq_true (by omega)
   clear c4
   replace H := Option.bind_eq_some_iff.mp H
   obtain ⟨t147, A50, H⟩ := H
   replace H : (if t147 = true then (if 0 ≤ ((J49 l0 0).f4) then (if ((J49 l0 0).f4) < (l0.length : Int) then ((table_sentinel.f).bind fun bt151 => (if (((J49 l0 ((J49 l0 0).f4)).f0) == bt151.1 && (((J49 l0 ((J49 l0 0).f4)).f1) == bt151.2.1 && (((J49 l0 ((J49 l0 0).f4)).f2) == bt151.2.2.1 && (((J49 l0 ((J49 l0 0).f4)).f3) == bt151.2.2.2.1 && (((J49 l0 ((J49 l0 0).f4)).f4) == bt151.2.2.2.2.1 && (((J49 l0 ((J49 l0 0).f4)).f5) == bt151.2.2.2.2.2)))))) = true then (some (0, 4)) else ((table_crowned.f l0 ((J49 l0 ((J49 l0 0).f4)).f0) ((J49 l0 ((J49 l0 0).f4)).f1) ((J49 l0 ((J49 l0 0).f4)).f2) ((J49 l0 ((J49 l0 0).f4)).f3) ((J49 l0 ((J49 l0 0).f4)).f4) ((J49 l0 ((J49 l0 0).f4)).f5)).bind fun t157 => (if t157 = true then ((table_order.f k l0 ((J49 l0 ((J49 l0 0).f4)).f4)).bind fun t158 => (table_Root.l0 k l0 t158 (t158.length : Int) 0 ((J49 l0 ((J49 l0 0).f4)).f0) ((J49 l0 ((J49 l0 0).f4)).f1) ((J49 l0 ((J49 l0 0).f4)).f2) ((J49 l0 ((J49 l0 0).f4)).f3) ((J49 l0 ((J49 l0 0).f4)).f4) ((J49 l0 ((J49 l0 0).f4)).f5))) else (some (0, 3)))))) else (none)) else (none)) else (some (0, 3))) = some (r1, r2) := H
   have A5 := asd A50
   clear A50
   by_cases c6 : t147 = true
   ·
    subst c6
    have H1 : (if 0 ≤ ((J49 l0 0).f4) then (if ((J49 l0 0).f4) < (l0.length : Int) then ((table_sentinel.f).bind fun bt151 => (if (((J49 l0 ((J49 l0 0).f4)).f0) == bt151.1 && (((J49 l0 ((J49 l0 0).f4)).f1) == bt151.2.1 && (((J49 l0 ((J49 l0 0).f4)).f2) == bt151.2.2.1 && (((J49 l0 ((J49 l0 0).f4)).f3) == bt151.2.2.2.1 && (((J49 l0 ((J49 l0 0).f4)).f4) == bt151.2.2.2.2.1 && (((J49 l0 ((J49 l0 0).f4)).f5) == bt151.2.2.2.2.2)))))) = true then (some (0, 4)) else ((table_crowned.f l0 ((J49 l0 ((J49 l0 0).f4)).f0) ((J49 l0 ((J49 l0 0).f4)).f1) ((J49 l0 ((J49 l0 0).f4)).f2) ((J49 l0 ((J49 l0 0).f4)).f3) ((J49 l0 ((J49 l0 0).f4)).f4) ((J49 l0 ((J49 l0 0).f4)).f5)).bind fun t157 => (if t157 = true then ((table_order.f k l0 ((J49 l0 ((J49 l0 0).f4)).f4)).bind fun t158 => (table_Root.l0 k l0 t158 (t158.length : Int) 0 ((J49 l0 ((J49 l0 0).f4)).f0) ((J49 l0 ((J49 l0 0).f4)).f1) ((J49 l0 ((J49 l0 0).f4)).f2) ((J49 l0 ((J49 l0 0).f4)).f3) ((J49 l0 ((J49 l0 0).f4)).f4) ((J49 l0 ((J49 l0 0).f4)).f5))) else (some (0, 3)))))) else (none)) else (none)) = some (r1, r2) := by rw [if_pos rfl] at H; exact H
    clear H
    have H := H1
    clear H1
    by_cases c7 : 0 ≤ ((J49 l0 0).f4)
    ·
     rw [if_pos c7] at H
     have c7b0 : decide (0 ≤ ((J49 l0 0).f4)) = true := decide_eq_true c7
     clear c7
     by_cases c8 : ((J49 l0 0).f4) < (l0.length : Int)
     ·
      rw [if_pos c8] at H
      have c8b0 : decide (((J49 l0 0).f4) < (l0.length : Int)) = true := decide_eq_true c8
      clear c8
      replace H := Option.bind_eq_some_iff.mp H
      obtain ⟨⟨t151, t152, t153, t154, t155, t156⟩, A90, H⟩ := H
      replace H : (if (((J49 l0 ((J49 l0 0).f4)).f0) == t151 && (((J49 l0 ((J49 l0 0).f4)).f1) == t152 && (((J49 l0 ((J49 l0 0).f4)).f2) == t153 && (((J49 l0 ((J49 l0 0).f4)).f3) == t154 && (((J49 l0 ((J49 l0 0).f4)).f4) == t155 && (((J49 l0 ((J49 l0 0).f4)).f5) == t156)))))) = true then (some (0, 4)) else ((table_crowned.f l0 ((J49 l0 ((J49 l0 0).f4)).f0) ((J49 l0 ((J49 l0 0).f4)).f1) ((J49 l0 ((J49 l0 0).f4)).f2) ((J49 l0 ((J49 l0 0).f4)).f3) ((J49 l0 ((J49 l0 0).f4)).f4) ((J49 l0 ((J49 l0 0).f4)).f5)).bind fun t157 => (if t157 = true then ((table_order.f k l0 ((J49 l0 ((J49 l0 0).f4)).f4)).bind fun t158 => (table_Root.l0 k l0 t158 (t158.length : Int) 0 ((J49 l0 ((J49 l0 0).f4)).f0) ((J49 l0 ((J49 l0 0).f4)).f1) ((J49 l0 ((J49 l0 0).f4)).f2) ((J49 l0 ((J49 l0 0).f4)).f3) ((J49 l0 ((J49 l0 0).f4)).f4) ((J49 l0 ((J49 l0 0).f4)).f5))) else (some (0, 3))))) = some (r1, r2) := H
      have A9 := asd A90
      clear A90
      by_cases c10 : (((J49 l0 ((J49 l0 0).f4)).f0) == t151 && (((J49 l0 ((J49 l0 0).f4)).f1) == t152 && (((J49 l0 ((J49 l0 0).f4)).f2) == t153 && (((J49 l0 ((J49 l0 0).f4)).f3) == t154 && (((J49 l0 ((J49 l0 0).f4)).f4) == t155 && (((J49 l0 ((J49 l0 0).f4)).f5) == t156)))))) = true
      ·
       rw [if_pos c10] at H
       have c10b0 : (((J49 l0 ((J49 l0 0).f4)).f0) == t151 && (((J49 l0 ((J49 l0 0).f4)).f1) == t152 && (((J49 l0 ((J49 l0 0).f4)).f2) == t153 && (((J49 l0 ((J49 l0 0).f4)).f3) == t154 && (((J49 l0 ((J49 l0 0).f4)).f4) == t155 && (((J49 l0 ((J49 l0 0).f4)).f5) == t156)))))) = true := c10
       (try (have c10b1 : decide (((J49 l0 ((J49 l0 0).f4)).f0) = t151 && (((J49 l0 ((J49 l0 0).f4)).f1) == t152 && (((J49 l0 ((J49 l0 0).f4)).f2) == t153 && (((J49 l0 ((J49 l0 0).f4)).f3) == t154 && (((J49 l0 ((J49 l0 0).f4)).f4) == t155 && (((J49 l0 ((J49 l0 0).f4)).f5) == t156)))))) = true := by simpa using c10))
       (try (have c10b2 : (((J49 l0 ((J49 l0 0).f4)).f0) == t151 && (((J49 l0 ((J49 l0 0).f4)).f1) == t152 && (((J49 l0 ((J49 l0 0).f4)).f2) == t153 && (((J49 l0 ((J49 l0 0).f4)).f3) == t154 && (((J49 l0 ((J49 l0 0).f4)).f4) == t155 && (((J49 l0 ((J49 l0 0).f4)).f5) == t156)))))) = true := by simpa using c10))
       clear c10
       simp only [Option.some.injEq, Prod.mk.injEq] at H
       obtain ⟨rfl, rfl⟩ := H
       go_enter Try.func62, Try.ntmps62
       try go_wp2_with (first | ((with_reducible refine gate_callee (f := 60) rfl ?_); refine goesL_ (some 9) rfl rfl Try.func60 (by kernel_rfl) rfl #[.slice A0 l0.length c0] rfl ags ?_; (with_reducible refine (table_Check.calls k _ _ l0 t145 _ ?side1 ?side2 A2.out).mono ?_); (case side1 => exact skC HR0.out); (case side2 => exact HC0.out); rintro e w11 ⟨rfl, hb⟩; refine ⟨_, rfl, ?_⟩; have n0_ := asd (below_step (skB HB.out) hb); clear HB; have HB := n0_; clear n0_; (try clear hb); (try clear hb2); (try clear hk); (try clear hi); have p146 : 0 ≤ (0 : Int) := (by omega); have q146 : 0 < (l0.length : Int) := dt; obtain ⟨ad146, e146, hx146_0, hx146_1, hx146_2, hx146_3, hx146_4, hx146_5⟩ := at_T49 HR0.out 0 p146 q146; cases e146; have qi146 : (0 < l0.length) = True := eq_true (by omega); (try rw [show ((0 : Int)).toNat = 0 from rfl] at hx146_0); (try rw [show 0 * 6 = 0 from rfl] at hx146_0); (try rw [Addr.add_zero'] at hx146_0); (try rw [show ((0 : Int)).toNat = 0 from rfl] at hx146_1); (try rw [show 0 * 6 = 0 from rfl] at hx146_1); (try rw [Addr.add_zero'] at hx146_1); (try rw [show ((0 : Int)).toNat = 0 from rfl] at hx146_2); (try rw [show 0 * 6 = 0 from rfl] at hx146_2); (try rw [Addr.add_zero'] at hx146_2); (try rw [show ((0 : Int)).toNat = 0 from rfl] at hx146_3); (try rw [show 0 * 6 = 0 from rfl] at hx146_3); (try rw [Addr.add_zero'] at hx146_3); (try rw [show ((0 : Int)).toNat = 0 from rfl] at hx146_4); (try rw [show 0 * 6 = 0 from rfl] at hx146_4); (try rw [Addr.add_zero'] at hx146_4); (try rw [show ((0 : Int)).toNat = 0 from rfl] at hx146_5); (try rw [show 0 * 6 = 0 from rfl] at hx146_5); (try rw [Addr.add_zero'] at hx146_5); replace hx146_0 := skc HB.out hx146_0; replace hx146_1 := skc HB.out hx146_1; replace hx146_2 := skc HB.out hx146_2; replace hx146_3 := skc HB.out hx146_3; replace hx146_4 := skc HB.out hx146_4; replace hx146_5 := skc HB.out hx146_5; replace p146 := eq_true p146; replace q146 := eq_true q146) | ((with_reducible refine gate_callee (f := 68) rfl ?_); refine goesL_ (some 17) rfl rfl Try.func68 (by kernel_rfl) rfl #[.slice (some ad146) l0.length c0, .agg #[.int .i64 ((J49 l0 0).f0), .int .i64 ((J49 l0 0).f1), .int .i64 ((J49 l0 0).f2), .int .i64 ((J49 l0 0).f3), .int .i64 ((J49 l0 0).f4), .int .i64 ((J49 l0 0).f5)]] rfl ags ?_; (with_reducible refine (table_crowned.calls _ _ l0 ((J49 l0 0).f0) ((J49 l0 0).f1) ((J49 l0 0).f2) ((J49 l0 0).f3) ((J49 l0 0).f4) ((J49 l0 0).f5) true _ ?side1 ?side2 A5.out).mono ?_); (case side1 => exact skC (Kd.C_below HR0.out HB.out)); (case side2 => exact HC0.out); rintro e w12 ⟨rfl, hb⟩; refine ⟨_, rfl, ?_⟩; have n0_ := asd (below_step (skB HB.out) hb); clear HB; have HB := n0_; clear n0_; (try clear hb); (try clear hb2); (try clear hk); (try clear hi); have p148 : 0 ≤ (0 : Int) := (by omega); have q148 : 0 < (l0.length : Int) := dt; obtain ⟨ad148, e148, hx148_0, hx148_1, hx148_2, hx148_3, hx148_4, hx148_5⟩ := at_T49 HR0.out 0 p148 q148; obtain rfl : ad146 = ad148 := (by injection e148); have qi148 : (0 < l0.length) = True := eq_true (by omega); (try rw [show ((0 : Int)).toNat = 0 from rfl] at hx148_0); (try rw [show 0 * 6 = 0 from rfl] at hx148_0); (try rw [Addr.add_zero'] at hx148_0); (try rw [show ((0 : Int)).toNat = 0 from rfl] at hx148_1); (try rw [show 0 * 6 = 0 from rfl] at hx148_1); (try rw [Addr.add_zero'] at hx148_1); (try rw [show ((0 : Int)).toNat = 0 from rfl] at hx148_2); (try rw [show 0 * 6 = 0 from rfl] at hx148_2); (try rw [Addr.add_zero'] at hx148_2); (try rw [show ((0 : Int)).toNat = 0 from rfl] at hx148_3); (try rw [show 0 * 6 = 0 from rfl] at hx148_3); (try rw [Addr.add_zero'] at hx148_3); (try rw [show ((0 : Int)).toNat = 0 from rfl] at hx148_4); (try rw [show 0 * 6 = 0 from rfl] at hx148_4); (try rw [Addr.add_zero'] at hx148_4); (try rw [show ((0 : Int)).toNat = 0 from rfl] at hx148_5); (try rw [show 0 * 6 = 0 from rfl] at hx148_5); (try rw [Addr.add_zero'] at hx148_5); replace hx148_0 := skc HB.out hx148_0; replace hx148_1 := skc HB.out hx148_1; replace hx148_2 := skc HB.out hx148_2; replace hx148_3 := skc HB.out hx148_3; replace hx148_4 := skc HB.out hx148_4; replace hx148_5 := skc HB.out hx148_5; replace p148 := eq_true p148; replace q148 := eq_true q148; have p149 : 0 ≤ (((J49 l0 0).f4) : Int) := dt; have q149 : ((J49 l0 0).f4) < (l0.length : Int) := dt; obtain ⟨ad149, e149, hx149_0, hx149_1, hx149_2, hx149_3, hx149_4, hx149_5⟩ := at_T49 HR0.out ((J49 l0 0).f4) p149 q149; obtain rfl : ad146 = ad149 := (by injection e149); replace hx149_0 := skc HB.out hx149_0; replace hx149_1 := skc HB.out hx149_1; replace hx149_2 := skc HB.out hx149_2; replace hx149_3 := skc HB.out hx149_3; replace hx149_4 := skc HB.out hx149_4; replace hx149_5 := skc HB.out hx149_5; replace p149 := eq_true p149; replace q149 := eq_true q149) | ((with_reducible refine gate_dst (N := 5) rfl ?_); refine box_event ?hg (N := 5) ?hd (cs := #[.int .i64 0, .int .i64 0, .int .i64 0, .int .i64 0, .int .i64 0, .int .i64 0]) (t := 49) ?hr ?_; (case hd => rfl); (case hg => rfl); (case hr => first | (go_simp; done) | (go_simp; rfl)); intro gb150 hg w13 hbox hb; have n0_ := asd (below_step (skB HB.out) hb); have n1_ := asd (hbox); have n2_ := asd ((by rw [hg]; exact (below_size (skB HB.out)) : w.heap.size ≤ gb150)); have n3_ := asd ((by rw [hg]; exact (below_size (skB HB.out)) : w.heap.size ≤ gb150)); clear HB; have HB := n0_; have BK150 := n1_; have GW150 := n2_; have GE150 := n3_; clear n0_ n1_ n2_ n3_; clear hb hbox hg; obtain ⟨hcz14_0, hcz14_1, hcz14_2, hcz14_3, hcz14_4, hcz14_5, hfz14_0, hfz14_1, hfz14_2, hfz14_3, hfz14_4, hfz14_5⟩ := bk6 BK150.out))
       have n0_ : Aside0 (((((((w13.setCell ⟨gb150, 0, none⟩ (.int .i64 ((J49 l0 ((J49 l0 0).f4)).f0))).setCell ⟨gb150, 1, none⟩ (.int .i64 ((J49 l0 ((J49 l0 0).f4)).f1))).setCell ⟨gb150, 2, none⟩ (.int .i64 ((J49 l0 ((J49 l0 0).f4)).f2))).setCell ⟨gb150, 3, none⟩ (.int .i64 ((J49 l0 ((J49 l0 0).f4)).f3))).setCell ⟨gb150, 4, none⟩ (.int .i64 ((J49 l0 ((J49 l0 0).f4)).f4))).setCell ⟨gb150, 5, none⟩ (.int .i64 ((J49 l0 ((J49 l0 0).f4)).f5))).heap[gb150]? = some (.cells #[.int .i64 ((J49 l0 ((J49 l0 0).f4)).f0), .int .i64 ((J49 l0 ((J49 l0 0).f4)).f1), .int .i64 ((J49 l0 ((J49 l0 0).f4)).f2), .int .i64 ((J49 l0 ((J49 l0 0).f4)).f3), .int .i64 ((J49 l0 ((J49 l0 0).f4)).f4), .int .i64 ((J49 l0 ((J49 l0 0).f4)).f5)] 49 (0, 0))) := ⟨by refine skk ?_; refine blk_put (cs := #[.int .i64 ((J49 l0 ((J49 l0 0).f4)).f0), .int .i64 ((J49 l0 ((J49 l0 0).f4)).f1), .int .i64 ((J49 l0 ((J49 l0 0).f4)).f2), .int .i64 ((J49 l0 ((J49 l0 0).f4)).f3), .int .i64 ((J49 l0 ((J49 l0 0).f4)).f4), .int .i64 0]) ?_ 5 _ rfl; refine skk ?_; refine blk_put (cs := #[.int .i64 ((J49 l0 ((J49 l0 0).f4)).f0), .int .i64 ((J49 l0 ((J49 l0 0).f4)).f1), .int .i64 ((J49 l0 ((J49 l0 0).f4)).f2), .int .i64 ((J49 l0 ((J49 l0 0).f4)).f3), .int .i64 0, .int .i64 0]) ?_ 4 _ rfl; refine skk ?_; refine blk_put (cs := #[.int .i64 ((J49 l0 ((J49 l0 0).f4)).f0), .int .i64 ((J49 l0 ((J49 l0 0).f4)).f1), .int .i64 ((J49 l0 ((J49 l0 0).f4)).f2), .int .i64 0, .int .i64 0, .int .i64 0]) ?_ 3 _ rfl; refine skk ?_; refine blk_put (cs := #[.int .i64 ((J49 l0 ((J49 l0 0).f4)).f0), .int .i64 ((J49 l0 ((J49 l0 0).f4)).f1), .int .i64 0, .int .i64 0, .int .i64 0, .int .i64 0]) ?_ 2 _ rfl; refine skk ?_; refine blk_put (cs := #[.int .i64 ((J49 l0 ((J49 l0 0).f4)).f0), .int .i64 0, .int .i64 0, .int .i64 0, .int .i64 0, .int .i64 0]) ?_ 1 _ rfl; refine skk ?_; refine blk_put (cs := #[.int .i64 0, .int .i64 0, .int .i64 0, .int .i64 0, .int .i64 0, .int .i64 0]) ?_ 0 _ rfl; refine skk ?_; exact BK150.out⟩
       have n1_ : Aside0 (Below w.heap.size w ((((((w13.setCell ⟨gb150, 0, none⟩ (.int .i64 ((J49 l0 ((J49 l0 0).f4)).f0))).setCell ⟨gb150, 1, none⟩ (.int .i64 ((J49 l0 ((J49 l0 0).f4)).f1))).setCell ⟨gb150, 2, none⟩ (.int .i64 ((J49 l0 ((J49 l0 0).f4)).f2))).setCell ⟨gb150, 3, none⟩ (.int .i64 ((J49 l0 ((J49 l0 0).f4)).f3))).setCell ⟨gb150, 4, none⟩ (.int .i64 ((J49 l0 ((J49 l0 0).f4)).f4))).setCell ⟨gb150, 5, none⟩ (.int .i64 ((J49 l0 ((J49 l0 0).f4)).f5)))) := ⟨skG HB.out GE150.out GE150.out⟩
       (try clear BK150)
       (try clear HB)
       generalize ((((((w13.setCell ⟨gb150, 0, none⟩ (.int .i64 ((J49 l0 ((J49 l0 0).f4)).f0))).setCell ⟨gb150, 1, none⟩ (.int .i64 ((J49 l0 ((J49 l0 0).f4)).f1))).setCell ⟨gb150, 2, none⟩ (.int .i64 ((J49 l0 ((J49 l0 0).f4)).f2))).setCell ⟨gb150, 3, none⟩ (.int .i64 ((J49 l0 ((J49 l0 0).f4)).f3))).setCell ⟨gb150, 4, none⟩ (.int .i64 ((J49 l0 ((J49 l0 0).f4)).f4))).setCell ⟨gb150, 5, none⟩ (.int .i64 ((J49 l0 ((J49 l0 0).f4)).f5))) = w15 at n0_ n1_ ⊢
       have BK150 := n0_
       have HB := n1_
       clear n0_ n1_
       have n0_ := asd (blk_drew BK150.out)
       have n1_ := asd (below_drew1 HB.out)
       clear BK150
       clear HB
       have BK150 := n0_
       have HB := n1_
       clear n0_ n1_
       refine start_ (n := 3) (S := fun w' => w'.cell? ⟨gb150, 0, none⟩ = some (.int .i64 ((J49 l0 ((J49 l0 0).f4)).f0)) ∧ w'.cell? ⟨gb150, 1, none⟩ = some (.int .i64 ((J49 l0 ((J49 l0 0).f4)).f1)) ∧ w'.cell? ⟨gb150, 2, none⟩ = some (.int .i64 ((J49 l0 ((J49 l0 0).f4)).f2)) ∧ w'.cell? ⟨gb150, 3, none⟩ = some (.int .i64 ((J49 l0 ((J49 l0 0).f4)).f3)) ∧ w'.cell? ⟨gb150, 4, none⟩ = some (.int .i64 ((J49 l0 ((J49 l0 0).f4)).f4)) ∧ w'.cell? ⟨gb150, 5, none⟩ = some (.int .i64 ((J49 l0 ((J49 l0 0).f4)).f5))) (ds := []) #[false,false,false] (by kernel_rfl) rfl rfl ⟨(blk_cell BK150.out 0).trans rfl, (blk_cell BK150.out 1).trans rfl, (blk_cell BK150.out 2).trans rfl, (blk_cell BK150.out 3).trans rfl, (blk_cell BK150.out 4).trans rfl, (blk_cell BK150.out 5).trans rfl⟩ (fun hHeld => ?_)
       generalize w15.drew = w16 at BK150 HB hHeld ⊢
       refine take_ (i := 0) (N := some 26) (v := ?_) (a' := ?_) #[true,false,false] rfl rfl (by kernel_rfl) (fun _ _ _ h => h) (Or.inl ⟨by rfl, ?_⟩) hHeld ?_ ?_
       rotate_left
       ·
        rintro w' ⟨s0, s1, s2, s3, s4, s5⟩
        go_simp
        with_reducible rfl
       rotate_left
       ·
        simp only [Act.put, sp]
        rfl
       refine one_ (i := 1) (N := some 27) #[true,true,false] rfl rfl (by kernel_rfl) (by decide) (fun K hK => ?_)
       refine goes_ Try.func69 (by kernel_rfl) rfl #[] (by rfl) rfl rfl ags ?_
       with_reducible refine (table_sentinel.calls  t151 t152 t153 t154 t155 t156 _ A9.out).mono ?_
       rintro e w17 ⟨rfl, hb⟩
       refine ⟨_, rfl, ?_⟩
       have n0_ := asd (blk_below (g := gb150) (o := .cells #[.int .i64 ((J49 l0 ((J49 l0 0).f4)).f0), .int .i64 ((J49 l0 ((J49 l0 0).f4)).f1), .int .i64 ((J49 l0 ((J49 l0 0).f4)).f2), .int .i64 ((J49 l0 ((J49 l0 0).f4)).f3), .int .i64 ((J49 l0 ((J49 l0 0).f4)).f4), .int .i64 ((J49 l0 ((J49 l0 0).f4)).f5)] 49 (0, 0)) (skK BK150.out) hb)
       have n1_ := asd (below_step (skG HB.out GE150.out GE150.out) hb)
       clear BK150
       clear HB
       have BK150 := n0_
       have HB := n1_
       clear n0_ n1_
       (try clear hb)
       (try clear hb2)
       (try clear hk)
       (try clear hi)
       refine hK.out _ _ ⟨(blk_cell BK150.out 0).trans rfl, (blk_cell BK150.out 1).trans rfl, (blk_cell BK150.out 2).trans rfl, (blk_cell BK150.out 3).trans rfl, (blk_cell BK150.out 4).trans rfl, (blk_cell BK150.out 5).trans rfl⟩ (fun hHeld => ?_)
       clear hK K
       refine norm_ (a' := ?_) ?_ ?_
       rotate_left
       ·
        show Act.put _ (some 27) _ = _
        simp only [Act.put, sp]
        rfl
       refine pure_ (i := 2) (N := some 28) (v := ?_) (a' := ?_) #[true,true,true] rfl rfl (by kernel_rfl) (fun _ _ _ h => h) (Or.inl ⟨by rfl, ?_⟩) ?_ ?_
       rotate_left
       ·
        intro w'
        go_simp
        with_reducible rfl
       rotate_left
       ·
        simp only [Act.put, sp]
        rfl
       refine done_ (by kernel_rfl) ?_
       try go_wp2
       go_ret2
       exact ⟨re, skG HB.out GE150.out GE150.out⟩
      ·
       rw [if_neg c10] at H
       have c10b0 : (((J49 l0 ((J49 l0 0).f4)).f0) == t151 && (((J49 l0 ((J49 l0 0).f4)).f1) == t152 && (((J49 l0 ((J49 l0 0).f4)).f2) == t153 && (((J49 l0 ((J49 l0 0).f4)).f3) == t154 && (((J49 l0 ((J49 l0 0).f4)).f4) == t155 && (((J49 l0 ((J49 l0 0).f4)).f5) == t156)))))) = false := by simpa using c10
       (try (have c10b1 : decide (((J49 l0 ((J49 l0 0).f4)).f0) = t151 && (((J49 l0 ((J49 l0 0).f4)).f1) == t152 && (((J49 l0 ((J49 l0 0).f4)).f2) == t153 && (((J49 l0 ((J49 l0 0).f4)).f3) == t154 && (((J49 l0 ((J49 l0 0).f4)).f4) == t155 && (((J49 l0 ((J49 l0 0).f4)).f5) == t156)))))) = false := by simpa using c10))
       (try (have c10b2 : (((J49 l0 ((J49 l0 0).f4)).f0) == t151 && (((J49 l0 ((J49 l0 0).f4)).f1) == t152 && (((J49 l0 ((J49 l0 0).f4)).f2) == t153 && (((J49 l0 ((J49 l0 0).f4)).f3) == t154 && (((J49 l0 ((J49 l0 0).f4)).f4) == t155 && (((J49 l0 ((J49 l0 0).f4)).f5) == t156)))))) = false := by simpa using c10))
       (try (have c10b3 : ¬ (((J49 l0 ((J49 l0 0).f4)).f0) = t151 && (((J49 l0 ((J49 l0 0).f4)).f1) == t152 && (((J49 l0 ((J49 l0 0).f4)).f2) == t153 && (((J49 l0 ((J49 l0 0).f4)).f3) == t154 && (((J49 l0 ((J49 l0 0).f4)).f4) == t155 && (((J49 l0 ((J49 l0 0).f4)).f5) == t156)))))) := by simpa using c10))
       clear c10
       replace H := Option.bind_eq_some_iff.mp H
       obtain ⟨t157, A180, H⟩ := H
       replace H : (if t157 = true then ((table_order.f k l0 ((J49 l0 ((J49 l0 0).f4)).f4)).bind fun t158 => (table_Root.l0 k l0 t158 (t158.length : Int) 0 ((J49 l0 ((J49 l0 0).f4)).f0) ((J49 l0 ((J49 l0 0).f4)).f1) ((J49 l0 ((J49 l0 0).f4)).f2) ((J49 l0 ((J49 l0 0).f4)).f3) ((J49 l0 ((J49 l0 0).f4)).f4) ((J49 l0 ((J49 l0 0).f4)).f5))) else (some (0, 3))) = some (r1, r2) := H
       have A18 := asd A180
       clear A180
       by_cases c19 : t157 = true
       ·
        subst c19
        have H1 : ((table_order.f k l0 ((J49 l0 ((J49 l0 0).f4)).f4)).bind fun t158 => (table_Root.l0 k l0 t158 (t158.length : Int) 0 ((J49 l0 ((J49 l0 0).f4)).f0) ((J49 l0 ((J49 l0 0).f4)).f1) ((J49 l0 ((J49 l0 0).f4)).f2) ((J49 l0 ((J49 l0 0).f4)).f3) ((J49 l0 ((J49 l0 0).f4)).f4) ((J49 l0 ((J49 l0 0).f4)).f5))) = some (r1, r2) := by rw [if_pos rfl] at H; exact H
        clear H
        have H := H1
        clear H1
        replace H := Option.bind_eq_some_iff.mp H
        obtain ⟨t158, A200, H⟩ := H
        replace H : (table_Root.l0 k l0 t158 (t158.length : Int) 0 ((J49 l0 ((J49 l0 0).f4)).f0) ((J49 l0 ((J49 l0 0).f4)).f1) ((J49 l0 ((J49 l0 0).f4)).f2) ((J49 l0 ((J49 l0 0).f4)).f3) ((J49 l0 ((J49 l0 0).f4)).f4) ((J49 l0 ((J49 l0 0).f4)).f5)) = some (r1, r2) := H
        have A20 := asd A200
        clear A200
        have H' := asd H
        clear H
        go_enter Try.func62, Try.ntmps62
        try go_wp2_with (first | ((with_reducible refine gate_callee (f := 60) rfl ?_); refine goesL_ (some 9) rfl rfl Try.func60 (by kernel_rfl) rfl #[.slice A0 l0.length c0] rfl ags ?_; (with_reducible refine (table_Check.calls k _ _ l0 t145 _ ?side1 ?side2 A2.out).mono ?_); (case side1 => exact skC HR0.out); (case side2 => exact HC0.out); rintro e w21 ⟨rfl, hb⟩; refine ⟨_, rfl, ?_⟩; have n0_ := asd (below_step (skB HB.out) hb); clear HB; have HB := n0_; clear n0_; (try clear hb); (try clear hb2); (try clear hk); (try clear hi); have p146 : 0 ≤ (0 : Int) := (by omega); have q146 : 0 < (l0.length : Int) := dt; obtain ⟨ad146, e146, hx146_0, hx146_1, hx146_2, hx146_3, hx146_4, hx146_5⟩ := at_T49 HR0.out 0 p146 q146; cases e146; have qi146 : (0 < l0.length) = True := eq_true (by omega); (try rw [show ((0 : Int)).toNat = 0 from rfl] at hx146_0); (try rw [show 0 * 6 = 0 from rfl] at hx146_0); (try rw [Addr.add_zero'] at hx146_0); (try rw [show ((0 : Int)).toNat = 0 from rfl] at hx146_1); (try rw [show 0 * 6 = 0 from rfl] at hx146_1); (try rw [Addr.add_zero'] at hx146_1); (try rw [show ((0 : Int)).toNat = 0 from rfl] at hx146_2); (try rw [show 0 * 6 = 0 from rfl] at hx146_2); (try rw [Addr.add_zero'] at hx146_2); (try rw [show ((0 : Int)).toNat = 0 from rfl] at hx146_3); (try rw [show 0 * 6 = 0 from rfl] at hx146_3); (try rw [Addr.add_zero'] at hx146_3); (try rw [show ((0 : Int)).toNat = 0 from rfl] at hx146_4); (try rw [show 0 * 6 = 0 from rfl] at hx146_4); (try rw [Addr.add_zero'] at hx146_4); (try rw [show ((0 : Int)).toNat = 0 from rfl] at hx146_5); (try rw [show 0 * 6 = 0 from rfl] at hx146_5); (try rw [Addr.add_zero'] at hx146_5); replace hx146_0 := skc HB.out hx146_0; replace hx146_1 := skc HB.out hx146_1; replace hx146_2 := skc HB.out hx146_2; replace hx146_3 := skc HB.out hx146_3; replace hx146_4 := skc HB.out hx146_4; replace hx146_5 := skc HB.out hx146_5; replace p146 := eq_true p146; replace q146 := eq_true q146) | ((with_reducible refine gate_callee (f := 68) rfl ?_); refine goesL_ (some 17) rfl rfl Try.func68 (by kernel_rfl) rfl #[.slice (some ad146) l0.length c0, .agg #[.int .i64 ((J49 l0 0).f0), .int .i64 ((J49 l0 0).f1), .int .i64 ((J49 l0 0).f2), .int .i64 ((J49 l0 0).f3), .int .i64 ((J49 l0 0).f4), .int .i64 ((J49 l0 0).f5)]] rfl ags ?_; (with_reducible refine (table_crowned.calls _ _ l0 ((J49 l0 0).f0) ((J49 l0 0).f1) ((J49 l0 0).f2) ((J49 l0 0).f3) ((J49 l0 0).f4) ((J49 l0 0).f5) true _ ?side1 ?side2 A5.out).mono ?_); (case side1 => exact skC (Kd.C_below HR0.out HB.out)); (case side2 => exact HC0.out); rintro e w22 ⟨rfl, hb⟩; refine ⟨_, rfl, ?_⟩; have n0_ := asd (below_step (skB HB.out) hb); clear HB; have HB := n0_; clear n0_; (try clear hb); (try clear hb2); (try clear hk); (try clear hi); have p148 : 0 ≤ (0 : Int) := (by omega); have q148 : 0 < (l0.length : Int) := dt; obtain ⟨ad148, e148, hx148_0, hx148_1, hx148_2, hx148_3, hx148_4, hx148_5⟩ := at_T49 HR0.out 0 p148 q148; obtain rfl : ad146 = ad148 := (by injection e148); have qi148 : (0 < l0.length) = True := eq_true (by omega); (try rw [show ((0 : Int)).toNat = 0 from rfl] at hx148_0); (try rw [show 0 * 6 = 0 from rfl] at hx148_0); (try rw [Addr.add_zero'] at hx148_0); (try rw [show ((0 : Int)).toNat = 0 from rfl] at hx148_1); (try rw [show 0 * 6 = 0 from rfl] at hx148_1); (try rw [Addr.add_zero'] at hx148_1); (try rw [show ((0 : Int)).toNat = 0 from rfl] at hx148_2); (try rw [show 0 * 6 = 0 from rfl] at hx148_2); (try rw [Addr.add_zero'] at hx148_2); (try rw [show ((0 : Int)).toNat = 0 from rfl] at hx148_3); (try rw [show 0 * 6 = 0 from rfl] at hx148_3); (try rw [Addr.add_zero'] at hx148_3); (try rw [show ((0 : Int)).toNat = 0 from rfl] at hx148_4); (try rw [show 0 * 6 = 0 from rfl] at hx148_4); (try rw [Addr.add_zero'] at hx148_4); (try rw [show ((0 : Int)).toNat = 0 from rfl] at hx148_5); (try rw [show 0 * 6 = 0 from rfl] at hx148_5); (try rw [Addr.add_zero'] at hx148_5); replace hx148_0 := skc HB.out hx148_0; replace hx148_1 := skc HB.out hx148_1; replace hx148_2 := skc HB.out hx148_2; replace hx148_3 := skc HB.out hx148_3; replace hx148_4 := skc HB.out hx148_4; replace hx148_5 := skc HB.out hx148_5; replace p148 := eq_true p148; replace q148 := eq_true q148; have p149 : 0 ≤ (((J49 l0 0).f4) : Int) := dt; have q149 : ((J49 l0 0).f4) < (l0.length : Int) := dt; obtain ⟨ad149, e149, hx149_0, hx149_1, hx149_2, hx149_3, hx149_4, hx149_5⟩ := at_T49 HR0.out ((J49 l0 0).f4) p149 q149; obtain rfl : ad146 = ad149 := (by injection e149); replace hx149_0 := skc HB.out hx149_0; replace hx149_1 := skc HB.out hx149_1; replace hx149_2 := skc HB.out hx149_2; replace hx149_3 := skc HB.out hx149_3; replace hx149_4 := skc HB.out hx149_4; replace hx149_5 := skc HB.out hx149_5; replace p149 := eq_true p149; replace q149 := eq_true q149) | ((with_reducible refine gate_dst (N := 5) rfl ?_); refine box_event ?hg (N := 5) ?hd (cs := #[.int .i64 0, .int .i64 0, .int .i64 0, .int .i64 0, .int .i64 0, .int .i64 0]) (t := 49) ?hr ?_; (case hd => rfl); (case hg => rfl); (case hr => first | (go_simp; done) | (go_simp; rfl)); intro gb150 hg w23 hbox hb; have n0_ := asd (below_step (skB HB.out) hb); have n1_ := asd (hbox); have n2_ := asd ((by rw [hg]; exact (below_size (skB HB.out)) : w.heap.size ≤ gb150)); have n3_ := asd ((by rw [hg]; exact (below_size (skB HB.out)) : w.heap.size ≤ gb150)); clear HB; have HB := n0_; have BK150 := n1_; have GW150 := n2_; have GE150 := n3_; clear n0_ n1_ n2_ n3_; clear hb hbox hg; obtain ⟨hcz24_0, hcz24_1, hcz24_2, hcz24_3, hcz24_4, hcz24_5, hfz24_0, hfz24_1, hfz24_2, hfz24_3, hfz24_4, hfz24_5⟩ := bk6 BK150.out))
        have n0_ : Aside0 (((((((w23.setCell ⟨gb150, 0, none⟩ (.int .i64 ((J49 l0 ((J49 l0 0).f4)).f0))).setCell ⟨gb150, 1, none⟩ (.int .i64 ((J49 l0 ((J49 l0 0).f4)).f1))).setCell ⟨gb150, 2, none⟩ (.int .i64 ((J49 l0 ((J49 l0 0).f4)).f2))).setCell ⟨gb150, 3, none⟩ (.int .i64 ((J49 l0 ((J49 l0 0).f4)).f3))).setCell ⟨gb150, 4, none⟩ (.int .i64 ((J49 l0 ((J49 l0 0).f4)).f4))).setCell ⟨gb150, 5, none⟩ (.int .i64 ((J49 l0 ((J49 l0 0).f4)).f5))).heap[gb150]? = some (.cells #[.int .i64 ((J49 l0 ((J49 l0 0).f4)).f0), .int .i64 ((J49 l0 ((J49 l0 0).f4)).f1), .int .i64 ((J49 l0 ((J49 l0 0).f4)).f2), .int .i64 ((J49 l0 ((J49 l0 0).f4)).f3), .int .i64 ((J49 l0 ((J49 l0 0).f4)).f4), .int .i64 ((J49 l0 ((J49 l0 0).f4)).f5)] 49 (0, 0))) := ⟨by refine skk ?_; refine blk_put (cs := #[.int .i64 ((J49 l0 ((J49 l0 0).f4)).f0), .int .i64 ((J49 l0 ((J49 l0 0).f4)).f1), .int .i64 ((J49 l0 ((J49 l0 0).f4)).f2), .int .i64 ((J49 l0 ((J49 l0 0).f4)).f3), .int .i64 ((J49 l0 ((J49 l0 0).f4)).f4), .int .i64 0]) ?_ 5 _ rfl; refine skk ?_; refine blk_put (cs := #[.int .i64 ((J49 l0 ((J49 l0 0).f4)).f0), .int .i64 ((J49 l0 ((J49 l0 0).f4)).f1), .int .i64 ((J49 l0 ((J49 l0 0).f4)).f2), .int .i64 ((J49 l0 ((J49 l0 0).f4)).f3), .int .i64 0, .int .i64 0]) ?_ 4 _ rfl; refine skk ?_; refine blk_put (cs := #[.int .i64 ((J49 l0 ((J49 l0 0).f4)).f0), .int .i64 ((J49 l0 ((J49 l0 0).f4)).f1), .int .i64 ((J49 l0 ((J49 l0 0).f4)).f2), .int .i64 0, .int .i64 0, .int .i64 0]) ?_ 3 _ rfl; refine skk ?_; refine blk_put (cs := #[.int .i64 ((J49 l0 ((J49 l0 0).f4)).f0), .int .i64 ((J49 l0 ((J49 l0 0).f4)).f1), .int .i64 0, .int .i64 0, .int .i64 0, .int .i64 0]) ?_ 2 _ rfl; refine skk ?_; refine blk_put (cs := #[.int .i64 ((J49 l0 ((J49 l0 0).f4)).f0), .int .i64 0, .int .i64 0, .int .i64 0, .int .i64 0, .int .i64 0]) ?_ 1 _ rfl; refine skk ?_; refine blk_put (cs := #[.int .i64 0, .int .i64 0, .int .i64 0, .int .i64 0, .int .i64 0, .int .i64 0]) ?_ 0 _ rfl; refine skk ?_; exact BK150.out⟩
        have n1_ : Aside0 (Below w.heap.size w ((((((w23.setCell ⟨gb150, 0, none⟩ (.int .i64 ((J49 l0 ((J49 l0 0).f4)).f0))).setCell ⟨gb150, 1, none⟩ (.int .i64 ((J49 l0 ((J49 l0 0).f4)).f1))).setCell ⟨gb150, 2, none⟩ (.int .i64 ((J49 l0 ((J49 l0 0).f4)).f2))).setCell ⟨gb150, 3, none⟩ (.int .i64 ((J49 l0 ((J49 l0 0).f4)).f3))).setCell ⟨gb150, 4, none⟩ (.int .i64 ((J49 l0 ((J49 l0 0).f4)).f4))).setCell ⟨gb150, 5, none⟩ (.int .i64 ((J49 l0 ((J49 l0 0).f4)).f5)))) := ⟨skG HB.out GE150.out GE150.out⟩
        (try clear BK150)
        (try clear HB)
        generalize ((((((w23.setCell ⟨gb150, 0, none⟩ (.int .i64 ((J49 l0 ((J49 l0 0).f4)).f0))).setCell ⟨gb150, 1, none⟩ (.int .i64 ((J49 l0 ((J49 l0 0).f4)).f1))).setCell ⟨gb150, 2, none⟩ (.int .i64 ((J49 l0 ((J49 l0 0).f4)).f2))).setCell ⟨gb150, 3, none⟩ (.int .i64 ((J49 l0 ((J49 l0 0).f4)).f3))).setCell ⟨gb150, 4, none⟩ (.int .i64 ((J49 l0 ((J49 l0 0).f4)).f4))).setCell ⟨gb150, 5, none⟩ (.int .i64 ((J49 l0 ((J49 l0 0).f4)).f5))) = w25 at n0_ n1_ ⊢
        have BK150 := n0_
        have HB := n1_
        clear n0_ n1_
        have n0_ := asd (blk_drew BK150.out)
        have n1_ := asd (below_drew1 HB.out)
        clear BK150
        clear HB
        have BK150 := n0_
        have HB := n1_
        clear n0_ n1_
        refine start_ (n := 3) (S := fun w' => w'.cell? ⟨gb150, 0, none⟩ = some (.int .i64 ((J49 l0 ((J49 l0 0).f4)).f0)) ∧ w'.cell? ⟨gb150, 1, none⟩ = some (.int .i64 ((J49 l0 ((J49 l0 0).f4)).f1)) ∧ w'.cell? ⟨gb150, 2, none⟩ = some (.int .i64 ((J49 l0 ((J49 l0 0).f4)).f2)) ∧ w'.cell? ⟨gb150, 3, none⟩ = some (.int .i64 ((J49 l0 ((J49 l0 0).f4)).f3)) ∧ w'.cell? ⟨gb150, 4, none⟩ = some (.int .i64 ((J49 l0 ((J49 l0 0).f4)).f4)) ∧ w'.cell? ⟨gb150, 5, none⟩ = some (.int .i64 ((J49 l0 ((J49 l0 0).f4)).f5))) (ds := []) #[false,false,false] (by kernel_rfl) rfl rfl ⟨(blk_cell BK150.out 0).trans rfl, (blk_cell BK150.out 1).trans rfl, (blk_cell BK150.out 2).trans rfl, (blk_cell BK150.out 3).trans rfl, (blk_cell BK150.out 4).trans rfl, (blk_cell BK150.out 5).trans rfl⟩ (fun hHeld => ?_)
        generalize w25.drew = w26 at BK150 HB hHeld ⊢
        refine take_ (i := 0) (N := some 26) (v := ?_) (a' := ?_) #[true,false,false] rfl rfl (by kernel_rfl) (fun _ _ _ h => h) (Or.inl ⟨by rfl, ?_⟩) hHeld ?_ ?_
        rotate_left
        ·
         rintro w' ⟨s0, s1, s2, s3, s4, s5⟩
         go_simp
         with_reducible rfl
        rotate_left
        ·
         simp only [Act.put, sp]
         rfl
        refine one_ (i := 1) (N := some 27) #[true,true,false] rfl rfl (by kernel_rfl) (by decide) (fun K hK => ?_)
        refine goes_ Try.func69 (by kernel_rfl) rfl #[] (by rfl) rfl rfl ags ?_
        with_reducible refine (table_sentinel.calls  t151 t152 t153 t154 t155 t156 _ A9.out).mono ?_
        rintro e w27 ⟨rfl, hb⟩
        refine ⟨_, rfl, ?_⟩
        have n0_ := asd (blk_below (g := gb150) (o := .cells #[.int .i64 ((J49 l0 ((J49 l0 0).f4)).f0), .int .i64 ((J49 l0 ((J49 l0 0).f4)).f1), .int .i64 ((J49 l0 ((J49 l0 0).f4)).f2), .int .i64 ((J49 l0 ((J49 l0 0).f4)).f3), .int .i64 ((J49 l0 ((J49 l0 0).f4)).f4), .int .i64 ((J49 l0 ((J49 l0 0).f4)).f5)] 49 (0, 0)) (skK BK150.out) hb)
        have n1_ := asd (below_step (skG HB.out GE150.out GE150.out) hb)
        clear BK150
        clear HB
        have BK150 := n0_
        have HB := n1_
        clear n0_ n1_
        (try clear hb)
        (try clear hb2)
        (try clear hk)
        (try clear hi)
        refine hK.out _ _ ⟨(blk_cell BK150.out 0).trans rfl, (blk_cell BK150.out 1).trans rfl, (blk_cell BK150.out 2).trans rfl, (blk_cell BK150.out 3).trans rfl, (blk_cell BK150.out 4).trans rfl, (blk_cell BK150.out 5).trans rfl⟩ (fun hHeld => ?_)
        clear hK K
        refine norm_ (a' := ?_) ?_ ?_
        rotate_left
        ·
         show Act.put _ (some 27) _ = _
         simp only [Act.put, sp]
         rfl
        refine pure_ (i := 2) (N := some 28) (v := ?_) (a' := ?_) #[true,true,true] rfl rfl (by kernel_rfl) (fun _ _ _ h => h) (Or.inl ⟨by rfl, ?_⟩) ?_ ?_
        rotate_left
        ·
         intro w'
         go_simp
         with_reducible rfl
        rotate_left
        ·
         simp only [Act.put, sp]
         rfl
        refine done_ (by kernel_rfl) ?_
        obtain ⟨hcz28_0, hcz28_1, hcz28_2, hcz28_3, hcz28_4, hcz28_5, hfz28_0, hfz28_1, hfz28_2, hfz28_3, hfz28_4, hfz28_5⟩ := bk6 BK150.out
        try go_wp2_with (first | ((with_reducible refine gate_callee (f := 68) rfl ?_); refine goesL_ (some 31) rfl rfl Try.func68 (by kernel_rfl) rfl #[.slice (some ad146) l0.length c0, .agg #[.int .i64 ((J49 l0 ((J49 l0 0).f4)).f0), .int .i64 ((J49 l0 ((J49 l0 0).f4)).f1), .int .i64 ((J49 l0 ((J49 l0 0).f4)).f2), .int .i64 ((J49 l0 ((J49 l0 0).f4)).f3), .int .i64 ((J49 l0 ((J49 l0 0).f4)).f4), .int .i64 ((J49 l0 ((J49 l0 0).f4)).f5)]] rfl ags ?_; (with_reducible refine (table_crowned.calls _ _ l0 ((J49 l0 ((J49 l0 0).f4)).f0) ((J49 l0 ((J49 l0 0).f4)).f1) ((J49 l0 ((J49 l0 0).f4)).f2) ((J49 l0 ((J49 l0 0).f4)).f3) ((J49 l0 ((J49 l0 0).f4)).f4) ((J49 l0 ((J49 l0 0).f4)).f5) true _ ?side1 ?side2 A18.out).mono ?_); (case side1 => exact skC (Kd.C_below HR0.out HB.out)); (case side2 => exact HC0.out); rintro e w29 ⟨rfl, hb⟩; refine ⟨_, rfl, ?_⟩; have n0_ := asd (blk_below (g := gb150) (o := .cells #[.int .i64 ((J49 l0 ((J49 l0 0).f4)).f0), .int .i64 ((J49 l0 ((J49 l0 0).f4)).f1), .int .i64 ((J49 l0 ((J49 l0 0).f4)).f2), .int .i64 ((J49 l0 ((J49 l0 0).f4)).f3), .int .i64 ((J49 l0 ((J49 l0 0).f4)).f4), .int .i64 ((J49 l0 ((J49 l0 0).f4)).f5)] 49 (0, 0)) (skK BK150.out) hb); have n1_ := asd (below_step (skG HB.out GE150.out GE150.out) hb); clear BK150; clear HB; have BK150 := n0_; have HB := n1_; clear n0_ n1_; (try clear hb); (try clear hb2); (try clear hk); (try clear hi); obtain ⟨hcz30_0, hcz30_1, hcz30_2, hcz30_3, hcz30_4, hcz30_5, hfz30_0, hfz30_1, hfz30_2, hfz30_3, hfz30_4, hfz30_5⟩ := bk6 BK150.out) | ((with_reducible refine gate_callee (f := 65) rfl ?_); refine goesL_ (some 36) rfl rfl Try.func65 (by kernel_rfl) rfl #[.slice (some ad146) l0.length c0, .int .i64 ((J49 l0 ((J49 l0 0).f4)).f4)] rfl ags ?_; (with_reducible refine (table_order.calls k _ _ l0 ((J49 l0 ((J49 l0 0).f4)).f4) t158 _ ?side1 ?side2 A20.out).mono ?_); (case side1 => exact skC (Kd.C_below HR0.out HB.out)); (case side2 => exact HC0.out); rintro e w31 ⟨v159, rfl, ho0, hb⟩; refine ⟨_, rfl, ?_⟩; have n0_ := asd (Kd.R_lower ho0 (below_size (skG HB.out GE150.out GE150.out))); have n1_ := asd (blk_below (g := gb150) (o := .cells #[.int .i64 ((J49 l0 ((J49 l0 0).f4)).f0), .int .i64 ((J49 l0 ((J49 l0 0).f4)).f1), .int .i64 ((J49 l0 ((J49 l0 0).f4)).f2), .int .i64 ((J49 l0 ((J49 l0 0).f4)).f3), .int .i64 ((J49 l0 ((J49 l0 0).f4)).f4), .int .i64 ((J49 l0 ((J49 l0 0).f4)).f5)] 49 (0, 0)) (skK BK150.out) hb); have n2_ := asd (below_step (skG HB.out GE150.out GE150.out) hb); clear BK150; clear HB; have HO160 := n0_; have BK150 := n1_; have HB := n2_; clear n0_ n1_ n2_; (try clear hb); (try clear hb2); (try clear hk); (try clear hi); (try clear ho0); obtain ⟨Ao32, co32, eo32⟩ := Kd.R_slice HO160.out; subst eo32))
        go_loopg [38] k (fun kq v38 w' => ∃ (x38_1 : Int), v38 = .int .i64 x38_1 ∧ Aside0 (table_Root.l0 kq l0 t158 (t158.length : Int) x38_1 ((J49 l0 ((J49 l0 0).f4)).f0) ((J49 l0 ((J49 l0 0).f4)).f1) ((J49 l0 ((J49 l0 0).f4)).f2) ((J49 l0 ((J49 l0 0).f4)).f3) ((J49 l0 ((J49 l0 0).f4)).f4) ((J49 l0 ((J49 l0 0).f4)).f5) = some (r1, r2)) ∧ Aside0 (kq ≤ k) ∧ Aside0 (Kd.R (Kd.int .i64) 3 w' w.heap.size (fun _ => True) (.slice Ao32 t158.length co32) t158) ∧ Aside0 (w'.heap[gb150]? = some (.cells #[.int .i64 ((J49 l0 ((J49 l0 0).f4)).f0), .int .i64 ((J49 l0 ((J49 l0 0).f4)).f1), .int .i64 ((J49 l0 ((J49 l0 0).f4)).f2), .int .i64 ((J49 l0 ((J49 l0 0).f4)).f3), .int .i64 ((J49 l0 ((J49 l0 0).f4)).f4), .int .i64 ((J49 l0 ((J49 l0 0).f4)).f5)] 49 (0, 0))) ∧ Aside0 (Below w.heap.size w w'))
        case atStart => exact ⟨(0), rs, H', ⟨Nat.le_refl _⟩, ⟨skR HO160.out⟩, ⟨skK BK150.out⟩, ⟨skG HB.out GE150.out GE150.out⟩⟩
        case round =>
         clear H'
         try clear c1
         try clear p1
         try clear q1
         try clear hx1
         try clear qi1
         try clear p2
         try clear c3
         try clear c3b0
         try clear c3b1
         try clear c4
         try clear c4b0
         try clear c4b1
         try clear c6
         try clear c7
         try clear c7b0
         try clear c8
         try clear c8b0
         try clear c10
         try clear c10b0
         try clear c10b1
         try clear c10b2
         try clear p14
         try clear q14
         try clear hx14
         try clear qi14
         try clear c19
         try clear hcz14_0
         try clear hcz14_1
         try clear hcz14_2
         try clear hcz14_3
         try clear hcz14_4
         try clear hcz14_5
         try clear hcz24_0
         try clear hcz24_1
         try clear hcz24_2
         try clear hcz24_3
         try clear hcz24_4
         try clear hcz24_5
         try clear hcz28_0
         try clear hcz28_1
         try clear hcz28_2
         try clear hcz28_3
         try clear hcz28_4
         try clear hcz28_5
         try clear hcz30_0
         try clear hcz30_1
         try clear hcz30_2
         try clear hcz30_3
         try clear hcz30_4
         try clear hcz30_5
         try clear hfz14_0
         try clear hfz14_1
         try clear hfz14_2
         try clear hfz14_3
         try clear hfz14_4
         try clear hfz14_5
         try clear hfz24_0
         try clear hfz24_1
         try clear hfz24_2
         try clear hfz24_3
         try clear hfz24_4
         try clear hfz24_5
         try clear hfz28_0
         try clear hfz28_1
         try clear hfz28_2
         try clear hfz28_3
         try clear hfz28_4
         try clear hfz28_5
         try clear hfz30_0
         try clear hfz30_1
         try clear hfz30_2
         try clear hfz30_3
         try clear hfz30_4
         try clear hfz30_5
         try clear hx146_0
         try clear hx146_1
         try clear hx146_2
         try clear hx146_3
         try clear hx146_4
         try clear hx146_5
         try clear hx148_0
         try clear hx148_1
         try clear hx148_2
         try clear hx148_3
         try clear hx148_4
         try clear hx148_5
         try clear hx149_0
         try clear hx149_1
         try clear hx149_2
         try clear hx149_3
         try clear hx149_4
         try clear hx149_5
         try clear p146
         try clear p148
         try clear p149
         try clear q146
         try clear q148
         try clear q149
         obtain ⟨x38_1, rfl, HA, HK1, HO_36, BK150, HB⟩ := hrel
         cases gk with
         | zero => exact absurd HA.out (by simp [table_Root.l0])
         | succ k1 =>
          have H := HA.out
          clear HA
          simp only [table_Root.l0] at H
          by_cases c33 : x38_1 < (t158.length : Int)
          ·
           rw [if_pos c33] at H
           have c33b0 : decide (x38_1 < (t158.length : Int)) = true := decide_eq_true c33
           clear c33
           by_cases c34 : 0 ≤ x38_1
           ·
            rw [if_pos c34] at H
            have c34b0 : decide (0 ≤ x38_1) = true := decide_eq_true c34
            clear c34
            by_cases c35 : x38_1 < (t158.length : Int)
            ·
             rw [if_pos c35] at H
             have c35b0 : decide (x38_1 < (t158.length : Int)) = true := decide_eq_true c35
             clear c35
             by_cases c36 : 0 ≤ (rd t158 x38_1)
             ·
              rw [if_pos c36] at H
              have c36b0 : decide (0 ≤ (rd t158 x38_1)) = true := decide_eq_true c36
              clear c36
              by_cases c37 : (rd t158 x38_1) < (l0.length : Int)
              ·
               rw [if_pos c37] at H
               have c37b0 : decide ((rd t158 x38_1) < (l0.length : Int)) = true := decide_eq_true c37
               clear c37
               by_cases c38 : ((J49 l0 (rd t158 x38_1)).f1) = 0
               ·
                rw [if_pos c38] at H
                have c38b0 : (((J49 l0 (rd t158 x38_1)).f1) == 0) = true := beq_iff_eq.mpr c38
                have c38b1 : (((J49 l0 (rd t158 x38_1)).f1) != 0) = false := bne_eq_false_iff_eq.mpr c38
                clear c38
                have H' := asd H
                clear H
                have p161 : 0 ≤ (x38_1 : Int) := dt
                have q161 : x38_1 < (t158.length : Int) := dt
                obtain ⟨ad161, e161, hx161_0⟩ := Kd.at_int (Kd.R_reads' HO_36.out).2.2 x38_1 p161 q161
                cases e161
                replace p161 := eq_true p161
                replace q161 := eq_true q161
                have p162 : 0 ≤ ((rd t158 x38_1) : Int) := dt
                have q162 : (rd t158 x38_1) < (l0.length : Int) := dt
                obtain ⟨ad162, e162, hx162_0, hx162_1, hx162_2, hx162_3, hx162_4, hx162_5⟩ := at_T49 HR0.out (rd t158 x38_1) p162 q162
                obtain rfl : ad146 = ad162 := (by injection e162)
                replace hx162_0 := skc HB.out hx162_0
                replace hx162_1 := skc HB.out hx162_1
                replace hx162_2 := skc HB.out hx162_2
                replace hx162_3 := skc HB.out hx162_3
                replace hx162_4 := skc HB.out hx162_4
                replace hx162_5 := skc HB.out hx162_5
                replace p162 := eq_true p162
                replace q162 := eq_true q162
                go_wp2
                go_roundg k1
                case measure => have := HK1.out; omega
                case rel => exact ⟨(wrap64 (x38_1 + 1)), rs, H', ⟨by have := HK1.out; omega⟩, ⟨skR HO_36.out⟩, ⟨skK BK150.out⟩, ⟨skG HB.out GE150.out GE150.out⟩⟩
               ·
                rw [if_neg c38] at H
                have c38b0 : (((J49 l0 (rd t158 x38_1)).f1) == 0) = false := beq_eq_false_iff_ne.mpr c38
                have c38b1 : (((J49 l0 (rd t158 x38_1)).f1) != 0) = true := bne_iff_ne.mpr c38
                simp only [Option.some.injEq, Prod.mk.injEq] at H
                obtain ⟨rfl, rfl⟩ := H
                have p161 : 0 ≤ (x38_1 : Int) := dt
                have q161 : x38_1 < (t158.length : Int) := dt
                obtain ⟨ad161, e161, hx161_0⟩ := Kd.at_int (Kd.R_reads' HO_36.out).2.2 x38_1 p161 q161
                cases e161
                replace p161 := eq_true p161
                replace q161 := eq_true q161
                have p162 : 0 ≤ ((rd t158 x38_1) : Int) := dt
                have q162 : (rd t158 x38_1) < (l0.length : Int) := dt
                obtain ⟨ad162, e162, hx162_0, hx162_1, hx162_2, hx162_3, hx162_4, hx162_5⟩ := at_T49 HR0.out (rd t158 x38_1) p162 q162
                obtain rfl : ad146 = ad162 := (by injection e162)
                replace hx162_0 := skc HB.out hx162_0
                replace hx162_1 := skc HB.out hx162_1
                replace hx162_2 := skc HB.out hx162_2
                replace hx162_3 := skc HB.out hx162_3
                replace hx162_4 := skc HB.out hx162_4
                replace hx162_5 := skc HB.out hx162_5
                replace p162 := eq_true p162
                replace q162 := eq_true q162
                go_wp2
                go_ret2
                exact ⟨re, skG HB.out GE150.out GE150.out⟩
              ·
               rw [if_neg c37] at H
               exact absurd H (by simp)
             ·
              rw [if_neg c36] at H
              exact absurd H (by simp)
            ·
             rw [if_neg c35] at H
             exact absurd H (by simp)
           ·
            rw [if_neg c34] at H
            exact absurd H (by simp)
          ·
           rw [if_neg c33] at H
           have c33b0 : decide (x38_1 < (t158.length : Int)) = false := decide_eq_false c33
           clear c33
           simp only [Option.some.injEq, Prod.mk.injEq] at H
           obtain ⟨rfl, rfl⟩ := H
           obtain ⟨hcz39_0, hcz39_1, hcz39_2, hcz39_3, hcz39_4, hcz39_5, hfz39_0, hfz39_1, hfz39_2, hfz39_3, hfz39_4, hfz39_5⟩ := bk6 BK150.out
           go_wp2
           go_ret2
           exact ⟨re, skG HB.out GE150.out GE150.out⟩
       ·
        replace c19 := Bool.eq_false_iff.mpr c19
        subst c19
        have H1 : (some (0, 3)) = some (r1, r2) := by rw [if_neg (show ¬ (false = true) by decide)] at H; exact H
        clear H
        have H := H1
        clear H1
        simp only [Option.some.injEq, Prod.mk.injEq] at H
        obtain ⟨rfl, rfl⟩ := H
        go_enter Try.func62, Try.ntmps62
        try go_wp2_with (first | ((with_reducible refine gate_callee (f := 60) rfl ?_); refine goesL_ (some 9) rfl rfl Try.func60 (by kernel_rfl) rfl #[.slice A0 l0.length c0] rfl ags ?_; (with_reducible refine (table_Check.calls k _ _ l0 t145 _ ?side1 ?side2 A2.out).mono ?_); (case side1 => exact skC HR0.out); (case side2 => exact HC0.out); rintro e w40 ⟨rfl, hb⟩; refine ⟨_, rfl, ?_⟩; have n0_ := asd (below_step (skB HB.out) hb); clear HB; have HB := n0_; clear n0_; (try clear hb); (try clear hb2); (try clear hk); (try clear hi); have p146 : 0 ≤ (0 : Int) := (by omega); have q146 : 0 < (l0.length : Int) := dt; obtain ⟨ad146, e146, hx146_0, hx146_1, hx146_2, hx146_3, hx146_4, hx146_5⟩ := at_T49 HR0.out 0 p146 q146; cases e146; have qi146 : (0 < l0.length) = True := eq_true (by omega); (try rw [show ((0 : Int)).toNat = 0 from rfl] at hx146_0); (try rw [show 0 * 6 = 0 from rfl] at hx146_0); (try rw [Addr.add_zero'] at hx146_0); (try rw [show ((0 : Int)).toNat = 0 from rfl] at hx146_1); (try rw [show 0 * 6 = 0 from rfl] at hx146_1); (try rw [Addr.add_zero'] at hx146_1); (try rw [show ((0 : Int)).toNat = 0 from rfl] at hx146_2); (try rw [show 0 * 6 = 0 from rfl] at hx146_2); (try rw [Addr.add_zero'] at hx146_2); (try rw [show ((0 : Int)).toNat = 0 from rfl] at hx146_3); (try rw [show 0 * 6 = 0 from rfl] at hx146_3); (try rw [Addr.add_zero'] at hx146_3); (try rw [show ((0 : Int)).toNat = 0 from rfl] at hx146_4); (try rw [show 0 * 6 = 0 from rfl] at hx146_4); (try rw [Addr.add_zero'] at hx146_4); (try rw [show ((0 : Int)).toNat = 0 from rfl] at hx146_5); (try rw [show 0 * 6 = 0 from rfl] at hx146_5); (try rw [Addr.add_zero'] at hx146_5); replace hx146_0 := skc HB.out hx146_0; replace hx146_1 := skc HB.out hx146_1; replace hx146_2 := skc HB.out hx146_2; replace hx146_3 := skc HB.out hx146_3; replace hx146_4 := skc HB.out hx146_4; replace hx146_5 := skc HB.out hx146_5; replace p146 := eq_true p146; replace q146 := eq_true q146) | ((with_reducible refine gate_callee (f := 68) rfl ?_); refine goesL_ (some 17) rfl rfl Try.func68 (by kernel_rfl) rfl #[.slice (some ad146) l0.length c0, .agg #[.int .i64 ((J49 l0 0).f0), .int .i64 ((J49 l0 0).f1), .int .i64 ((J49 l0 0).f2), .int .i64 ((J49 l0 0).f3), .int .i64 ((J49 l0 0).f4), .int .i64 ((J49 l0 0).f5)]] rfl ags ?_; (with_reducible refine (table_crowned.calls _ _ l0 ((J49 l0 0).f0) ((J49 l0 0).f1) ((J49 l0 0).f2) ((J49 l0 0).f3) ((J49 l0 0).f4) ((J49 l0 0).f5) true _ ?side1 ?side2 A5.out).mono ?_); (case side1 => exact skC (Kd.C_below HR0.out HB.out)); (case side2 => exact HC0.out); rintro e w41 ⟨rfl, hb⟩; refine ⟨_, rfl, ?_⟩; have n0_ := asd (below_step (skB HB.out) hb); clear HB; have HB := n0_; clear n0_; (try clear hb); (try clear hb2); (try clear hk); (try clear hi); have p148 : 0 ≤ (0 : Int) := (by omega); have q148 : 0 < (l0.length : Int) := dt; obtain ⟨ad148, e148, hx148_0, hx148_1, hx148_2, hx148_3, hx148_4, hx148_5⟩ := at_T49 HR0.out 0 p148 q148; obtain rfl : ad146 = ad148 := (by injection e148); have qi148 : (0 < l0.length) = True := eq_true (by omega); (try rw [show ((0 : Int)).toNat = 0 from rfl] at hx148_0); (try rw [show 0 * 6 = 0 from rfl] at hx148_0); (try rw [Addr.add_zero'] at hx148_0); (try rw [show ((0 : Int)).toNat = 0 from rfl] at hx148_1); (try rw [show 0 * 6 = 0 from rfl] at hx148_1); (try rw [Addr.add_zero'] at hx148_1); (try rw [show ((0 : Int)).toNat = 0 from rfl] at hx148_2); (try rw [show 0 * 6 = 0 from rfl] at hx148_2); (try rw [Addr.add_zero'] at hx148_2); (try rw [show ((0 : Int)).toNat = 0 from rfl] at hx148_3); (try rw [show 0 * 6 = 0 from rfl] at hx148_3); (try rw [Addr.add_zero'] at hx148_3); (try rw [show ((0 : Int)).toNat = 0 from rfl] at hx148_4); (try rw [show 0 * 6 = 0 from rfl] at hx148_4); (try rw [Addr.add_zero'] at hx148_4); (try rw [show ((0 : Int)).toNat = 0 from rfl] at hx148_5); (try rw [show 0 * 6 = 0 from rfl] at hx148_5); (try rw [Addr.add_zero'] at hx148_5); replace hx148_0 := skc HB.out hx148_0; replace hx148_1 := skc HB.out hx148_1; replace hx148_2 := skc HB.out hx148_2; replace hx148_3 := skc HB.out hx148_3; replace hx148_4 := skc HB.out hx148_4; replace hx148_5 := skc HB.out hx148_5; replace p148 := eq_true p148; replace q148 := eq_true q148; have p149 : 0 ≤ (((J49 l0 0).f4) : Int) := dt; have q149 : ((J49 l0 0).f4) < (l0.length : Int) := dt; obtain ⟨ad149, e149, hx149_0, hx149_1, hx149_2, hx149_3, hx149_4, hx149_5⟩ := at_T49 HR0.out ((J49 l0 0).f4) p149 q149; obtain rfl : ad146 = ad149 := (by injection e149); replace hx149_0 := skc HB.out hx149_0; replace hx149_1 := skc HB.out hx149_1; replace hx149_2 := skc HB.out hx149_2; replace hx149_3 := skc HB.out hx149_3; replace hx149_4 := skc HB.out hx149_4; replace hx149_5 := skc HB.out hx149_5; replace p149 := eq_true p149; replace q149 := eq_true q149) | ((with_reducible refine gate_dst (N := 5) rfl ?_); refine box_event ?hg (N := 5) ?hd (cs := #[.int .i64 0, .int .i64 0, .int .i64 0, .int .i64 0, .int .i64 0, .int .i64 0]) (t := 49) ?hr ?_; (case hd => rfl); (case hg => rfl); (case hr => first | (go_simp; done) | (go_simp; rfl)); intro gb150 hg w42 hbox hb; have n0_ := asd (below_step (skB HB.out) hb); have n1_ := asd (hbox); have n2_ := asd ((by rw [hg]; exact (below_size (skB HB.out)) : w.heap.size ≤ gb150)); have n3_ := asd ((by rw [hg]; exact (below_size (skB HB.out)) : w.heap.size ≤ gb150)); clear HB; have HB := n0_; have BK150 := n1_; have GW150 := n2_; have GE150 := n3_; clear n0_ n1_ n2_ n3_; clear hb hbox hg; obtain ⟨hcz43_0, hcz43_1, hcz43_2, hcz43_3, hcz43_4, hcz43_5, hfz43_0, hfz43_1, hfz43_2, hfz43_3, hfz43_4, hfz43_5⟩ := bk6 BK150.out))
        have n0_ : Aside0 (((((((w42.setCell ⟨gb150, 0, none⟩ (.int .i64 ((J49 l0 ((J49 l0 0).f4)).f0))).setCell ⟨gb150, 1, none⟩ (.int .i64 ((J49 l0 ((J49 l0 0).f4)).f1))).setCell ⟨gb150, 2, none⟩ (.int .i64 ((J49 l0 ((J49 l0 0).f4)).f2))).setCell ⟨gb150, 3, none⟩ (.int .i64 ((J49 l0 ((J49 l0 0).f4)).f3))).setCell ⟨gb150, 4, none⟩ (.int .i64 ((J49 l0 ((J49 l0 0).f4)).f4))).setCell ⟨gb150, 5, none⟩ (.int .i64 ((J49 l0 ((J49 l0 0).f4)).f5))).heap[gb150]? = some (.cells #[.int .i64 ((J49 l0 ((J49 l0 0).f4)).f0), .int .i64 ((J49 l0 ((J49 l0 0).f4)).f1), .int .i64 ((J49 l0 ((J49 l0 0).f4)).f2), .int .i64 ((J49 l0 ((J49 l0 0).f4)).f3), .int .i64 ((J49 l0 ((J49 l0 0).f4)).f4), .int .i64 ((J49 l0 ((J49 l0 0).f4)).f5)] 49 (0, 0))) := ⟨by refine skk ?_; refine blk_put (cs := #[.int .i64 ((J49 l0 ((J49 l0 0).f4)).f0), .int .i64 ((J49 l0 ((J49 l0 0).f4)).f1), .int .i64 ((J49 l0 ((J49 l0 0).f4)).f2), .int .i64 ((J49 l0 ((J49 l0 0).f4)).f3), .int .i64 ((J49 l0 ((J49 l0 0).f4)).f4), .int .i64 0]) ?_ 5 _ rfl; refine skk ?_; refine blk_put (cs := #[.int .i64 ((J49 l0 ((J49 l0 0).f4)).f0), .int .i64 ((J49 l0 ((J49 l0 0).f4)).f1), .int .i64 ((J49 l0 ((J49 l0 0).f4)).f2), .int .i64 ((J49 l0 ((J49 l0 0).f4)).f3), .int .i64 0, .int .i64 0]) ?_ 4 _ rfl; refine skk ?_; refine blk_put (cs := #[.int .i64 ((J49 l0 ((J49 l0 0).f4)).f0), .int .i64 ((J49 l0 ((J49 l0 0).f4)).f1), .int .i64 ((J49 l0 ((J49 l0 0).f4)).f2), .int .i64 0, .int .i64 0, .int .i64 0]) ?_ 3 _ rfl; refine skk ?_; refine blk_put (cs := #[.int .i64 ((J49 l0 ((J49 l0 0).f4)).f0), .int .i64 ((J49 l0 ((J49 l0 0).f4)).f1), .int .i64 0, .int .i64 0, .int .i64 0, .int .i64 0]) ?_ 2 _ rfl; refine skk ?_; refine blk_put (cs := #[.int .i64 ((J49 l0 ((J49 l0 0).f4)).f0), .int .i64 0, .int .i64 0, .int .i64 0, .int .i64 0, .int .i64 0]) ?_ 1 _ rfl; refine skk ?_; refine blk_put (cs := #[.int .i64 0, .int .i64 0, .int .i64 0, .int .i64 0, .int .i64 0, .int .i64 0]) ?_ 0 _ rfl; refine skk ?_; exact BK150.out⟩
        have n1_ : Aside0 (Below w.heap.size w ((((((w42.setCell ⟨gb150, 0, none⟩ (.int .i64 ((J49 l0 ((J49 l0 0).f4)).f0))).setCell ⟨gb150, 1, none⟩ (.int .i64 ((J49 l0 ((J49 l0 0).f4)).f1))).setCell ⟨gb150, 2, none⟩ (.int .i64 ((J49 l0 ((J49 l0 0).f4)).f2))).setCell ⟨gb150, 3, none⟩ (.int .i64 ((J49 l0 ((J49 l0 0).f4)).f3))).setCell ⟨gb150, 4, none⟩ (.int .i64 ((J49 l0 ((J49 l0 0).f4)).f4))).setCell ⟨gb150, 5, none⟩ (.int .i64 ((J49 l0 ((J49 l0 0).f4)).f5)))) := ⟨skG HB.out GE150.out GE150.out⟩
        (try clear BK150)
        (try clear HB)
        generalize ((((((w42.setCell ⟨gb150, 0, none⟩ (.int .i64 ((J49 l0 ((J49 l0 0).f4)).f0))).setCell ⟨gb150, 1, none⟩ (.int .i64 ((J49 l0 ((J49 l0 0).f4)).f1))).setCell ⟨gb150, 2, none⟩ (.int .i64 ((J49 l0 ((J49 l0 0).f4)).f2))).setCell ⟨gb150, 3, none⟩ (.int .i64 ((J49 l0 ((J49 l0 0).f4)).f3))).setCell ⟨gb150, 4, none⟩ (.int .i64 ((J49 l0 ((J49 l0 0).f4)).f4))).setCell ⟨gb150, 5, none⟩ (.int .i64 ((J49 l0 ((J49 l0 0).f4)).f5))) = w44 at n0_ n1_ ⊢
        have BK150 := n0_
        have HB := n1_
        clear n0_ n1_
        have n0_ := asd (blk_drew BK150.out)
        have n1_ := asd (below_drew1 HB.out)
        clear BK150
        clear HB
        have BK150 := n0_
        have HB := n1_
        clear n0_ n1_
        refine start_ (n := 3) (S := fun w' => w'.cell? ⟨gb150, 0, none⟩ = some (.int .i64 ((J49 l0 ((J49 l0 0).f4)).f0)) ∧ w'.cell? ⟨gb150, 1, none⟩ = some (.int .i64 ((J49 l0 ((J49 l0 0).f4)).f1)) ∧ w'.cell? ⟨gb150, 2, none⟩ = some (.int .i64 ((J49 l0 ((J49 l0 0).f4)).f2)) ∧ w'.cell? ⟨gb150, 3, none⟩ = some (.int .i64 ((J49 l0 ((J49 l0 0).f4)).f3)) ∧ w'.cell? ⟨gb150, 4, none⟩ = some (.int .i64 ((J49 l0 ((J49 l0 0).f4)).f4)) ∧ w'.cell? ⟨gb150, 5, none⟩ = some (.int .i64 ((J49 l0 ((J49 l0 0).f4)).f5))) (ds := []) #[false,false,false] (by kernel_rfl) rfl rfl ⟨(blk_cell BK150.out 0).trans rfl, (blk_cell BK150.out 1).trans rfl, (blk_cell BK150.out 2).trans rfl, (blk_cell BK150.out 3).trans rfl, (blk_cell BK150.out 4).trans rfl, (blk_cell BK150.out 5).trans rfl⟩ (fun hHeld => ?_)
        generalize w44.drew = w45 at BK150 HB hHeld ⊢
        refine take_ (i := 0) (N := some 26) (v := ?_) (a' := ?_) #[true,false,false] rfl rfl (by kernel_rfl) (fun _ _ _ h => h) (Or.inl ⟨by rfl, ?_⟩) hHeld ?_ ?_
        rotate_left
        ·
         rintro w' ⟨s0, s1, s2, s3, s4, s5⟩
         go_simp
         with_reducible rfl
        rotate_left
        ·
         simp only [Act.put, sp]
         rfl
        refine one_ (i := 1) (N := some 27) #[true,true,false] rfl rfl (by kernel_rfl) (by decide) (fun K hK => ?_)
        refine goes_ Try.func69 (by kernel_rfl) rfl #[] (by rfl) rfl rfl ags ?_
        with_reducible refine (table_sentinel.calls  t151 t152 t153 t154 t155 t156 _ A9.out).mono ?_
        rintro e w46 ⟨rfl, hb⟩
        refine ⟨_, rfl, ?_⟩
        have n0_ := asd (blk_below (g := gb150) (o := .cells #[.int .i64 ((J49 l0 ((J49 l0 0).f4)).f0), .int .i64 ((J49 l0 ((J49 l0 0).f4)).f1), .int .i64 ((J49 l0 ((J49 l0 0).f4)).f2), .int .i64 ((J49 l0 ((J49 l0 0).f4)).f3), .int .i64 ((J49 l0 ((J49 l0 0).f4)).f4), .int .i64 ((J49 l0 ((J49 l0 0).f4)).f5)] 49 (0, 0)) (skK BK150.out) hb)
        have n1_ := asd (below_step (skG HB.out GE150.out GE150.out) hb)
        clear BK150
        clear HB
        have BK150 := n0_
        have HB := n1_
        clear n0_ n1_
        (try clear hb)
        (try clear hb2)
        (try clear hk)
        (try clear hi)
        refine hK.out _ _ ⟨(blk_cell BK150.out 0).trans rfl, (blk_cell BK150.out 1).trans rfl, (blk_cell BK150.out 2).trans rfl, (blk_cell BK150.out 3).trans rfl, (blk_cell BK150.out 4).trans rfl, (blk_cell BK150.out 5).trans rfl⟩ (fun hHeld => ?_)
        clear hK K
        refine norm_ (a' := ?_) ?_ ?_
        rotate_left
        ·
         show Act.put _ (some 27) _ = _
         simp only [Act.put, sp]
         rfl
        refine pure_ (i := 2) (N := some 28) (v := ?_) (a' := ?_) #[true,true,true] rfl rfl (by kernel_rfl) (fun _ _ _ h => h) (Or.inl ⟨by rfl, ?_⟩) ?_ ?_
        rotate_left
        ·
         intro w'
         go_simp
         with_reducible rfl
        rotate_left
        ·
         simp only [Act.put, sp]
         rfl
        refine done_ (by kernel_rfl) ?_
        obtain ⟨hcz47_0, hcz47_1, hcz47_2, hcz47_3, hcz47_4, hcz47_5, hfz47_0, hfz47_1, hfz47_2, hfz47_3, hfz47_4, hfz47_5⟩ := bk6 BK150.out
        try go_wp2_with (first | ((with_reducible refine gate_callee (f := 68) rfl ?_); refine goesL_ (some 31) rfl rfl Try.func68 (by kernel_rfl) rfl #[.slice (some ad146) l0.length c0, .agg #[.int .i64 ((J49 l0 ((J49 l0 0).f4)).f0), .int .i64 ((J49 l0 ((J49 l0 0).f4)).f1), .int .i64 ((J49 l0 ((J49 l0 0).f4)).f2), .int .i64 ((J49 l0 ((J49 l0 0).f4)).f3), .int .i64 ((J49 l0 ((J49 l0 0).f4)).f4), .int .i64 ((J49 l0 ((J49 l0 0).f4)).f5)]] rfl ags ?_; (with_reducible refine (table_crowned.calls _ _ l0 ((J49 l0 ((J49 l0 0).f4)).f0) ((J49 l0 ((J49 l0 0).f4)).f1) ((J49 l0 ((J49 l0 0).f4)).f2) ((J49 l0 ((J49 l0 0).f4)).f3) ((J49 l0 ((J49 l0 0).f4)).f4) ((J49 l0 ((J49 l0 0).f4)).f5) false _ ?side1 ?side2 A18.out).mono ?_); (case side1 => exact skC (Kd.C_below HR0.out HB.out)); (case side2 => exact HC0.out); rintro e w48 ⟨rfl, hb⟩; refine ⟨_, rfl, ?_⟩; have n0_ := asd (blk_below (g := gb150) (o := .cells #[.int .i64 ((J49 l0 ((J49 l0 0).f4)).f0), .int .i64 ((J49 l0 ((J49 l0 0).f4)).f1), .int .i64 ((J49 l0 ((J49 l0 0).f4)).f2), .int .i64 ((J49 l0 ((J49 l0 0).f4)).f3), .int .i64 ((J49 l0 ((J49 l0 0).f4)).f4), .int .i64 ((J49 l0 ((J49 l0 0).f4)).f5)] 49 (0, 0)) (skK BK150.out) hb); have n1_ := asd (below_step (skG HB.out GE150.out GE150.out) hb); clear BK150; clear HB; have BK150 := n0_; have HB := n1_; clear n0_ n1_; (try clear hb); (try clear hb2); (try clear hk); (try clear hi)))
        go_ret2
        exact ⟨re, skG HB.out GE150.out GE150.out⟩
     ·
      rw [if_neg c8] at H
      exact absurd H (by simp)
    ·
     rw [if_neg c7] at H
     exact absurd H (by simp)
   ·
    replace c6 := Bool.eq_false_iff.mpr c6
    subst c6
    have H1 : (some (0, 3)) = some (r1, r2) := by rw [if_neg (show ¬ (false = true) by decide)] at H; exact H
    clear H
    have H := H1
    clear H1
    simp only [Option.some.injEq, Prod.mk.injEq] at H
    obtain ⟨rfl, rfl⟩ := H
    go_enter Try.func62, Try.ntmps62
    go_wp2_with (first | ((with_reducible refine gate_callee (f := 60) rfl ?_); refine goesL_ (some 9) rfl rfl Try.func60 (by kernel_rfl) rfl #[.slice A0 l0.length c0] rfl ags ?_; (with_reducible refine (table_Check.calls k _ _ l0 t145 _ ?side1 ?side2 A2.out).mono ?_); (case side1 => exact skC HR0.out); (case side2 => exact HC0.out); rintro e w49 ⟨rfl, hb⟩; refine ⟨_, rfl, ?_⟩; have n0_ := asd (below_step (skB HB.out) hb); clear HB; have HB := n0_; clear n0_; (try clear hb); (try clear hb2); (try clear hk); (try clear hi); have p146 : 0 ≤ (0 : Int) := (by omega); have q146 : 0 < (l0.length : Int) := dt; obtain ⟨ad146, e146, hx146_0, hx146_1, hx146_2, hx146_3, hx146_4, hx146_5⟩ := at_T49 HR0.out 0 p146 q146; cases e146; have qi146 : (0 < l0.length) = True := eq_true (by omega); (try rw [show ((0 : Int)).toNat = 0 from rfl] at hx146_0); (try rw [show 0 * 6 = 0 from rfl] at hx146_0); (try rw [Addr.add_zero'] at hx146_0); (try rw [show ((0 : Int)).toNat = 0 from rfl] at hx146_1); (try rw [show 0 * 6 = 0 from rfl] at hx146_1); (try rw [Addr.add_zero'] at hx146_1); (try rw [show ((0 : Int)).toNat = 0 from rfl] at hx146_2); (try rw [show 0 * 6 = 0 from rfl] at hx146_2); (try rw [Addr.add_zero'] at hx146_2); (try rw [show ((0 : Int)).toNat = 0 from rfl] at hx146_3); (try rw [show 0 * 6 = 0 from rfl] at hx146_3); (try rw [Addr.add_zero'] at hx146_3); (try rw [show ((0 : Int)).toNat = 0 from rfl] at hx146_4); (try rw [show 0 * 6 = 0 from rfl] at hx146_4); (try rw [Addr.add_zero'] at hx146_4); (try rw [show ((0 : Int)).toNat = 0 from rfl] at hx146_5); (try rw [show 0 * 6 = 0 from rfl] at hx146_5); (try rw [Addr.add_zero'] at hx146_5); replace hx146_0 := skc HB.out hx146_0; replace hx146_1 := skc HB.out hx146_1; replace hx146_2 := skc HB.out hx146_2; replace hx146_3 := skc HB.out hx146_3; replace hx146_4 := skc HB.out hx146_4; replace hx146_5 := skc HB.out hx146_5; replace p146 := eq_true p146; replace q146 := eq_true q146) | ((with_reducible refine gate_callee (f := 68) rfl ?_); refine goesL_ (some 17) rfl rfl Try.func68 (by kernel_rfl) rfl #[.slice (some ad146) l0.length c0, .agg #[.int .i64 ((J49 l0 0).f0), .int .i64 ((J49 l0 0).f1), .int .i64 ((J49 l0 0).f2), .int .i64 ((J49 l0 0).f3), .int .i64 ((J49 l0 0).f4), .int .i64 ((J49 l0 0).f5)]] rfl ags ?_; (with_reducible refine (table_crowned.calls _ _ l0 ((J49 l0 0).f0) ((J49 l0 0).f1) ((J49 l0 0).f2) ((J49 l0 0).f3) ((J49 l0 0).f4) ((J49 l0 0).f5) false _ ?side1 ?side2 A5.out).mono ?_); (case side1 => exact skC (Kd.C_below HR0.out HB.out)); (case side2 => exact HC0.out); rintro e w50 ⟨rfl, hb⟩; refine ⟨_, rfl, ?_⟩; have n0_ := asd (below_step (skB HB.out) hb); clear HB; have HB := n0_; clear n0_; (try clear hb); (try clear hb2); (try clear hk); (try clear hi)))
    go_ret2
    exact ⟨re, skB HB.out⟩
  ·
   rw [if_neg c4] at H
   exact absurd H (by simp)
 ·
  rw [if_neg c3] at H
  have c3b0 : (t145 == 0) = false := beq_eq_false_iff_ne.mpr c3
  have c3b1 : (t145 != 0) = true := bne_iff_ne.mpr c3
  simp only [Option.some.injEq, Prod.mk.injEq] at H
  obtain ⟨rfl, rfl⟩ := H
  go_enter Try.func62, Try.ntmps62
  go_wp2_with (first | ((with_reducible refine gate_callee (f := 60) rfl ?_); refine goesL_ (some 9) rfl rfl Try.func60 (by kernel_rfl) rfl #[.slice A0 l0.length c0] rfl ags ?_; (with_reducible refine (table_Check.calls k _ _ l0 t145 _ ?side1 ?side2 A2.out).mono ?_); (case side1 => exact skC HR0.out); (case side2 => exact HC0.out); rintro e w51 ⟨rfl, hb⟩; refine ⟨_, rfl, ?_⟩; have n0_ := asd (below_step (skB HB.out) hb); clear HB; have HB := n0_; clear n0_; (try clear hb); (try clear hb2); (try clear hk); (try clear hi)))
  go_ret2
  exact ⟨re, skB HB.out⟩
end Go.Proofs.Ytmmjkebboonnkaa.P
/- F20 -/
namespace Go.Proofs.Ytmmjkebboonnkaa.P
open Go.RowKit Go.Proofs.YtmmjkebboonnkaaW.PrintWords Go.Proofs.YtmmjkebboonnkaaW.PrintLast Go.Proofs.YtmmjkebboonnkaaW.PrintMore
attribute [local go_sem] max2_int min2_int max_two min_two max_three min_three max_four min_four   -- for this text's walks alone
set_option linter.unusedVariables false
set_option linter.unusedSimpArgs false
def table_Norm.f (k : Nat) (l0 : List (S49)) : Option ((List (S49)) × Int) := (table_Check.f k l0).bind fun t221 => (if t221 = 0 then ((table_sub.f k l0 0).bind fun t222 => (some (t222, 0))) else (some (([] : List (S49)), t221)))
theorem table_Norm.mono : ∀ a0 k, LeO (table_Norm.f k a0) (table_Norm.f (k + 1) a0) := by
 intro a0 k
 unfold table_Norm.f
 repeat' first
   | (with_reducible exact table_Check.mono _ _)
   | (with_reducible exact table_sub.mono _ _ _)
   | (with_reducible exact LeO.refl _)
   | (with_reducible exact LeO.none _)
   | (with_reducible refine LeO.ite ?_ ?_)
   | (with_reducible refine LeO.bind ?_ (fun _ => ?_))
   | exact table_Check.mono _ _
   | exact table_sub.mono _ _ _
   | exact LeO.none _
   | refine LeO.ite ?_ ?_
   | refine LeO.bind ?_ (fun _ => ?_)
set_option maxHeartbeats 8000000 in
set_option maxRecDepth 100000 in
theorem table_Norm.calls (k : Nat) (A0 : Option Addr) (c0 : Nat) (l0 : List (S49)) (r1 : List (S49)) (r2 : Int) (w : World) (hr0 : Kd.C k49 w A0 l0.length l0) (hc0 : l0.length ≤ c0) (h : table_Norm.f k l0 = some (r1, r2)) :
  Calls Try.prog 52 #[.slice A0 l0.length c0] w fun e w' => ∃ v0_ : Value, e = .returned (.tuple #[v0_, .int .i64 r2]) ∧ Kd.R k49 49 w' w.heap.size (fun _ => True) v0_ r1 ∧ Below w.heap.size w w' := by
 have HR0 := asd hr0
 have HC0 := asd hc0
 clear hr0 hc0
 have HB := asd (Below.refl w.heap.size w)
 have H : ((table_Check.f k l0).bind fun t221 => (if t221 = 0 then ((table_sub.f k l0 0).bind fun t222 => (some (t222, 0))) else (some (([] : List (S49)), t221)))) = some (r1, r2) := h
 clear h
 replace H := Option.bind_eq_some_iff.mp H
 obtain ⟨t221, A20, H⟩ := H
 replace H : (if t221 = 0 then ((table_sub.f k l0 0).bind fun t222 => (some (t222, 0))) else (some (([] : List (S49)), t221))) = some (r1, r2) := H
 have A2 := asd A20
 clear A20
 by_cases c3 : t221 = 0
 ·
  rw [if_pos c3] at H
  have c3b0 : (t221 == 0) = true := beq_iff_eq.mpr c3
  have c3b1 : (t221 != 0) = false := bne_eq_false_iff_eq.mpr c3
  clear c3
  replace H := Option.bind_eq_some_iff.mp H
  obtain ⟨t222, A40, H⟩ := H
  replace H : (some (t222, 0)) = some (r1, r2) := H
  have A4 := asd A40
  clear A40
  simp only [Option.some.injEq, Prod.mk.injEq] at H
  obtain ⟨rfl, rfl⟩ := H
  go_enter Try.func52, Try.ntmps52
  go_wp2_with (first | ((with_reducible refine gate_callee (f := 60) rfl ?_); refine goesL_ (some 6) rfl rfl Try.func60 (by kernel_rfl) rfl #[.slice A0 l0.length c0] rfl ags ?_; (with_reducible refine (table_Check.calls k _ _ l0 t221 _ ?side1 ?side2 A2.out).mono ?_); (case side1 => exact skC HR0.out); (case side2 => exact HC0.out); rintro e w5 ⟨rfl, hb⟩; refine ⟨_, rfl, ?_⟩; have n0_ := asd (below_step (skB HB.out) hb); clear HB; have HB := n0_; clear n0_; (try clear hb); (try clear hb2); (try clear hk); (try clear hi)) | ((with_reducible refine gate_callee (f := 64) rfl ?_); refine goesL_ (some 11) rfl rfl Try.func64 (by kernel_rfl) rfl #[.slice A0 l0.length c0, .int .i64 0] rfl ags ?_; (with_reducible refine (table_sub.calls k _ _ l0 0 t222 _ ?side1 ?side2 A4.out).mono ?_); (case side1 => exact skC (Kd.C_below HR0.out HB.out)); (case side2 => exact HC0.out); rintro e w6 ⟨v223, rfl, ho0, hb⟩; refine ⟨_, rfl, ?_⟩; have n0_ := asd (Kd.R_lower ho0 (below_size (skB HB.out))); have n1_ := asd (below_step (skB HB.out) hb); clear HB; have HO224 := n0_; have HB := n1_; clear n0_ n1_; (try clear hb); (try clear hb2); (try clear hk); (try clear hi); (try clear ho0)))
  go_ret2
  exact ⟨_, re, skR HO224.out, skB HB.out⟩
 ·
  rw [if_neg c3] at H
  have c3b0 : (t221 == 0) = false := beq_eq_false_iff_ne.mpr c3
  have c3b1 : (t221 != 0) = true := bne_iff_ne.mpr c3
  simp only [Option.some.injEq, Prod.mk.injEq] at H
  obtain ⟨rfl, rfl⟩ := H
  go_enter Try.func52, Try.ntmps52
  go_wp2_with (first | ((with_reducible refine gate_callee (f := 60) rfl ?_); refine goesL_ (some 6) rfl rfl Try.func60 (by kernel_rfl) rfl #[.slice A0 l0.length c0] rfl ags ?_; (with_reducible refine (table_Check.calls k _ _ l0 t221 _ ?side1 ?side2 A2.out).mono ?_); (case side1 => exact skC HR0.out); (case side2 => exact HC0.out); rintro e w7 ⟨rfl, hb⟩; refine ⟨_, rfl, ?_⟩; have n0_ := asd (below_step (skB HB.out) hb); clear HB; have HB := n0_; clear n0_; (try clear hb); (try clear hb2); (try clear hk); (try clear hi)))
  go_ret2
  exact ⟨_, re, by first | exact Kd.R_nil _ _ _ _ _ | exact Kd.N_nil _ _ _ _ _ | exact Kd.V_nil _ _ _ _ _ | exact Kd.Q_nil _ _ _ _ _ | exact Kd.S_nil _ _ _ _ _, skB HB.out⟩
end Go.Proofs.Ytmmjkebboonnkaa.P
/- F24 -/
namespace Go.Proofs.Ytmmjkebboonnkaa.P
open Go.RowKit Go.Proofs.YtmmjkebboonnkaaW.PrintWords Go.Proofs.YtmmjkebboonnkaaW.PrintLast Go.Proofs.YtmmjkebboonnkaaW.PrintMore
attribute [local go_sem] max2_int min2_int max_two min_two max_three min_three max_four min_four   -- for this text's walks alone
set_option linter.unusedVariables false
set_option linter.unusedSimpArgs false
def weigh_Bound.f (a0 : Int) : Option (Int × Int) := if a0 < 0 then (some (0, 1)) else ((bits_Len64.f (IntKind.u64.wrap ((IntKind.u64.wrap (a0)) + 1))).bind fun t245 => (some (wrap64 ((wrap64 (2 * t245)) + 4), 0)))
set_option maxHeartbeats 8000000 in
set_option maxRecDepth 100000 in
theorem weigh_Bound.calls (a0 : Int) (r1 : Int) (r2 : Int) (w : World) (h : weigh_Bound.f a0 = some (r1, r2)) :
  Calls Try.prog 40 #[.int .i64 a0] w fun e w' => e = .returned (.tuple #[.int .i64 r1, .int .i64 r2]) ∧ Drawn0 w w' := by
 have H : (if a0 < 0 then (some (0, 1)) else ((bits_Len64.f (IntKind.u64.wrap ((IntKind.u64.wrap (a0)) + 1))).bind fun t245 => (some (wrap64 ((wrap64 (2 * t245)) + 4), 0)))) = some (r1, r2) := h
 clear h
 by_cases c2 : a0 < 0
 ·
  rw [if_pos c2] at H
  have c2b0 : decide (a0 < 0) = true := decide_eq_true c2
  clear c2
  simp only [Option.some.injEq, Prod.mk.injEq] at H
  obtain ⟨rfl, rfl⟩ := H
  go_enter Try.func40, Try.ntmps40
  go_wp2
  go_ret2
  exact ⟨by first | rfl | (simp; done) | (simp [*]; done), by repeat (first | exact Drawn0.refl _ | apply Drawn0.step)⟩
 ·
  rw [if_neg c2] at H
  have c2b0 : decide (a0 < 0) = false := decide_eq_false c2
  clear c2
  replace H := Option.bind_eq_some_iff.mp H
  obtain ⟨t245, A30, H⟩ := H
  replace H : (some (wrap64 ((wrap64 (2 * t245)) + 4), 0)) = some (r1, r2) := H
  have A3 := asd A30
  clear A30
  simp only [Option.some.injEq, Prod.mk.injEq] at H
  obtain ⟨rfl, rfl⟩ := H
  go_enter Try.func40, Try.ntmps40
  go_wp2_with (first | ((with_reducible refine gate_callee (f := 58) rfl ?_); refine goesL_ (some 9) rfl rfl Try.func58 (by kernel_rfl) rfl #[.int .u64 (IntKind.u64.wrap ((IntKind.u64.wrap (a0)) + 1))] rfl ags ?_; (with_reducible refine (bits_Len64.calls (IntKind.u64.wrap ((IntKind.u64.wrap (a0)) + 1)) t245 _ A3.out).mono ?_); rintro e w' ⟨rfl, ⟨nd, rfl⟩⟩; refine ⟨_, rfl, ?_⟩))
  go_ret2
  exact ⟨by first | rfl | (simp; done) | (simp [*]; done), by repeat (first | exact Drawn0.refl _ | apply Drawn0.step)⟩
end Go.Proofs.Ytmmjkebboonnkaa.P
/- F17 -/
namespace Go.Proofs.Ytmmjkebboonnkaa.P
open Go.RowKit Go.Proofs.YtmmjkebboonnkaaW.PrintWords Go.Proofs.YtmmjkebboonnkaaW.PrintLast Go.Proofs.YtmmjkebboonnkaaW.PrintMore
attribute [local go_sem] max2_int min2_int max_two min_two max_three min_three max_four min_four   -- for this text's walks alone
set_option linter.unusedVariables false
set_option linter.unusedSimpArgs false
def table_Search.f (k : Nat) (l0 : List (S49)) (a1 : Int) : Option (List Int × Int) := (table_Check.f k l0).bind fun t217 => (if t217 = 0 then ((table_path.f k l0 a1).bind fun t218 => (some (t218, 0))) else (some (([] : List Int), t217)))
theorem table_Search.mono : ∀ a0 a1 k, LeO (table_Search.f k a0 a1) (table_Search.f (k + 1) a0 a1) := by
 intro a0 a1 k
 unfold table_Search.f
 repeat' first
   | (with_reducible exact table_Check.mono _ _)
   | (with_reducible exact table_path.mono _ _ _)
   | (with_reducible exact LeO.refl _)
   | (with_reducible exact LeO.none _)
   | (with_reducible refine LeO.ite ?_ ?_)
   | (with_reducible refine LeO.bind ?_ (fun _ => ?_))
   | exact table_Check.mono _ _
   | exact table_path.mono _ _ _
   | exact LeO.none _
   | refine LeO.ite ?_ ?_
   | refine LeO.bind ?_ (fun _ => ?_)
set_option maxHeartbeats 8000000 in
set_option maxRecDepth 100000 in
theorem table_Search.calls (k : Nat) (A0 : Option Addr) (c0 : Nat) (l0 : List (S49)) (a1 : Int) (r1 : List Int) (r2 : Int) (w : World) (hr0 : Kd.C k49 w A0 l0.length l0) (hc0 : l0.length ≤ c0) (h : table_Search.f k l0 a1 = some (r1, r2)) :
  Calls Try.prog 49 #[.slice A0 l0.length c0, .int .i64 a1] w fun e w' => ∃ v0_ : Value, e = .returned (.tuple #[v0_, .int .i64 r2]) ∧ Kd.R (Kd.int .i64) 3 w' w.heap.size (fun _ => True) v0_ r1 ∧ Below w.heap.size w w' := by
 have HR0 := asd hr0
 have HC0 := asd hc0
 clear hr0 hc0
 have HB := asd (Below.refl w.heap.size w)
 have H : ((table_Check.f k l0).bind fun t217 => (if t217 = 0 then ((table_path.f k l0 a1).bind fun t218 => (some (t218, 0))) else (some (([] : List Int), t217)))) = some (r1, r2) := h
 clear h
 replace H := Option.bind_eq_some_iff.mp H
 obtain ⟨t217, A30, H⟩ := H
 replace H : (if t217 = 0 then ((table_path.f k l0 a1).bind fun t218 => (some (t218, 0))) else (some (([] : List Int), t217))) = some (r1, r2) := H
 have A3 := asd A30
 clear A30
 by_cases c4 : t217 = 0
 ·
  rw [if_pos c4] at H
  have c4b0 : (t217 == 0) = true := beq_iff_eq.mpr c4
  have c4b1 : (t217 != 0) = false := bne_eq_false_iff_eq.mpr c4
  clear c4
  replace H := Option.bind_eq_some_iff.mp H
  obtain ⟨t218, A50, H⟩ := H
  replace H : (some (t218, 0)) = some (r1, r2) := H
  have A5 := asd A50
  clear A50
  simp only [Option.some.injEq, Prod.mk.injEq] at H
  obtain ⟨rfl, rfl⟩ := H
  go_enter Try.func49, Try.ntmps49
  go_wp2_with (first | ((with_reducible refine gate_callee (f := 60) rfl ?_); refine goesL_ (some 8) rfl rfl Try.func60 (by kernel_rfl) rfl #[.slice A0 l0.length c0] rfl ags ?_; (with_reducible refine (table_Check.calls k _ _ l0 t217 _ ?side1 ?side2 A3.out).mono ?_); (case side1 => exact skC HR0.out); (case side2 => exact HC0.out); rintro e w6 ⟨rfl, hb⟩; refine ⟨_, rfl, ?_⟩; have n0_ := asd (below_step (skB HB.out) hb); clear HB; have HB := n0_; clear n0_; (try clear hb); (try clear hb2); (try clear hk); (try clear hi)) | ((with_reducible refine gate_callee (f := 61) rfl ?_); refine goesL_ (some 14) rfl rfl Try.func61 (by kernel_rfl) rfl #[.slice A0 l0.length c0, .int .i64 a1] rfl ags ?_; (with_reducible refine (table_path.calls k _ _ l0 a1 t218 _ ?side1 ?side2 A5.out).mono ?_); (case side1 => exact skC (Kd.C_below HR0.out HB.out)); (case side2 => exact HC0.out); rintro e w7 ⟨v219, rfl, ho0, hb⟩; refine ⟨_, rfl, ?_⟩; have n0_ := asd (Kd.R_lower ho0 (below_size (skB HB.out))); have n1_ := asd (below_step (skB HB.out) hb); clear HB; have HO220 := n0_; have HB := n1_; clear n0_ n1_; (try clear hb); (try clear hb2); (try clear hk); (try clear hi); (try clear ho0)))
  go_ret2
  exact ⟨_, re, skR HO220.out, skB HB.out⟩
 ·
  rw [if_neg c4] at H
  have c4b0 : (t217 == 0) = false := beq_eq_false_iff_ne.mpr c4
  have c4b1 : (t217 != 0) = true := bne_iff_ne.mpr c4
  simp only [Option.some.injEq, Prod.mk.injEq] at H
  obtain ⟨rfl, rfl⟩ := H
  go_enter Try.func49, Try.ntmps49
  go_wp2_with (first | ((with_reducible refine gate_callee (f := 60) rfl ?_); refine goesL_ (some 8) rfl rfl Try.func60 (by kernel_rfl) rfl #[.slice A0 l0.length c0] rfl ags ?_; (with_reducible refine (table_Check.calls k _ _ l0 t217 _ ?side1 ?side2 A3.out).mono ?_); (case side1 => exact skC HR0.out); (case side2 => exact HC0.out); rintro e w8 ⟨rfl, hb⟩; refine ⟨_, rfl, ?_⟩; have n0_ := asd (below_step (skB HB.out) hb); clear HB; have HB := n0_; clear n0_; (try clear hb); (try clear hb2); (try clear hk); (try clear hi)))
  go_ret2
  exact ⟨_, re, by first | exact Kd.R_nil _ _ _ _ _ | exact Kd.N_nil _ _ _ _ _ | exact Kd.V_nil _ _ _ _ _ | exact Kd.Q_nil _ _ _ _ _ | exact Kd.S_nil _ _ _ _ _, skB HB.out⟩
end Go.Proofs.Ytmmjkebboonnkaa.P
/- F46 -/
namespace Go.Proofs.Ytmmjkebboonnkaa.P
open Go.RowKit Go.Proofs.YtmmjkebboonnkaaW.PrintWords Go.Proofs.YtmmjkebboonnkaaW.PrintLast Go.Proofs.YtmmjkebboonnkaaW.PrintMore
attribute [local go_sem] max2_int min2_int max_two min_two max_three min_three max_four min_four   -- for this text's walks alone
set_option linter.unusedVariables false
set_option linter.unusedSimpArgs false
end Go.Proofs.Ytmmjkebboonnkaa.P
/- F47 -/
namespace Go.Proofs.Ytmmjkebboonnkaa.P
open Go.RowKit Go.Proofs.YtmmjkebboonnkaaW.PrintWords Go.Proofs.YtmmjkebboonnkaaW.PrintLast Go.Proofs.YtmmjkebboonnkaaW.PrintMore
attribute [local go_sem] max2_int min2_int max_two min_two max_three min_three max_four min_four   -- for this text's walks alone
set_option linter.unusedVariables false
set_option linter.unusedSimpArgs false
end Go.Proofs.Ytmmjkebboonnkaa.P
/- F54 -/
namespace Go.Proofs.Ytmmjkebboonnkaa.P
open Go.RowKit Go.Proofs.YtmmjkebboonnkaaW.PrintWords Go.Proofs.YtmmjkebboonnkaaW.PrintLast Go.Proofs.YtmmjkebboonnkaaW.PrintMore
attribute [local go_sem] max2_int min2_int max_two min_two max_three min_three max_four min_four   -- for this text's walks alone
set_option linter.unusedVariables false
set_option linter.unusedSimpArgs false
def table_Height.l0 : Nat → List (S49) → List Int → Int → List Int → Int → Int → Option (Int × Int)
 | 0, _, _, _, _, _, _ => none
 | k + 1, x0, x5, x6, x18, x19, x20 => if x20 < x19 then (if 0 ≤ x20 then (if x20 < (x18.length : Int) then (if 0 ≤ (rd x18 x20) then (if (rd x18 x20) < (x5.length : Int) then (if (rd x18 x20) < (x0.length : Int) then ((table_isLeaf.f ((J49 x0 (rd x18 x20)).f0) ((J49 x0 (rd x18 x20)).f1) ((J49 x0 (rd x18 x20)).f2) ((J49 x0 (rd x18 x20)).f3) ((J49 x0 (rd x18 x20)).f4) ((J49 x0 (rd x18 x20)).f5)).bind fun t659 => (if t659 = true then (table_Height.l0 k x0 x5 (mx x6 (rd x5 (rd x18 x20))) x18 x19 (wrap64 (x20 + 1))) else (if 0 ≤ ((J49 x0 (rd x18 x20)).f4) then (if ((J49 x0 (rd x18 x20)).f4) < (x5.length : Int) then (if 0 ≤ ((J49 x0 (rd x18 x20)).f5) then (if ((J49 x0 (rd x18 x20)).f5) < (x5.length : Int) then (table_Height.l0 k x0 ((x5.set (((J49 x0 (rd x18 x20)).f4) : Int).toNat (wrap64 ((rd x5 (rd x18 x20)) + 1))).set (((J49 x0 (rd x18 x20)).f5) : Int).toNat (wrap64 ((rd x5 (rd x18 x20)) + 1))) (mx x6 (rd x5 (rd x18 x20))) x18 x19 (wrap64 (x20 + 1))) else (none)) else (none)) else (none)) else (none)))) else (none)) else (none)) else (none)) else (none)) else (none)) else (some (x6, 0))
def table_Height.f (k : Nat) (l0 : List (S49)) : Option (Int × Int) := (table_Check.f k l0).bind fun t649 => (if t649 = 0 then (if 0 ≤ (l0.length : Int) then (if ((l0.length : Int) : Int).toNat ≤ 35184372088832 then ((table_order.f k l0 0).bind fun t653 => (table_Height.l0 k l0 (List.replicate ((l0.length : Int) : Int).toNat 0) 0 t653 (t653.length : Int) 0)) else (none)) else (none)) else (some (0, t649)))
def table_Height.T11 : Bool × List (List Nat × List Nat) := (true, [([], []), ([], []), ([], []), ([1, 2], [1, 2]), ([3], [3]), ([4], [4]), ([], []), ([], []), ([], []), ([7, 8], [7, 8]), ([9], [9]), ([10], [10]), ([], []), ([], []), ([12, 13], [12, 13]), ([14], [14]), ([15], [15]), ([], []), ([], []), ([17, 18], [17, 18]), ([19], [19]), ([20], [20]), ([0, 5, 0, 1, 2, 3, 4, 5, 11, 12, 13, 14, 15, 16, 20], [0, 5]), ([22, 16, 0, 1, 2, 3, 4, 5, 11, 12, 13, 14, 15, 16, 20], [16, 22]), ([6, 11, 0, 1, 2, 3, 4, 5, 6, 7, 8, 9, 10, 11, 12, 13, 14, 15, 16, 17, 18, 19, 20, 21, 22, 23], [6, 11]), ([24, 21, 23, 0, 1, 2, 3, 4, 5, 6, 7, 8, 9, 10, 11, 12, 13, 14, 15, 16, 17, 18, 19, 20, 21, 22, 23], [21, 24])])
def table_Height.B11 : List Nat := [0, 0, 0, 6, 14, 30, 0, 0, 0, 384, 896, 1920, 0, 0, 12288, 28672, 61440, 0, 0, 393216, 917504, 1966080, 2097087, 6291391, 16777215, 33554431]
theorem table_Height.tab11 : rtab .any (opsOf Try.f57 11) = table_Height.T11 := by kernel_rfl
theorem table_Height.bits11 : waitsOk table_Height.T11.2 table_Height.B11 = true := by kernel_rfl
set_option maxHeartbeats 8000000 in
set_option maxRecDepth 100000 in
theorem table_Height.calls (k : Nat) (A0 : Option Addr) (c0 : Nat) (l0 : List (S49)) (r1 : Int) (r2 : Int) (w : World) (hr0 : Kd.C k49 w A0 l0.length l0) (hc0 : l0.length ≤ c0) (h : table_Height.f k l0 = some (r1, r2)) :
  Calls Try.prog 57 #[.slice A0 l0.length c0] w fun e w' => e = .returned (.tuple #[.int .i64 r1, .int .i64 r2]) ∧ Below w.heap.size w w' := by
 have hu49 := Try.underlying49
 have HR0 := asd hr0
 have HC0 := asd hc0
 clear hr0 hc0
 have HB := asd (Below.refl w.heap.size w)
 have H : ((table_Check.f k l0).bind fun t649 => (if t649 = 0 then (if 0 ≤ (l0.length : Int) then (if ((l0.length : Int) : Int).toNat ≤ 35184372088832 then ((table_order.f k l0 0).bind fun t653 => (table_Height.l0 k l0 (List.replicate ((l0.length : Int) : Int).toNat 0) 0 t653 (t653.length : Int) 0)) else (none)) else (none)) else (some (0, t649)))) = some (r1, r2) := h
 clear h
 replace H := Option.bind_eq_some_iff.mp H
 obtain ⟨t649, A20, H⟩ := H
 replace H : (if t649 = 0 then (if 0 ≤ (l0.length : Int) then (if ((l0.length : Int) : Int).toNat ≤ 35184372088832 then ((table_order.f k l0 0).bind fun t653 => (table_Height.l0 k l0 (List.replicate ((l0.length : Int) : Int).toNat 0) 0 t653 (t653.length : Int) 0)) else (none)) else (none)) else (some (0, t649))) = some (r1, r2) := H
 have A2 := asd A20
 clear A20
 by_cases c3 : t649 = 0
 ·
  rw [if_pos c3] at H
  have c3b0 : (t649 == 0) = true := beq_iff_eq.mpr c3
  have c3b1 : (t649 != 0) = false := bne_eq_false_iff_eq.mpr c3
  clear c3
  by_cases c4 : 0 ≤ (l0.length : Int)
  ·
   rw [if_pos c4] at H
   have c4b0 := eq_true c4
   have c4b1 : decide (0 ≤ (l0.length : Int)) = true := decide_eq_true c4
   clear c4
   by_cases c5 : ((l0.length : Int) : Int).toNat ≤ 35184372088832
   ·
    rw [if_pos c5] at H
    have c5b0 := eq_true c5
    have c5b1 : decide (((l0.length : Int) : Int).toNat ≤ 35184372088832) = true := decide_eq_true c5
    clear c5
    obtain ⟨y650, hy650⟩ : ∃ y_ : List Int, y_ = (List.replicate ((l0.length : Int) : Int).toNat 0) := ⟨_, rfl⟩
    replace H : ((table_order.f k l0 0).bind fun t653 => (table_Height.l0 k l0 y650 0 t653 (t653.length : Int) 0)) = some (r1, r2) := by first | (rw [hy650]; with_reducible exact H) | (have H2_ := (Option.bind_some _ _).symm.trans H; rw [hy650]; with_reducible exact H2_) | (have H2_ := (Option.bind_some _ _).symm.trans H; with_reducible exact H2_) | with_reducible exact H | (rw [hy650]; exact H) | exact H
    have Ny650 := asd hy650
    clear hy650
    replace H := Option.bind_eq_some_iff.mp H
    obtain ⟨t653, A60, H⟩ := H
    replace H : (table_Height.l0 k l0 y650 0 t653 (t653.length : Int) 0) = some (r1, r2) := H
    have A6 := asd A60
    clear A60
    have H' := asd H
    clear H
    go_enter Try.func57, Try.ntmps57
    go_wp2_with (first | ((with_reducible refine gate_callee (f := 60) rfl ?_); refine goesL_ (some 10) rfl rfl Try.func60 (by kernel_rfl) rfl #[.slice A0 l0.length c0] rfl ags ?_; (with_reducible refine (table_Check.calls k _ _ l0 t649 _ ?side1 ?side2 A2.out).mono ?_); (case side1 => exact skC HR0.out); (case side2 => exact HC0.out); rintro e w7 ⟨rfl, hb⟩; refine ⟨_, rfl, ?_⟩; have n0_ := asd (below_step (skB HB.out) hb); clear HB; have HB := n0_; clear n0_; (try clear hb); (try clear hb2); (try clear hk); (try clear hi)) | ((with_reducible refine gate_dst (N := 16) rfl ?_); refine Kd.R_make (Kd.int .i64) _ 3 rfl (N := 16) rfl 23 _ _ rfl (l0.length : Int) rfl rfl Try.underlying23 (.int .i64 0) 8 info3 rfl (by decide) (by omega) 0 (ok := fun _ => True) (okp := fun _ => True) rfl (fun _ hk => hk) trivial dt (Nat.le_trans (Nat.mul_le_mul_right _ (dt : (l0.length : Int).toNat ≤ 35184372088832)) (by omega)) (Below.refl _ _) (Nat.le_refl _) ?_; intro v651 w8 ho9 hb hg_ hnew_; clear hg_ hnew_; (first | rw [← Ny650.out] at ho9 | (simp only [Int.reduceToNat] at ho9; rw [← Ny650.out] at ho9)); have n0_ := asd (Kd.R_lower ho9 (below_size (skB HB.out))); have n1_ := asd (below_step (skB HB.out) hb); clear HB; have HO652 := n0_; have HB := n1_; clear n0_ n1_; clear hb ho9) | ((with_reducible refine gate_callee (f := 65) rfl ?_); refine goesL_ (some 18) rfl rfl Try.func65 (by kernel_rfl) rfl #[.slice A0 l0.length c0, .int .i64 0] rfl ags ?_; (with_reducible refine (table_order.calls k _ _ l0 0 t653 _ ?side1 ?side2 A6.out).mono ?_); (case side1 => exact skC (Kd.C_below HR0.out HB.out)); (case side2 => exact HC0.out); rintro e w10 ⟨v654, rfl, ho0, hb⟩; refine ⟨_, rfl, ?_⟩; have n0_ := asd (Kd.R_elder' (skR HO652.out) (Kd.R_base ho0) hb); have n1_ := asd (Kd.R_lower (Kd.R_new' ho0 (Kd.R_lt (skR HO652.out))) (below_size (skB HB.out))); have n2_ := asd (below_step (skB HB.out) hb); clear HO652; clear HB; have HO652 := n0_; have HO655 := n1_; have HB := n2_; clear n0_ n1_ n2_; (try clear hb); (try clear hb2); (try clear hk); (try clear hi); (try clear ho0); obtain ⟨Ao11, co11, eo11⟩ := Kd.R_slice HO655.out; subst eo11))
    go_loopg [6, 20] k (fun kq v6 v20 w' => ∃ (x5_1 : List Int) (x6_1 : Int) (x20_1 : Int), v6 = .int .i64 x6_1 ∧ v20 = .int .i64 x20_1 ∧ Aside0 (table_Height.l0 kq l0 x5_1 x6_1 t653 (t653.length : Int) x20_1 = some (r1, r2)) ∧ Aside0 (kq ≤ k) ∧ Aside0 (Kd.R (Kd.int .i64) 3 w' w.heap.size (fun k_ => some k_ ≠ ((.slice Ao11 t653.length co11) : Value).ownBlock) v651 x5_1) ∧ Aside0 (Kd.R (Kd.int .i64) 3 w' w.heap.size (fun k_ => some k_ ≠ (v651 : Value).ownBlock) (.slice Ao11 t653.length co11) t653) ∧ Aside0 (Below w.heap.size w w'))
    case atStart => exact ⟨(y650), (0), (0), rs, rs, H', ⟨Nat.le_refl _⟩, ⟨skR (Kd.R_mono HO652.out (fun _ hk => hk.2))⟩, ⟨skR (Kd.R_mono HO655.out (fun _ hk => hk.2))⟩, ⟨skB HB.out⟩⟩
    case round =>
     clear H'
     try clear p2
     try clear c3
     try clear c3b0
     try clear c3b1
     try clear c4
     try clear c4b0
     try clear c4b1
     try clear c5
     try clear c5b0
     try clear c5b1
     try clear c6
     obtain ⟨x5_1, x6_1, x20_1, rfl, rfl, HA, HK1, HO_5, HO_18, HB⟩ := hrel
     cases gk with
     | zero => exact absurd HA.out (by simp [table_Height.l0])
     | succ k1 =>
      have H := HA.out
      clear HA
      simp only [table_Height.l0] at H
      by_cases c12 : x20_1 < (t653.length : Int)
      ·
       rw [if_pos c12] at H
       have c12b0 : decide (x20_1 < (t653.length : Int)) = true := decide_eq_true c12
       clear c12
       by_cases c13 : 0 ≤ x20_1
       ·
        rw [if_pos c13] at H
        have c13b0 : decide (0 ≤ x20_1) = true := decide_eq_true c13
        clear c13
        by_cases c14 : x20_1 < (t653.length : Int)
        ·
         rw [if_pos c14] at H
         have c14b0 : decide (x20_1 < (t653.length : Int)) = true := decide_eq_true c14
         clear c14
         by_cases c15 : 0 ≤ (rd t653 x20_1)
         ·
          rw [if_pos c15] at H
          have c15b0 : decide (0 ≤ (rd t653 x20_1)) = true := decide_eq_true c15
          clear c15
          by_cases c16 : (rd t653 x20_1) < (x5_1.length : Int)
          ·
           rw [if_pos c16] at H
           have c16b0 : decide ((rd t653 x20_1) < (x5_1.length : Int)) = true := decide_eq_true c16
           clear c16
           obtain ⟨ji17, hji17⟩ : ∃ j_ : Int, (mx x6_1 (rd x5_1 (rd t653 x20_1))) = j_ := ⟨_, rfl⟩
           replace H : (if (rd t653 x20_1) < (l0.length : Int) then ((table_isLeaf.f ((J49 l0 (rd t653 x20_1)).f0) ((J49 l0 (rd t653 x20_1)).f1) ((J49 l0 (rd t653 x20_1)).f2) ((J49 l0 (rd t653 x20_1)).f3) ((J49 l0 (rd t653 x20_1)).f4) ((J49 l0 (rd t653 x20_1)).f5)).bind fun t659 => (if t659 = true then (table_Height.l0 k1 l0 x5_1 ji17 t653 (t653.length : Int) (wrap64 (x20_1 + 1))) else (if 0 ≤ ((J49 l0 (rd t653 x20_1)).f4) then (if ((J49 l0 (rd t653 x20_1)).f4) < (x5_1.length : Int) then (if 0 ≤ ((J49 l0 (rd t653 x20_1)).f5) then (if ((J49 l0 (rd t653 x20_1)).f5) < (x5_1.length : Int) then (table_Height.l0 k1 l0 ((x5_1.set (((J49 l0 (rd t653 x20_1)).f4) : Int).toNat (wrap64 ((rd x5_1 (rd t653 x20_1)) + 1))).set (((J49 l0 (rd t653 x20_1)).f5) : Int).toNat (wrap64 ((rd x5_1 (rd t653 x20_1)) + 1))) ji17 t653 (t653.length : Int) (wrap64 (x20_1 + 1))) else (none)) else (none)) else (none)) else (none)))) else (none)) = some (r1, r2) := by first | (rw [hji17] at H; exact H) | (simp only [hji17] at H ⊢; exact H)
           have hji17_ : (if x6_1 < (rd x5_1 (rd t653 x20_1)) then (rd x5_1 (rd t653 x20_1)) else x6_1) = ji17 := hji17
           by_cases c18 : (rd t653 x20_1) < (l0.length : Int)
           ·
            rw [if_pos c18] at H
            have c18b0 : decide ((rd t653 x20_1) < (l0.length : Int)) = true := decide_eq_true c18
            clear c18
            replace H := Option.bind_eq_some_iff.mp H
            obtain ⟨t659, A190, H⟩ := H
            replace H : (if t659 = true then (table_Height.l0 k1 l0 x5_1 ji17 t653 (t653.length : Int) (wrap64 (x20_1 + 1))) else (if 0 ≤ ((J49 l0 (rd t653 x20_1)).f4) then (if ((J49 l0 (rd t653 x20_1)).f4) < (x5_1.length : Int) then (if 0 ≤ ((J49 l0 (rd t653 x20_1)).f5) then (if ((J49 l0 (rd t653 x20_1)).f5) < (x5_1.length : Int) then (table_Height.l0 k1 l0 ((x5_1.set (((J49 l0 (rd t653 x20_1)).f4) : Int).toNat (wrap64 ((rd x5_1 (rd t653 x20_1)) + 1))).set (((J49 l0 (rd t653 x20_1)).f5) : Int).toNat (wrap64 ((rd x5_1 (rd t653 x20_1)) + 1))) ji17 t653 (t653.length : Int) (wrap64 (x20_1 + 1))) else (none)) else (none)) else (none)) else (none))) = some (r1, r2) := H
            have A19 := asd A190
            clear A190
            by_cases c20 : t659 = true
            ·
             subst c20
             have H1 : (table_Height.l0 k1 l0 x5_1 ji17 t653 (t653.length : Int) (wrap64 (x20_1 + 1))) = some (r1, r2) := by rw [if_pos rfl] at H; exact H
             clear H
             have H := H1
             clear H1
             have H' := asd H
             clear H
             have p656 : 0 ≤ (x20_1 : Int) := dt
             have q656 : x20_1 < (t653.length : Int) := dt
             obtain ⟨ad656, e656, hx656_0⟩ := Kd.at_int (Kd.R_reads' HO_18.out).2.2 x20_1 p656 q656
             cases e656
             replace p656 := eq_true p656
             replace q656 := eq_true q656
             obtain ⟨Ao21, co21, eo21⟩ := Kd.R_slice HO_5.out
             subst eo21
             have p657 : 0 ≤ ((rd t653 x20_1) : Int) := dt
             have q657 : (rd t653 x20_1) < (x5_1.length : Int) := dt
             obtain ⟨ad657, e657, hx657_0⟩ := Kd.at_int (Kd.R_reads' HO_5.out).2.2 (rd t653 x20_1) p657 q657
             cases e657
             replace p657 := eq_true p657
             replace q657 := eq_true q657
             have p658 : 0 ≤ ((rd t653 x20_1) : Int) := dt
             have q658 : (rd t653 x20_1) < (l0.length : Int) := dt
             obtain ⟨ad658, e658, hx658_0, hx658_1, hx658_2, hx658_3, hx658_4, hx658_5⟩ := at_T49 HR0.out (rd t653 x20_1) p658 q658
             cases e658
             replace hx658_0 := skc HB.out hx658_0
             replace hx658_1 := skc HB.out hx658_1
             replace hx658_2 := skc HB.out hx658_2
             replace hx658_3 := skc HB.out hx658_3
             replace hx658_4 := skc HB.out hx658_4
             replace hx658_5 := skc HB.out hx658_5
             replace p658 := eq_true p658
             replace q658 := eq_true q658
             go_wp2_with (first | ((with_reducible refine gate_callee (f := 66) rfl ?_); refine goesL_ (some 34) rfl rfl Try.func66 (by kernel_rfl) rfl #[.agg #[.int .i64 ((J49 l0 (rd t653 x20_1)).f0), .int .i64 ((J49 l0 (rd t653 x20_1)).f1), .int .i64 ((J49 l0 (rd t653 x20_1)).f2), .int .i64 ((J49 l0 (rd t653 x20_1)).f3), .int .i64 ((J49 l0 (rd t653 x20_1)).f4), .int .i64 ((J49 l0 (rd t653 x20_1)).f5)]] rfl ags ?_; (with_reducible refine (table_isLeaf.calls ((J49 l0 (rd t653 x20_1)).f0) ((J49 l0 (rd t653 x20_1)).f1) ((J49 l0 (rd t653 x20_1)).f2) ((J49 l0 (rd t653 x20_1)).f3) ((J49 l0 (rd t653 x20_1)).f4) ((J49 l0 (rd t653 x20_1)).f5) true _ A19.out).mono ?_); rintro e w22 ⟨rfl, hb⟩; refine ⟨_, rfl, ?_⟩; have n0_ := asd (Kd.R_below (skR HO_5.out) hb); have n1_ := asd (Kd.R_below (skR HO_18.out) hb); have n2_ := asd (below_step (skB HB.out) hb); clear HO_5; clear HO_18; clear HB; have HO_5 := n0_; have HO_18 := n1_; have HB := n2_; clear n0_ n1_ n2_; (try clear hb); (try clear hb2); (try clear hk); (try clear hi)))
             go_roundg k1
             case measure => have := HK1.out; omega
             case rel => exact ⟨(x5_1), (ji17), (wrap64 (x20_1 + 1)), (by first | rfl | (simp; done) | (simp only [← hji17] <;> (first | rfl | simp)) | (simp [*]; done)), rs, H', ⟨by have := HK1.out; omega⟩, ⟨skR HO_5.out⟩, ⟨skR HO_18.out⟩, ⟨skB HB.out⟩⟩
            ·
             replace c20 := Bool.eq_false_iff.mpr c20
             subst c20
             have H1 : (if 0 ≤ ((J49 l0 (rd t653 x20_1)).f4) then (if ((J49 l0 (rd t653 x20_1)).f4) < (x5_1.length : Int) then (if 0 ≤ ((J49 l0 (rd t653 x20_1)).f5) then (if ((J49 l0 (rd t653 x20_1)).f5) < (x5_1.length : Int) then (table_Height.l0 k1 l0 ((x5_1.set (((J49 l0 (rd t653 x20_1)).f4) : Int).toNat (wrap64 ((rd x5_1 (rd t653 x20_1)) + 1))).set (((J49 l0 (rd t653 x20_1)).f5) : Int).toNat (wrap64 ((rd x5_1 (rd t653 x20_1)) + 1))) ji17 t653 (t653.length : Int) (wrap64 (x20_1 + 1))) else (none)) else (none)) else (none)) else (none)) = some (r1, r2) := by rw [if_neg (show ¬ (false = true) by decide)] at H; exact H
             clear H
             have H := H1
             clear H1
             by_cases c23 : 0 ≤ ((J49 l0 (rd t653 x20_1)).f4)
             ·
              rw [if_pos c23] at H
              have c23b0 : decide (0 ≤ ((J49 l0 (rd t653 x20_1)).f4)) = true := decide_eq_true c23
              clear c23
              by_cases c24 : ((J49 l0 (rd t653 x20_1)).f4) < (x5_1.length : Int)
              ·
               rw [if_pos c24] at H
               have c24b0 : decide (((J49 l0 (rd t653 x20_1)).f4) < (x5_1.length : Int)) = true := decide_eq_true c24
               clear c24
               obtain ⟨y664, hy664⟩ : ∃ y_ : List Int, y_ = (x5_1.set (((J49 l0 (rd t653 x20_1)).f4) : Int).toNat (wrap64 ((rd x5_1 (rd t653 x20_1)) + 1))) := ⟨_, rfl⟩
               replace H : (if 0 ≤ ((J49 l0 (rd t653 x20_1)).f5) then (if ((J49 l0 (rd t653 x20_1)).f5) < (x5_1.length : Int) then (table_Height.l0 k1 l0 (y664.set (((J49 l0 (rd t653 x20_1)).f5) : Int).toNat (wrap64 ((rd x5_1 (rd t653 x20_1)) + 1))) ji17 t653 (t653.length : Int) (wrap64 (x20_1 + 1))) else (none)) else (none)) = some (r1, r2) := by first | (rw [hy664]; with_reducible exact H) | (have H2_ := (Option.bind_some _ _).symm.trans H; rw [hy664]; with_reducible exact H2_) | (have H2_ := (Option.bind_some _ _).symm.trans H; with_reducible exact H2_) | with_reducible exact H | (rw [hy664]; exact H) | exact H
               have Ny664 := asd hy664
               clear hy664
               by_cases c26 : 0 ≤ ((J49 l0 (rd t653 x20_1)).f5)
               ·
                rw [if_pos c26] at H
                have c26b0 : decide (0 ≤ ((J49 l0 (rd t653 x20_1)).f5)) = true := decide_eq_true c26
                clear c26
                by_cases c27 : ((J49 l0 (rd t653 x20_1)).f5) < (x5_1.length : Int)
                ·
                 rw [if_pos c27] at H
                 have c27b0 : decide (((J49 l0 (rd t653 x20_1)).f5) < (x5_1.length : Int)) = true := decide_eq_true c27
                 clear c27
                 obtain ⟨y665, hy665⟩ : ∃ y_ : List Int, y_ = (y664.set (((J49 l0 (rd t653 x20_1)).f5) : Int).toNat (wrap64 ((rd x5_1 (rd t653 x20_1)) + 1))) := ⟨_, rfl⟩
                 replace H : (table_Height.l0 k1 l0 y665 ji17 t653 (t653.length : Int) (wrap64 (x20_1 + 1))) = some (r1, r2) := by first | (rw [hy665]; with_reducible exact H) | (have H2_ := (Option.bind_some _ _).symm.trans H; rw [hy665]; with_reducible exact H2_) | (have H2_ := (Option.bind_some _ _).symm.trans H; with_reducible exact H2_) | with_reducible exact H | (rw [hy665]; exact H) | exact H
                 have Ny665 := asd hy665
                 clear hy665
                 have H' := asd H
                 clear H
                 have p656 : 0 ≤ (x20_1 : Int) := dt
                 have q656 : x20_1 < (t653.length : Int) := dt
                 obtain ⟨ad656, e656, hx656_0⟩ := Kd.at_int (Kd.R_reads' HO_18.out).2.2 x20_1 p656 q656
                 cases e656
                 replace p656 := eq_true p656
                 replace q656 := eq_true q656
                 obtain ⟨Ao29, co29, eo29⟩ := Kd.R_slice HO_5.out
                 subst eo29
                 have p657 : 0 ≤ ((rd t653 x20_1) : Int) := dt
                 have q657 : (rd t653 x20_1) < (x5_1.length : Int) := dt
                 obtain ⟨ad657, e657, hx657_0⟩ := Kd.at_int (Kd.R_reads' HO_5.out).2.2 (rd t653 x20_1) p657 q657
                 cases e657
                 replace p657 := eq_true p657
                 replace q657 := eq_true q657
                 have p658 : 0 ≤ ((rd t653 x20_1) : Int) := dt
                 have q658 : (rd t653 x20_1) < (l0.length : Int) := dt
                 obtain ⟨ad658, e658, hx658_0, hx658_1, hx658_2, hx658_3, hx658_4, hx658_5⟩ := at_T49 HR0.out (rd t653 x20_1) p658 q658
                 cases e658
                 replace hx658_0 := skc HB.out hx658_0
                 replace hx658_1 := skc HB.out hx658_1
                 replace hx658_2 := skc HB.out hx658_2
                 replace hx658_3 := skc HB.out hx658_3
                 replace hx658_4 := skc HB.out hx658_4
                 replace hx658_5 := skc HB.out hx658_5
                 replace p658 := eq_true p658
                 replace q658 := eq_true q658
                 try go_wp2_with (first | ((with_reducible refine gate_callee (f := 66) rfl ?_); refine goesL_ (some 34) rfl rfl Try.func66 (by kernel_rfl) rfl #[.agg #[.int .i64 ((J49 l0 (rd t653 x20_1)).f0), .int .i64 ((J49 l0 (rd t653 x20_1)).f1), .int .i64 ((J49 l0 (rd t653 x20_1)).f2), .int .i64 ((J49 l0 (rd t653 x20_1)).f3), .int .i64 ((J49 l0 (rd t653 x20_1)).f4), .int .i64 ((J49 l0 (rd t653 x20_1)).f5)]] rfl ags ?_; (with_reducible refine (table_isLeaf.calls ((J49 l0 (rd t653 x20_1)).f0) ((J49 l0 (rd t653 x20_1)).f1) ((J49 l0 (rd t653 x20_1)).f2) ((J49 l0 (rd t653 x20_1)).f3) ((J49 l0 (rd t653 x20_1)).f4) ((J49 l0 (rd t653 x20_1)).f5) false _ A19.out).mono ?_); rintro e w30 ⟨rfl, hb⟩; refine ⟨_, rfl, ?_⟩; have n0_ := asd (Kd.R_below (skR HO_5.out) hb); have n1_ := asd (Kd.R_below (skR HO_18.out) hb); have n2_ := asd (below_step (skB HB.out) hb); clear HO_5; clear HO_18; clear HB; have HO_5 := n0_; have HO_18 := n1_; have HB := n2_; clear n0_ n1_ n2_; (try clear hb); (try clear hb2); (try clear hk); (try clear hi)))
                 have n0_ := asd (Kd.R_drew HO_5.out)
                 have n1_ := asd (Kd.R_drew HO_18.out)
                 have n2_ := asd (below_drew1 HB.out)
                 clear HO_5
                 clear HO_18
                 clear HB
                 have HO_5 := n0_
                 have HO_18 := n1_
                 have HB := n2_
                 clear n0_ n1_ n2_
                 have p660 : 0 ≤ ((rd t653 x20_1) : Int) := dt
                 have q660 : (rd t653 x20_1) < (l0.length : Int) := dt
                 obtain ⟨ad660, e660, hx660_0, hx660_1, hx660_2, hx660_3, hx660_4, hx660_5⟩ := at_T49 HR0.out (rd t653 x20_1) p660 q660
                 have hw660_5 := hx660_5
                 have hw660_4 := hx660_4
                 have hw660_3 := hx660_3
                 have hw660_2 := hx660_2
                 have hw660_1 := hx660_1
                 have hw660_0 := hx660_0
                 obtain rfl : ad658 = ad660 := (by injection e660)
                 replace hx660_0 := skc HB.out hx660_0
                 replace hx660_1 := skc HB.out hx660_1
                 replace hx660_2 := skc HB.out hx660_2
                 replace hx660_3 := skc HB.out hx660_3
                 replace hx660_4 := skc HB.out hx660_4
                 replace hx660_5 := skc HB.out hx660_5
                 replace p660 := eq_true p660
                 replace q660 := eq_true q660
                 have p661 : 0 ≤ ((rd t653 x20_1) : Int) := dt
                 have q661 : (rd t653 x20_1) < (l0.length : Int) := dt
                 obtain ⟨ad661, e661, hx661_0, hx661_1, hx661_2, hx661_3, hx661_4, hx661_5⟩ := at_T49 HR0.out (rd t653 x20_1) p661 q661
                 have hw661_5 := hx661_5
                 have hw661_4 := hx661_4
                 have hw661_3 := hx661_3
                 have hw661_2 := hx661_2
                 have hw661_1 := hx661_1
                 have hw661_0 := hx661_0
                 obtain rfl : ad658 = ad661 := (by injection e661)
                 replace hx661_0 := skc HB.out hx661_0
                 replace hx661_1 := skc HB.out hx661_1
                 replace hx661_2 := skc HB.out hx661_2
                 replace hx661_3 := skc HB.out hx661_3
                 replace hx661_4 := skc HB.out hx661_4
                 replace hx661_5 := skc HB.out hx661_5
                 replace p661 := eq_true p661
                 replace q661 := eq_true q661
                 have p662 : 0 ≤ ((rd t653 x20_1) : Int) := dt
                 have q662 : (rd t653 x20_1) < (x5_1.length : Int) := dt
                 obtain ⟨ad662, e662, hx662_0⟩ := Kd.at_int (Kd.R_reads' HO_5.out).2.2 (rd t653 x20_1) p662 q662
                 obtain rfl : ad657 = ad662 := (by injection e662)
                 replace p662 := eq_true p662
                 replace q662 := eq_true q662
                 have p663 : 0 ≤ ((rd t653 x20_1) : Int) := dt
                 have q663 : (rd t653 x20_1) < (x5_1.length : Int) := dt
                 obtain ⟨ad663, e663, hx663_0⟩ := Kd.at_int (Kd.R_reads' HO_5.out).2.2 (rd t653 x20_1) p663 q663
                 obtain rfl : ad657 = ad663 := (by injection e663)
                 replace p663 := eq_true p663
                 replace q663 := eq_true q663
                 have p25 : 0 ≤ (((J49 l0 (rd t653 x20_1)).f4) : Int) := dt
                 have q25 : (((J49 l0 (rd t653 x20_1)).f4) : Int) < ((x5_1.length : Int) : Int) := dt
                 obtain ⟨go25, co25, eo25, gb25, gl25, cl25, HG25⟩ := Kd.R_form HO_5.out (by omega)
                 (first | cases eo25 | (injection eo25 with ea_ en_ ec_; (first | subst ea_ | (injection ea_ with ea_; subst ea_)); subst ec_; clear en_))
                 have GB25 := asd gb25
                 have GG25 := asd HG25
                 clear gb25 gl25 HG25
                 (first | simp only [add_plain] at hx657_0 | skip)
                 (first | simp only [add_plain] at hx662_0 | skip)
                 (first | simp only [add_plain] at hx663_0 | skip)
                 obtain ⟨hx25_0, hf25_0⟩ := Kd.R_celln 0 HO_5.out (((J49 l0 (rd t653 x20_1)).f4) : Int) p25 q25
                 replace p25 := eq_true p25
                 replace q25 := eq_true q25
                 have HP32 := Kd.R_putn HO_5.out (((J49 l0 (rd t653 x20_1)).f4) : Int) (wrap64 ((rd x5_1 (rd t653 x20_1)) + 1))
                 rw [← Ny664.out] at HP32
                 have HQ32 := asd HP32
                 clear HP32
                 have p28 : 0 ≤ (((J49 l0 (rd t653 x20_1)).f5) : Int) := dt
                 have q28 : (((J49 l0 (rd t653 x20_1)).f5) : Int) < ((x5_1.length : Int) : Int) := dt
                 obtain ⟨hx28_0, hf28_0⟩ := Kd.R_celln 0 HQ32.out (((J49 l0 (rd t653 x20_1)).f5) : Int) p28 q28
                 replace p28 := eq_true p28
                 replace q28 := eq_true q28
                 have HP33 := Kd.R_putn HQ32.out (((J49 l0 (rd t653 x20_1)).f5) : Int) (wrap64 ((rd x5_1 (rd t653 x20_1)) + 1))
                 rw [← Ny665.out] at HP33
                 have HQ33 := asd HP33
                 clear HP33
                 refine start_ (n := 26) (S := fun w' => w'.cell? (ad658.add (((rd t653 x20_1)).toNat * 6)) = some (.int .i64 ((J49 l0 (rd t653 x20_1)).f0)) ∧ w'.cell? ⟨(ad658.add (((rd t653 x20_1)).toNat * 6)).block, (ad658.add (((rd t653 x20_1)).toNat * 6)).off + 1, none⟩ = some (.int .i64 ((J49 l0 (rd t653 x20_1)).f1)) ∧ w'.cell? ⟨(ad658.add (((rd t653 x20_1)).toNat * 6)).block, (ad658.add (((rd t653 x20_1)).toNat * 6)).off + 2, none⟩ = some (.int .i64 ((J49 l0 (rd t653 x20_1)).f2)) ∧ w'.cell? ⟨(ad658.add (((rd t653 x20_1)).toNat * 6)).block, (ad658.add (((rd t653 x20_1)).toNat * 6)).off + 3, none⟩ = some (.int .i64 ((J49 l0 (rd t653 x20_1)).f3)) ∧ w'.cell? ⟨(ad658.add (((rd t653 x20_1)).toNat * 6)).block, (ad658.add (((rd t653 x20_1)).toNat * 6)).off + 4, none⟩ = some (.int .i64 ((J49 l0 (rd t653 x20_1)).f4)) ∧ w'.cell? ⟨(ad658.add (((rd t653 x20_1)).toNat * 6)).block, (ad658.add (((rd t653 x20_1)).toNat * 6)).off + 5, none⟩ = some (.int .i64 ((J49 l0 (rd t653 x20_1)).f5)) ∧ w'.cell? (ad658.add (((rd t653 x20_1)).toNat * 6)) = some (.int .i64 ((J49 l0 (rd t653 x20_1)).f0)) ∧ w'.cell? ⟨(ad658.add (((rd t653 x20_1)).toNat * 6)).block, (ad658.add (((rd t653 x20_1)).toNat * 6)).off + 1, none⟩ = some (.int .i64 ((J49 l0 (rd t653 x20_1)).f1)) ∧ w'.cell? ⟨(ad658.add (((rd t653 x20_1)).toNat * 6)).block, (ad658.add (((rd t653 x20_1)).toNat * 6)).off + 2, none⟩ = some (.int .i64 ((J49 l0 (rd t653 x20_1)).f2)) ∧ w'.cell? ⟨(ad658.add (((rd t653 x20_1)).toNat * 6)).block, (ad658.add (((rd t653 x20_1)).toNat * 6)).off + 3, none⟩ = some (.int .i64 ((J49 l0 (rd t653 x20_1)).f3)) ∧ w'.cell? ⟨(ad658.add (((rd t653 x20_1)).toNat * 6)).block, (ad658.add (((rd t653 x20_1)).toNat * 6)).off + 4, none⟩ = some (.int .i64 ((J49 l0 (rd t653 x20_1)).f4)) ∧ w'.cell? ⟨(ad658.add (((rd t653 x20_1)).toNat * 6)).block, (ad658.add (((rd t653 x20_1)).toNat * 6)).off + 5, none⟩ = some (.int .i64 ((J49 l0 (rd t653 x20_1)).f5)) ∧ w'.cell? ⟨go25, ((rd t653 x20_1)).toNat, none⟩ = some (.int .i64 (rd x5_1 (rd t653 x20_1))) ∧ w'.cell? ⟨go25, ((rd t653 x20_1)).toNat, none⟩ = some (.int .i64 (rd x5_1 (rd t653 x20_1)))) (ds := [23, 25]) #[false,false,false,false,false,false,false,false,false,false,false,false,false,false,false,false,false,false,false,false,false,false,false,false,false,false] (by kernel_rfl) rfl rfl ⟨(skc HB.out hw660_0), (skc HB.out hw660_1), (skc HB.out hw660_2), (skc HB.out hw660_3), (skc HB.out hw660_4), (skc HB.out hw660_5), (skc HB.out hw661_0), (skc HB.out hw661_1), (skc HB.out hw661_2), (skc HB.out hw661_3), (skc HB.out hw661_4), (skc HB.out hw661_5), hx662_0, hx663_0⟩ (fun hHeld => ?_); refine with_tabW table_Height.tab11 table_Height.bits11 (fun HT_ HW_ => ?_)
                 generalize w30.drew = w31 at HO_5 HO_18 HB GG25 HQ32 HQ33 hf25_0 hf28_0 hx25_0 hx28_0 hx657_0 hx660_0 hx660_1 hx660_2 hx660_3 hx660_4 hx660_5 hx661_0 hx661_1 hx661_2 hx661_3 hx661_4 hx661_5 hx662_0 hx663_0 hHeld ⊢
                 refine pure_ (i := 0) (N := some 36) (v := ?_) (a' := ?_) #[true,false,false,false,false,false,false,false,false,false,false,false,false,false,false,false,false,false,false,false,false,false,false,false,false,false] rfl rfl (aK HT_.out) (fun _ _ _ h => h) (Or.inl ⟨by rfl, ?_⟩) ?_ ?_
                 rotate_left
                 ·
                  intro w'
                  go_simp
                  with_reducible rfl
                 rotate_left
                 ·
                  simp only [Act.put, sp]
                  rfl
                 refine pure_ (i := 1) (N := some 37) (v := ?_) (a' := ?_) #[true,true,false,false,false,false,false,false,false,false,false,false,false,false,false,false,false,false,false,false,false,false,false,false,false,false] rfl rfl (aK HT_.out) (fun _ _ _ h => h) (Or.inl ⟨by rfl, ?_⟩) ?_ ?_
                 rotate_left
                 ·
                  intro w'
                  go_simp
                  with_reducible rfl
                 rotate_left
                 ·
                  simp only [Act.put, sp]
                  rfl
                 refine pure_ (i := 2) (N := some 38) (v := ?_) (a' := ?_) #[true,true,true,false,false,false,false,false,false,false,false,false,false,false,false,false,false,false,false,false,false,false,false,false,false,false] rfl rfl (aK HT_.out) (fun _ _ _ h => h) (Or.inl ⟨by rfl, ?_⟩) ?_ ?_
                 rotate_left
                 ·
                  intro w'
                  go_simp
                  with_reducible rfl
                 rotate_left
                 ·
                  simp only [Act.put, sp]
                  rfl
                 refine pure_ (i := 3) (N := some 39) (v := ?_) (a' := ?_) #[true,true,true,true,false,false,false,false,false,false,false,false,false,false,false,false,false,false,false,false,false,false,false,false,false,false] rfl rfl (aK HT_.out) (fun _ _ _ h => h) (Or.inl ⟨by rfl, ?_⟩) ?_ ?_
                 rotate_left
                 ·
                  intro w'
                  go_simp
                  with_reducible rfl
                 rotate_left
                 ·
                  simp only [Act.put, sp]
                  rfl
                 refine pure_ (i := 4) (N := some 40) (v := ?_) (a' := ?_) #[true,true,true,true,true,false,false,false,false,false,false,false,false,false,false,false,false,false,false,false,false,false,false,false,false,false] rfl rfl (aK HT_.out) (fun _ _ _ h => h) (Or.inl ⟨by rfl, ?_⟩) ?_ ?_
                 rotate_left
                 ·
                  intro w'
                  go_simp
                  with_reducible rfl
                 rotate_left
                 ·
                  simp only [Act.put, sp]
                  rfl
                 refine pure_ (i := 6) (N := some 42) (v := ?_) (a' := ?_) #[true,true,true,true,true,false,true,false,false,false,false,false,false,false,false,false,false,false,false,false,false,false,false,false,false,false] rfl rfl (aK HT_.out) (fun _ _ _ h => h) (Or.inl ⟨by rfl, ?_⟩) ?_ ?_
                 rotate_left
                 ·
                  intro w'
                  go_simp
                  with_reducible rfl
                 rotate_left
                 ·
                  simp only [Act.put, sp]
                  rfl
                 refine pure_ (i := 7) (N := some 43) (v := ?_) (a' := ?_) #[true,true,true,true,true,false,true,true,false,false,false,false,false,false,false,false,false,false,false,false,false,false,false,false,false,false] rfl rfl (aK HT_.out) (fun _ _ _ h => h) (Or.inl ⟨by rfl, ?_⟩) ?_ ?_
                 rotate_left
                 ·
                  intro w'
                  go_simp
                  with_reducible rfl
                 rotate_left
                 ·
                  simp only [Act.put, sp]
                  rfl
                 refine pure_ (i := 8) (N := some 44) (v := ?_) (a' := ?_) #[true,true,true,true,true,false,true,true,true,false,false,false,false,false,false,false,false,false,false,false,false,false,false,false,false,false] rfl rfl (aK HT_.out) (fun _ _ _ h => h) (Or.inl ⟨by rfl, ?_⟩) ?_ ?_
                 rotate_left
                 ·
                  intro w'
                  go_simp
                  with_reducible rfl
                 rotate_left
                 ·
                  simp only [Act.put, sp]
                  rfl
                 refine pure_ (i := 9) (N := some 45) (v := ?_) (a' := ?_) #[true,true,true,true,true,false,true,true,true,true,false,false,false,false,false,false,false,false,false,false,false,false,false,false,false,false] rfl rfl (aK HT_.out) (fun _ _ _ h => h) (Or.inl ⟨by rfl, ?_⟩) ?_ ?_
                 rotate_left
                 ·
                  intro w'
                  go_simp
                  with_reducible rfl
                 rotate_left
                 ·
                  simp only [Act.put, sp]
                  rfl
                 refine pure_ (i := 10) (N := some 46) (v := ?_) (a' := ?_) #[true,true,true,true,true,false,true,true,true,true,true,false,false,false,false,false,false,false,false,false,false,false,false,false,false,false] rfl rfl (aK HT_.out) (fun _ _ _ h => h) (Or.inl ⟨by rfl, ?_⟩) ?_ ?_
                 rotate_left
                 ·
                  intro w'
                  go_simp
                  with_reducible rfl
                 rotate_left
                 ·
                  simp only [Act.put, sp]
                  rfl
                 refine pure_ (i := 12) (N := some 48) (v := ?_) (a' := ?_) #[true,true,true,true,true,false,true,true,true,true,true,false,true,false,false,false,false,false,false,false,false,false,false,false,false,false] rfl rfl (aK HT_.out) (fun _ _ _ h => h) (Or.inl ⟨by rfl, ?_⟩) ?_ ?_
                 rotate_left
                 ·
                  intro w'
                  go_simp
                  with_reducible rfl
                 rotate_left
                 ·
                  simp only [Act.put, sp]
                  rfl
                 refine pure_ (i := 13) (N := some 49) (v := ?_) (a' := ?_) #[true,true,true,true,true,false,true,true,true,true,true,false,true,true,false,false,false,false,false,false,false,false,false,false,false,false] rfl rfl (aK HT_.out) (fun _ _ _ h => h) (Or.inl ⟨by rfl, ?_⟩) ?_ ?_
                 rotate_left
                 ·
                  intro w'
                  go_simp
                  with_reducible rfl
                 rotate_left
                 ·
                  simp only [Act.put, sp]
                  rfl
                 refine pure_ (i := 14) (N := some 50) (v := ?_) (a' := ?_) #[true,true,true,true,true,false,true,true,true,true,true,false,true,true,true,false,false,false,false,false,false,false,false,false,false,false] rfl rfl (aK HT_.out) (fun _ _ _ h => h) (Or.inl ⟨by rfl, ?_⟩) ?_ ?_
                 rotate_left
                 ·
                  intro w'
                  go_simp
                  with_reducible rfl
                 rotate_left
                 ·
                  simp only [Act.put, sp]
                  rfl
                 refine pure_ (i := 17) (N := some 53) (v := ?_) (a' := ?_) #[true,true,true,true,true,false,true,true,true,true,true,false,true,true,true,false,false,true,false,false,false,false,false,false,false,false] rfl rfl (aK HT_.out) (fun _ _ _ h => h) (Or.inl ⟨by rfl, ?_⟩) ?_ ?_
                 rotate_left
                 ·
                  intro w'
                  go_simp
                  with_reducible rfl
                 rotate_left
                 ·
                  simp only [Act.put, sp]
                  rfl
                 refine pure_ (i := 18) (N := some 54) (v := ?_) (a' := ?_) #[true,true,true,true,true,false,true,true,true,true,true,false,true,true,true,false,false,true,true,false,false,false,false,false,false,false] rfl rfl (aK HT_.out) (fun _ _ _ h => h) (Or.inl ⟨by rfl, ?_⟩) ?_ ?_
                 rotate_left
                 ·
                  intro w'
                  go_simp
                  with_reducible rfl
                 rotate_left
                 ·
                  simp only [Act.put, sp]
                  rfl
                 refine pure_ (i := 19) (N := some 55) (v := ?_) (a' := ?_) #[true,true,true,true,true,false,true,true,true,true,true,false,true,true,true,false,false,true,true,true,false,false,false,false,false,false] rfl rfl (aK HT_.out) (fun _ _ _ h => h) (Or.inl ⟨by rfl, ?_⟩) ?_ ?_
                 rotate_left
                 ·
                  intro w'
                  go_simp
                  with_reducible rfl
                 rotate_left
                 ·
                  simp only [Act.put, sp]
                  rfl
                 refine take_ (i := 5) (N := some 41) (v := ?_) (a' := ?_) #[true,true,true,true,true,true,true,true,true,true,true,false,true,true,true,false,false,true,true,true,false,false,false,false,false,false] rfl rfl (take_ofW HT_.out HW_.out (by kernel_rfl)) (fun _ _ _ h => h) (Or.inl ⟨by rfl, ?_⟩) hHeld ?_ ?_
                 rotate_left
                 ·
                  rintro w' ⟨s0, s1, s2, s3, s4, s5, s6, s7, s8, s9, s10, s11, s12, s13⟩
                  go_simp
                  with_reducible rfl
                 rotate_left
                 ·
                  simp only [Act.put, sp]
                  rfl
                 refine take_ (i := 11) (N := some 47) (v := ?_) (a' := ?_) #[true,true,true,true,true,true,true,true,true,true,true,true,true,true,true,false,false,true,true,true,false,false,false,false,false,false] rfl rfl (take_ofW HT_.out HW_.out (by kernel_rfl)) (fun _ _ _ h => h) (Or.inl ⟨by rfl, ?_⟩) hHeld ?_ ?_
                 rotate_left
                 ·
                  rintro w' ⟨s0, s1, s2, s3, s4, s5, s6, s7, s8, s9, s10, s11, s12, s13⟩
                  go_simp
                  with_reducible rfl
                 rotate_left
                 ·
                  simp only [Act.put, sp]
                  rfl
                 refine take_ (i := 15) (N := some 51) (v := ?_) (a' := ?_) #[true,true,true,true,true,true,true,true,true,true,true,true,true,true,true,true,false,true,true,true,false,false,false,false,false,false] rfl rfl (take_ofW HT_.out HW_.out (by kernel_rfl)) (fun _ _ _ h => h) (Or.inl ⟨by rfl, ?_⟩) hHeld ?_ ?_
                 rotate_left
                 ·
                  rintro w' ⟨s0, s1, s2, s3, s4, s5, s6, s7, s8, s9, s10, s11, s12, s13⟩
                  go_simp
                  with_reducible rfl
                 rotate_left
                 ·
                  simp only [Act.put, sp]
                  rfl
                 refine pure_ (i := 16) (N := some 52) (v := ?_) (a' := ?_) #[true,true,true,true,true,true,true,true,true,true,true,true,true,true,true,true,true,true,true,true,false,false,false,false,false,false] rfl rfl (aK HT_.out) (fun _ _ _ h => h) (Or.inl ⟨by rfl, ?_⟩) ?_ ?_
                 rotate_left
                 ·
                  intro w'
                  go_simp
                  with_reducible rfl
                 rotate_left
                 ·
                  simp only [Act.put, sp]
                  rfl
                 refine take_ (i := 20) (N := some 56) (v := ?_) (a' := ?_) #[true,true,true,true,true,true,true,true,true,true,true,true,true,true,true,true,true,true,true,true,true,false,false,false,false,false] rfl rfl (take_ofW HT_.out HW_.out (by kernel_rfl)) (fun _ _ _ h => h) (Or.inl ⟨by rfl, ?_⟩) hHeld ?_ ?_
                 rotate_left
                 ·
                  rintro w' ⟨s0, s1, s2, s3, s4, s5, s6, s7, s8, s9, s10, s11, s12, s13⟩
                  go_simp
                  with_reducible rfl
                 rotate_left
                 ·
                  simp only [Act.put, sp]
                  rfl
                 refine pure_ (i := 21) (N := some 57) (v := ?_) (a' := ?_) #[true,true,true,true,true,true,true,true,true,true,true,true,true,true,true,true,true,true,true,true,true,true,false,false,false,false] rfl rfl (aK HT_.out) (fun _ _ _ h => h) (Or.inl ⟨by rfl, ?_⟩) ?_ ?_
                 rotate_left
                 ·
                  intro w'
                  go_simp
                  with_reducible rfl
                 rotate_left
                 ·
                  simp only [Act.put, sp]
                  rfl
                 refine pure_ (i := 22) (N := some 58) (v := ?_) (a' := ?_) #[true,true,true,true,true,true,true,true,true,true,true,true,true,true,true,true,true,true,true,true,true,true,true,false,false,false] rfl rfl (aK HT_.out) (fun _ _ _ h => h) (Or.inl ⟨by rfl, ?_⟩) ?_ ?_
                 rotate_left
                 ·
                  intro w'
                  go_simp
                  with_reducible rfl
                 rotate_left
                 ·
                  simp only [Act.put, sp]
                  rfl
                 refine last_ (i := 23) (N := none) #[true,true,true,true,true,true,true,true,true,true,true,true,true,true,true,true,true,true,true,true,true,true,true,true,false,false] rfl rfl (one_of HT_.out (by kernel_rfl)) (by decide) (fun K hK => ?_)
                 refine skip_ (w1 := ?_) (by rfl) rfl ?_ ?_
                 rotate_left
                 ·
                  go_simp
                  rfl
                 refine hK.out _ _ ?_
                 clear hK K
                 refine pure_ (i := 24) (N := some 59) (v := ?_) (a' := ?_) #[true,true,true,true,true,true,true,true,true,true,true,true,true,true,true,true,true,true,true,true,true,true,true,true,true,false] rfl rfl (aK HT_.out) (fun _ _ _ h => h) (Or.inl ⟨by rfl, ?_⟩) ?_ ?_
                 rotate_left
                 ·
                  intro w'
                  go_simp
                  with_reducible rfl
                 rotate_left
                 ·
                  simp only [Act.put, sp]
                  rfl
                 refine last_ (i := 25) (N := none) #[true,true,true,true,true,true,true,true,true,true,true,true,true,true,true,true,true,true,true,true,true,true,true,true,true,true] rfl rfl (one_of HT_.out (by kernel_rfl)) (by decide) (fun K hK => ?_)
                 refine skip_ (w1 := ?_) (by rfl) rfl ?_ ?_
                 rotate_left
                 ·
                  go_simp
                  rfl
                 refine hK.out _ _ ?_
                 clear hK K
                 refine done_ (done_of HT_.out (by kernel_rfl)) ?_
                 try go_wp2
                 go_roundg k1
                 case measure => have := HK1.out; omega
                 case rel => exact ⟨(y665), (ji17), (wrap64 (x20_1 + 1)), (by first | rfl | (simp; done) | (simp only [← hji17] <;> (first | rfl | simp)) | (simp [*]; done)), rs, H', ⟨by have := HK1.out; omega⟩, ⟨skR HQ33.out⟩, ⟨skR (Kd.R_mono (Kd.R_far (p := ⟨go25, (((J49 l0 (rd t653 x20_1)).f5) : Int).toNat, none⟩) (Kd.R_far (p := ⟨go25, (((J49 l0 (rd t653 x20_1)).f4) : Int).toNat, none⟩) (Kd.R_mono HO_18.out (fun k_ hk => (⟨hk, fun e_ => hk (by rw [e_]; rfl)⟩ : _ ∧ k_ ≠ go25))) (fun _ hk => hk.2) (.int .i64 (wrap64 ((rd x5_1 (rd t653 x20_1)) + 1)))) (fun _ hk => hk.2) (.int .i64 (wrap64 ((rd x5_1 (rd t653 x20_1)) + 1)))) (fun _ hk => hk.1))⟩, ⟨skG HB.out GB25.out GB25.out⟩⟩
                ·
                 rw [if_neg c27] at H
                 exact absurd H (by simp)
               ·
                rw [if_neg c26] at H
                exact absurd H (by simp)
              ·
               rw [if_neg c24] at H
               exact absurd H (by simp)
             ·
              rw [if_neg c23] at H
              exact absurd H (by simp)
           ·
            rw [if_neg c18] at H
            exact absurd H (by simp)
          ·
           rw [if_neg c16] at H
           exact absurd H (by simp)
         ·
          rw [if_neg c15] at H
          exact absurd H (by simp)
        ·
         rw [if_neg c14] at H
         exact absurd H (by simp)
       ·
        rw [if_neg c13] at H
        exact absurd H (by simp)
      ·
       rw [if_neg c12] at H
       have c12b0 : decide (x20_1 < (t653.length : Int)) = false := decide_eq_false c12
       clear c12
       simp only [Option.some.injEq, Prod.mk.injEq] at H
       obtain ⟨rfl, rfl⟩ := H
       go_wp2
       go_ret2
       exact ⟨re, skB HB.out⟩
   ·
    rw [if_neg c5] at H
    exact absurd H (by simp)
  ·
   rw [if_neg c4] at H
   exact absurd H (by simp)
 ·
  rw [if_neg c3] at H
  have c3b0 : (t649 == 0) = false := beq_eq_false_iff_ne.mpr c3
  have c3b1 : (t649 != 0) = true := bne_iff_ne.mpr c3
  simp only [Option.some.injEq, Prod.mk.injEq] at H
  obtain ⟨rfl, rfl⟩ := H
  go_enter Try.func57, Try.ntmps57
  go_wp2_with (first | ((with_reducible refine gate_callee (f := 60) rfl ?_); refine goesL_ (some 10) rfl rfl Try.func60 (by kernel_rfl) rfl #[.slice A0 l0.length c0] rfl ags ?_; (with_reducible refine (table_Check.calls k _ _ l0 t649 _ ?side1 ?side2 A2.out).mono ?_); (case side1 => exact skC HR0.out); (case side2 => exact HC0.out); rintro e w34 ⟨rfl, hb⟩; refine ⟨_, rfl, ?_⟩; have n0_ := asd (below_step (skB HB.out) hb); clear HB; have HB := n0_; clear n0_; (try clear hb); (try clear hb2); (try clear hk); (try clear hi)))
  go_ret2
  exact ⟨re, skB HB.out⟩
end Go.Proofs.Ytmmjkebboonnkaa.P
/- F65 -/
namespace Go.Proofs.Ytmmjkebboonnkaa.P
open Go.RowKit Go.Proofs.YtmmjkebboonnkaaW.PrintWords Go.Proofs.YtmmjkebboonnkaaW.PrintLast Go.Proofs.YtmmjkebboonnkaaW.PrintMore
attribute [local go_sem] max2_int min2_int max_two min_two max_three min_three max_four min_four   -- for this text's walks alone
set_option linter.unusedVariables false
set_option linter.unusedSimpArgs false
end Go.Proofs.Ytmmjkebboonnkaa.P
