/- P.weighHeavy_holds, part 18 of 22: the contracts of the Go functions that the law calls, its own walk, and its plain law, for every input that the statement speaks of. -/
import Derived.Test.YtmmjkebboonnkaaMHeavy1
import Derived.Test.YtmmjkebboonnkaaMHeavy14
import Derived.Test.YtmmjkebboonnkaaMHeavy3
import Derived.Test.YtmmjkebboonnkaaMHeavy11
import Derived.Test.YtmmjkebboonnkaaMHeavy9
import Derived.Test.YtmmjkebboonnkaaMHeavy15
import Derived.Test.YtmmjkebboonnkaaMHeavy16
/- F15 -/
namespace Go.Proofs.Ytmmjkebboonnkaa.P
open Go.RowKit Go.Proofs.YtmmjkebboonnkaaW.PrintWords Go.Proofs.YtmmjkebboonnkaaW.PrintLast Go.Proofs.YtmmjkebboonnkaaW.PrintMore
attribute [local go_sem] max2_int min2_int max_two min_two max_three min_three max_four min_four   -- for this text's walks alone
set_option linter.unusedVariables false
set_option linter.unusedSimpArgs false
def weigh_Violations.l0 : Nat → List (S49) → Int → List Int → Int → Int → Option (Int × Int)
 | 0, _, _, _, _, _ => none
 | k + 1, x0, x6, x26, x27, x28 => if x28 < x27 then (if 0 ≤ x28 then (if x28 < (x26.length : Int) then (if 0 ≤ (rd x26 x28) then (if (rd x26 x28) < (x0.length : Int) then (weigh_Violations.l0 k x0 (wrap64 (x6 + (wrap64 (((rd_T49 x0 (rd x26 x28)).f2) - 1)))) x26 x27 (wrap64 (x28 + 1))) else (none)) else (none)) else (none)) else (none)) else (some (x6, 0))
def weigh_Violations.f (k : Nat) (l0 : List (S49)) : Option (Int × Int) := (weigh_Reds.f k l0).bind fun bt188 => (if bt188.2 = 0 then ((weigh_Overs.f k l0).bind fun bt192 => (weigh_Violations.l0 k l0 (bt188.1.length : Int) bt192.1 (bt192.1.length : Int) 0)) else (some (0, bt188.2)))
theorem weigh_Violations.mono_l : ∀ k, (∀ y0 y1 y2 y3 y4, LeO (weigh_Violations.l0 k y0 y1 y2 y3 y4) (weigh_Violations.l0 (k + 1) y0 y1 y2 y3 y4))
 | 0 => fun _ _ _ _ _ r h => by simp [weigh_Violations.l0] at h
 | k + 1 => by
  have ih0 := weigh_Violations.mono_l k
  ·
   intro y0 y1 y2 y3 y4
   unfold weigh_Violations.l0
   repeat' first
   | (with_reducible exact ih0 _ _ _ _ _)
   | (with_reducible exact weigh_Overs.mono _ _)
   | (with_reducible exact weigh_Reds.mono _ _)
   | (with_reducible exact LeO.refl _)
   | (with_reducible exact LeO.none _)
   | (with_reducible refine LeO.ite ?_ ?_)
   | (with_reducible refine LeO.bind ?_ (fun _ => ?_))
   | exact ih0 _ _ _ _ _
   | exact weigh_Overs.mono _ _
   | exact weigh_Reds.mono _ _
   | exact LeO.none _
   | refine LeO.ite ?_ ?_
   | refine LeO.bind ?_ (fun _ => ?_)
theorem weigh_Violations.mono : ∀ a0 k, LeO (weigh_Violations.f k a0) (weigh_Violations.f (k + 1) a0) := by
 intro a0 k
 have ih0 := weigh_Violations.mono_l k
 unfold weigh_Violations.f
 repeat' first
   | (with_reducible exact ih0 _ _ _ _ _)
   | (with_reducible exact weigh_Overs.mono _ _)
   | (with_reducible exact weigh_Reds.mono _ _)
   | (with_reducible exact LeO.refl _)
   | (with_reducible exact LeO.none _)
   | (with_reducible refine LeO.ite ?_ ?_)
   | (with_reducible refine LeO.bind ?_ (fun _ => ?_))
   | exact ih0 _ _ _ _ _
   | exact weigh_Overs.mono _ _
   | exact weigh_Reds.mono _ _
   | exact LeO.none _
   | refine LeO.ite ?_ ?_
   | refine LeO.bind ?_ (fun _ => ?_)
set_option maxHeartbeats 8000000 in
set_option maxRecDepth 100000 in
theorem weigh_Violations.calls (k : Nat) (A0 : Option Addr) (c0 : Nat) (l0 : List (S49)) (r1 : Int) (r2 : Int) (w : World) (hr0 : Kd.C k49 w A0 l0.length l0) (hc0 : l0.length ≤ c0) (h : weigh_Violations.f k l0 = some (r1, r2)) :
  Calls Try.prog 15 #[.slice A0 l0.length c0] w fun e w' => e = .returned (.tuple #[.int .i64 r1, .int .i64 r2]) ∧ Below w.heap.size w w' := by
 have HR0 := Aside0.mk hr0
 have HC0 := Aside0.mk hc0
 clear hr0 hc0
 have HB := Aside0.mk (Below.refl w.heap.size w)
 have H : ((weigh_Reds.f k l0).bind fun bt188 => (if bt188.2 = 0 then ((weigh_Overs.f k l0).bind fun bt192 => (weigh_Violations.l0 k l0 (bt188.1.length : Int) bt192.1 (bt192.1.length : Int) 0)) else (some (0, bt188.2)))) = some (r1, r2) := h
 clear h
 replace H := Option.bind_eq_some_iff.mp H
 obtain ⟨⟨t188, t189⟩, A20, H⟩ := H
 replace H : (if t189 = 0 then ((weigh_Overs.f k l0).bind fun bt192 => (weigh_Violations.l0 k l0 (t188.length : Int) bt192.1 (bt192.1.length : Int) 0)) else (some (0, t189))) = some (r1, r2) := H
 have A2 := Aside0.mk A20
 clear A20
 by_cases c3 : t189 = 0
 ·
  rw [if_pos c3] at H
  have c3b0 : (t189 == 0) = true := beq_iff_eq.mpr c3
  have c3b1 : (t189 != 0) = false := bne_eq_false_iff_eq.mpr c3
  clear c3
  replace H := Option.bind_eq_some_iff.mp H
  obtain ⟨⟨t192, t193⟩, A40, H⟩ := H
  replace H : (weigh_Violations.l0 k l0 (t188.length : Int) t192 (t192.length : Int) 0) = some (r1, r2) := H
  have A4 := Aside0.mk A40
  clear A40
  have H' := Aside0.mk H
  clear H
  go_enter Try.func15, Try.ntmps15
  go_wp2_with (first | ((with_reducible refine gate_callee (f := 9) rfl ?_); refine goesL_ (some 13) rfl rfl Try.func9 (by kernel_rfl) rfl #[.slice A0 l0.length c0] rfl (by (try simp only [List.map_toArray, List.map_cons, List.map_nil]); first | done | rfl | (simp only [List.length_drop, List.length_take]; rfl)) ?_; (with_reducible refine (weigh_Reds.calls k _ _ l0 t188 t189 _ ?side1 ?side2 A2.out).mono ?_); (case side1 => repeat (first | exact HR0.out | (with_reducible refine Kd.C_alloc ?_ _) | (with_reducible refine Kd.C_drewN ?_ _) | (with_reducible refine Kd.C_drew ?_))); (case side2 => exact HC0.out); rintro e w5 ⟨v190, rfl, ho0, hb⟩; refine ⟨_, rfl, ?_⟩; have n0_ := Aside0.mk (Kd.R_lower ho0 (below_size (by repeat (first | (with_reducible first | exact HB.out | apply below_alloc | apply pw_below_drewN | apply below_drew1) | exact HB.out)))); have n1_ := Aside0.mk (below_step (by repeat (first | (with_reducible first | exact HB.out | apply below_alloc | apply pw_below_drewN | apply below_drew1) | exact HB.out)) hb); clear HB; have HO191 := n0_; have HB := n1_; clear n0_ n1_; (try clear hb); (try clear hb2); (try clear hk); (try clear hi); (try clear ho0); obtain ⟨Ao6, co6, eo6⟩ := Kd.R_slice HO191.out; subst eo6) | ((with_reducible refine gate_callee (f := 13) rfl ?_); refine goesL_ (some 23) rfl rfl Try.func13 (by kernel_rfl) rfl #[.slice A0 l0.length c0] rfl (by (try simp only [List.map_toArray, List.map_cons, List.map_nil]); first | done | rfl | (simp only [List.length_drop, List.length_take]; rfl)) ?_; (with_reducible refine (weigh_Overs.calls k _ _ l0 t192 t193 _ ?side1 ?side2 A4.out).mono ?_); (case side1 => repeat (first | exact (Kd.C_below HR0.out HB.out) | (with_reducible refine Kd.C_alloc ?_ _) | (with_reducible refine Kd.C_drewN ?_ _) | (with_reducible refine Kd.C_drew ?_))); (case side2 => exact HC0.out); rintro e w7 ⟨v194, rfl, ho0, hb⟩; refine ⟨_, rfl, ?_⟩; have n0_ := Aside0.mk (Kd.R_elder' (by (with_reducible repeat (first | apply Kd.R_alloc | apply Kd.R_drewN | apply Kd.R_drew)); exact HO191.out) (Kd.R_base ho0) hb); have n1_ := Aside0.mk (Kd.R_lower (Kd.R_new' ho0 (Kd.R_lt (by (with_reducible repeat (first | apply Kd.R_alloc | apply Kd.R_drewN | apply Kd.R_drew)); exact HO191.out))) (below_size (by repeat (first | (with_reducible first | exact HB.out | apply below_alloc | apply pw_below_drewN | apply below_drew1) | exact HB.out)))); have n2_ := Aside0.mk (below_step (by repeat (first | (with_reducible first | exact HB.out | apply below_alloc | apply pw_below_drewN | apply below_drew1) | exact HB.out)) hb); clear HO191; clear HB; have HO191 := n0_; have HO195 := n1_; have HB := n2_; clear n0_ n1_ n2_; (try clear hb); (try clear hb2); (try clear hk); (try clear hi); (try clear ho0); obtain ⟨Ao8, co8, eo8⟩ := Kd.R_slice HO195.out; subst eo8))
  go_loopg [6, 28] k (fun kq v6 v28 w' => ∃ (x6_1 : Int) (x28_1 : Int), v6 = .int .i64 x6_1 ∧ v28 = .int .i64 x28_1 ∧ Aside0 (weigh_Violations.l0 kq l0 x6_1 t192 (t192.length : Int) x28_1 = some (r1, r2)) ∧ Aside0 (kq ≤ k) ∧ Aside0 (Kd.R (Kd.int .i64) 3 w' w.heap.size (fun _ => True) (.slice Ao8 t192.length co8) t192) ∧ Aside0 (Below w.heap.size w w'))
  case atStart => exact ⟨((t188.length : Int)), (0), (by first | rfl | (simp; done) | (simp [*]; done)), (by first | rfl | (simp; done) | (simp [*]; done)), H', ⟨Nat.le_refl _⟩, ⟨by (with_reducible repeat (first | apply Kd.R_alloc | apply Kd.R_drewN | apply Kd.R_drew)); exact Kd.R_mono HO195.out (fun _ hk => trivial)⟩, ⟨by repeat (first | (with_reducible first | exact HB.out | apply below_alloc | apply pw_below_drewN | apply below_drew1) | exact HB.out)⟩⟩
  case round =>
   clear H'
   try clear c1
   try clear p2
   try clear c3
   try clear c3b0
   try clear c3b1
   obtain ⟨x6_1, x28_1, rfl, rfl, HA, HK1, HO_26, HB⟩ := hrel
   cases gk with
   | zero => exact absurd HA.out (by simp [weigh_Violations.l0])
   | succ k1 =>
    have H := HA.out
    clear HA
    simp only [weigh_Violations.l0] at H
    by_cases c9 : x28_1 < (t192.length : Int)
    ·
     rw [if_pos c9] at H
     have c9b0 : decide (x28_1 < (t192.length : Int)) = true := decide_eq_true c9
     clear c9
     by_cases c10 : 0 ≤ x28_1
     ·
      rw [if_pos c10] at H
      have c10b0 : decide (0 ≤ x28_1) = true := decide_eq_true c10
      clear c10
      by_cases c11 : x28_1 < (t192.length : Int)
      ·
       rw [if_pos c11] at H
       have c11b0 : decide (x28_1 < (t192.length : Int)) = true := decide_eq_true c11
       clear c11
       by_cases c12 : 0 ≤ (rd t192 x28_1)
       ·
        rw [if_pos c12] at H
        have c12b0 : decide (0 ≤ (rd t192 x28_1)) = true := decide_eq_true c12
        clear c12
        by_cases c13 : (rd t192 x28_1) < (l0.length : Int)
        ·
         rw [if_pos c13] at H
         have c13b0 : decide ((rd t192 x28_1) < (l0.length : Int)) = true := decide_eq_true c13
         clear c13
         have H' := Aside0.mk H
         clear H
         have p196 : 0 ≤ (x28_1 : Int) := of_decide_eq_true (by first | (with_reducible assumption) | assumption)
         have q196 : x28_1 < (t192.length : Int) := of_decide_eq_true (by first | (with_reducible assumption) | assumption)
         obtain ⟨ad196, e196, hx196_0⟩ := Kd.at_int (Kd.R_reads' HO_26.out).2.2 x28_1 p196 q196
         cases e196
         replace p196 := eq_true p196
         replace q196 := eq_true q196
         have p197 : 0 ≤ ((rd t192 x28_1) : Int) := of_decide_eq_true (by first | (with_reducible assumption) | assumption)
         have q197 : (rd t192 x28_1) < (l0.length : Int) := of_decide_eq_true (by first | (with_reducible assumption) | assumption)
         obtain ⟨ad197, e197, hx197_0, hx197_1, hx197_2, hx197_3, hx197_4, hx197_5⟩ := at_T49 HR0.out (rd t192 x28_1) p197 q197
         cases e197
         replace hx197_0 := (HB.out.cell (World.block_lt_of_cell? w _ hx197_0)).trans hx197_0
         replace hx197_1 := (HB.out.cell (World.block_lt_of_cell? w _ hx197_1)).trans hx197_1
         replace hx197_2 := (HB.out.cell (World.block_lt_of_cell? w _ hx197_2)).trans hx197_2
         replace hx197_3 := (HB.out.cell (World.block_lt_of_cell? w _ hx197_3)).trans hx197_3
         replace hx197_4 := (HB.out.cell (World.block_lt_of_cell? w _ hx197_4)).trans hx197_4
         replace hx197_5 := (HB.out.cell (World.block_lt_of_cell? w _ hx197_5)).trans hx197_5
         replace p197 := eq_true p197
         replace q197 := eq_true q197
         go_wp2
         go_roundg k1
         case measure => have := HK1.out; omega
         case rel => exact ⟨(wrap64 (x6_1 + (wrap64 (((rd_T49 l0 (rd t192 x28_1)).f2) - 1)))), (wrap64 (x28_1 + 1)), (by first | rfl | (simp; done) | (simp [*]; done)), (by first | rfl | (simp; done) | (simp [*]; done)), H', ⟨by have := HK1.out; omega⟩, ⟨by (with_reducible repeat (first | apply Kd.R_alloc | apply Kd.R_drewN | apply Kd.R_drew)); exact HO_26.out⟩, ⟨by repeat (first | (with_reducible first | exact HB.out | apply below_alloc | apply pw_below_drewN | apply below_drew1) | exact HB.out)⟩⟩
        ·
         rw [if_neg c13] at H
         exact absurd H (by simp)
       ·
        rw [if_neg c12] at H
        exact absurd H (by simp)
      ·
       rw [if_neg c11] at H
       exact absurd H (by simp)
     ·
      rw [if_neg c10] at H
      exact absurd H (by simp)
    ·
     rw [if_neg c9] at H
     have c9b0 : decide (x28_1 < (t192.length : Int)) = false := decide_eq_false c9
     clear c9
     simp only [Option.some.injEq, Prod.mk.injEq] at H
     obtain ⟨rfl, rfl⟩ := H
     go_wp2
     go_ret2
     exact ⟨by first | rfl | (simp [errW_none, errW_some] <;> rfl) | (simp [*, errW_none, errW_some] <;> rfl), by repeat (first | (with_reducible first | exact HB.out | apply below_alloc | apply pw_below_drewN | apply below_drew1) | exact HB.out)⟩
 ·
  rw [if_neg c3] at H
  have c3b0 : (t189 == 0) = false := beq_eq_false_iff_ne.mpr c3
  have c3b1 : (t189 != 0) = true := bne_iff_ne.mpr c3
  simp only [Option.some.injEq, Prod.mk.injEq] at H
  obtain ⟨rfl, rfl⟩ := H
  go_enter Try.func15, Try.ntmps15
  go_wp2_with (first | ((with_reducible refine gate_callee (f := 9) rfl ?_); refine goesL_ (some 13) rfl rfl Try.func9 (by kernel_rfl) rfl #[.slice A0 l0.length c0] rfl (by (try simp only [List.map_toArray, List.map_cons, List.map_nil]); first | done | rfl | (simp only [List.length_drop, List.length_take]; rfl)) ?_; (with_reducible refine (weigh_Reds.calls k _ _ l0 t188 t189 _ ?side1 ?side2 A2.out).mono ?_); (case side1 => repeat (first | exact HR0.out | (with_reducible refine Kd.C_alloc ?_ _) | (with_reducible refine Kd.C_drewN ?_ _) | (with_reducible refine Kd.C_drew ?_))); (case side2 => exact HC0.out); rintro e w14 ⟨v190, rfl, ho0, hb⟩; refine ⟨_, rfl, ?_⟩; have n0_ := Aside0.mk (Kd.R_lower ho0 (below_size (by repeat (first | (with_reducible first | exact HB.out | apply below_alloc | apply pw_below_drewN | apply below_drew1) | exact HB.out)))); have n1_ := Aside0.mk (below_step (by repeat (first | (with_reducible first | exact HB.out | apply below_alloc | apply pw_below_drewN | apply below_drew1) | exact HB.out)) hb); clear HB; have HO191 := n0_; have HB := n1_; clear n0_ n1_; (try clear hb); (try clear hb2); (try clear hk); (try clear hi); (try clear ho0)))
  go_ret2
  exact ⟨by first | rfl | (simp [errW_none, errW_some] <;> rfl) | (simp [*, errW_none, errW_some] <;> rfl), by repeat (first | (with_reducible first | exact HB.out | apply below_alloc | apply pw_below_drewN | apply below_drew1) | exact HB.out)⟩
end Go.Proofs.Ytmmjkebboonnkaa.P
/- F26 -/
namespace Go.Proofs.Ytmmjkebboonnkaa.P
open Go.RowKit Go.Proofs.YtmmjkebboonnkaaW.PrintWords Go.Proofs.YtmmjkebboonnkaaW.PrintLast Go.Proofs.YtmmjkebboonnkaaW.PrintMore
attribute [local go_sem] max2_int min2_int max_two min_two max_three min_three max_four min_four   -- for this text's walks alone
set_option linter.unusedVariables false
set_option linter.unusedSimpArgs false
def larchlaw17_fixed.f (k : Nat)  : Option (Bool) := (larchlaw17_a.f).bind fun t249 => ((weigh_Sums.f k t249).bind fun bt252 => ((larchlaw17_a.f).bind fun t256 => ((weigh_Heavy.f k t256 (([0, 0, 3] : List Int))).bind fun bt262 => ((weigh_Violations.f k bt262.1).bind fun bt266 => ((weigh_First.f k bt262.1 9).bind fun bt268 => ((weigh_Bound.f 7).bind fun bt270 => (if bt252.2 = 0 then ((larchref17_SameInts.f k bt252.1 (([2, 2] : List Int))).bind fun t275 => (if t275 = true then (if bt262.2 = 0 then (if bt266.2 = 0 then (if bt266.1 = 3 then (if bt268.2 = 0 then (if bt268.1 = 4 then (if bt270.2 = 0 then (some (bt270.1 == 12)) else (none)) else (none)) else (none)) else (none)) else (none)) else (none)) else (none))) else (none))))))))
theorem larchlaw17_fixed.mono : ∀ k, LeO (larchlaw17_fixed.f k ) (larchlaw17_fixed.f (k + 1) ) := by
 intro  k
 unfold larchlaw17_fixed.f
 repeat' first
   | (with_reducible exact larchref17_SameInts.mono _ _ _)
   | (with_reducible exact weigh_First.mono _ _ _)
   | (with_reducible exact weigh_Heavy.mono _ _ _)
   | (with_reducible exact weigh_Sums.mono _ _)
   | (with_reducible exact weigh_Violations.mono _ _)
   | (with_reducible exact LeO.refl _)
   | (with_reducible exact LeO.none _)
   | (with_reducible refine LeO.ite ?_ ?_)
   | (with_reducible refine LeO.bind ?_ (fun _ => ?_))
   | exact larchref17_SameInts.mono _ _ _
   | exact weigh_First.mono _ _ _
   | exact weigh_Heavy.mono _ _ _
   | exact weigh_Sums.mono _ _
   | exact weigh_Violations.mono _ _
   | exact LeO.none _
   | refine LeO.ite ?_ ?_
   | refine LeO.bind ?_ (fun _ => ?_)
set_option maxHeartbeats 8000000 in
set_option maxRecDepth 100000 in
theorem larchlaw17_fixed.calls (k : Nat)  (r : Bool) (w : World) (h : larchlaw17_fixed.f k  = some r) :
  Calls Try.prog 8 #[] w fun e w' => e = .returned (.bool r) ∧ Below w.heap.size w w' := by
 have HB := Aside0.mk (Below.refl w.heap.size w)
 have H : ((larchlaw17_a.f).bind fun t249 => ((weigh_Sums.f k t249).bind fun bt252 => ((larchlaw17_a.f).bind fun t256 => ((weigh_Heavy.f k t256 (([0, 0, 3] : List Int))).bind fun bt262 => ((weigh_Violations.f k bt262.1).bind fun bt266 => ((weigh_First.f k bt262.1 9).bind fun bt268 => ((weigh_Bound.f 7).bind fun bt270 => (if bt252.2 = 0 then ((larchref17_SameInts.f k bt252.1 (([2, 2] : List Int))).bind fun t275 => (if t275 = true then (if bt262.2 = 0 then (if bt266.2 = 0 then (if bt266.1 = 3 then (if bt268.2 = 0 then (if bt268.1 = 4 then (if bt270.2 = 0 then (some (bt270.1 == 12)) else (none)) else (none)) else (none)) else (none)) else (none)) else (none)) else (none))) else (none))))))))) = some r := h
 clear h
 replace H := Option.bind_eq_some_iff.mp H
 obtain ⟨t249, A10, H⟩ := H
 replace H : ((weigh_Sums.f k t249).bind fun bt252 => ((larchlaw17_a.f).bind fun t256 => ((weigh_Heavy.f k t256 (([0, 0, 3] : List Int))).bind fun bt262 => ((weigh_Violations.f k bt262.1).bind fun bt266 => ((weigh_First.f k bt262.1 9).bind fun bt268 => ((weigh_Bound.f 7).bind fun bt270 => (if bt252.2 = 0 then ((larchref17_SameInts.f k bt252.1 (([2, 2] : List Int))).bind fun t275 => (if t275 = true then (if bt262.2 = 0 then (if bt266.2 = 0 then (if bt266.1 = 3 then (if bt268.2 = 0 then (if bt268.1 = 4 then (if bt270.2 = 0 then (some (bt270.1 == 12)) else (none)) else (none)) else (none)) else (none)) else (none)) else (none)) else (none))) else (none)))))))) = some r := H
 have A1 := Aside0.mk A10
 clear A10
 replace H := Option.bind_eq_some_iff.mp H
 obtain ⟨⟨t252, t253⟩, A20, H⟩ := H
 replace H : ((larchlaw17_a.f).bind fun t256 => ((weigh_Heavy.f k t256 (([0, 0, 3] : List Int))).bind fun bt262 => ((weigh_Violations.f k bt262.1).bind fun bt266 => ((weigh_First.f k bt262.1 9).bind fun bt268 => ((weigh_Bound.f 7).bind fun bt270 => (if t253 = 0 then ((larchref17_SameInts.f k t252 (([2, 2] : List Int))).bind fun t275 => (if t275 = true then (if bt262.2 = 0 then (if bt266.2 = 0 then (if bt266.1 = 3 then (if bt268.2 = 0 then (if bt268.1 = 4 then (if bt270.2 = 0 then (some (bt270.1 == 12)) else (none)) else (none)) else (none)) else (none)) else (none)) else (none)) else (none))) else (none))))))) = some r := H
 have A2 := Aside0.mk A20
 clear A20
 replace H := Option.bind_eq_some_iff.mp H
 obtain ⟨t256, A30, H⟩ := H
 replace H : ((weigh_Heavy.f k t256 (([0, 0, 3] : List Int))).bind fun bt262 => ((weigh_Violations.f k bt262.1).bind fun bt266 => ((weigh_First.f k bt262.1 9).bind fun bt268 => ((weigh_Bound.f 7).bind fun bt270 => (if t253 = 0 then ((larchref17_SameInts.f k t252 (([2, 2] : List Int))).bind fun t275 => (if t275 = true then (if bt262.2 = 0 then (if bt266.2 = 0 then (if bt266.1 = 3 then (if bt268.2 = 0 then (if bt268.1 = 4 then (if bt270.2 = 0 then (some (bt270.1 == 12)) else (none)) else (none)) else (none)) else (none)) else (none)) else (none)) else (none))) else (none)))))) = some r := H
 have A3 := Aside0.mk A30
 clear A30
 obtain ⟨y259, hy259⟩ : ∃ y_ : List Int, y_ = (([0, 0, 3] : List Int)) := ⟨_, rfl⟩
 replace H : ((weigh_Heavy.f k t256 y259).bind fun bt262 => ((weigh_Violations.f k bt262.1).bind fun bt266 => ((weigh_First.f k bt262.1 9).bind fun bt268 => ((weigh_Bound.f 7).bind fun bt270 => (if t253 = 0 then ((larchref17_SameInts.f k t252 (([2, 2] : List Int))).bind fun t275 => (if t275 = true then (if bt262.2 = 0 then (if bt266.2 = 0 then (if bt266.1 = 3 then (if bt268.2 = 0 then (if bt268.1 = 4 then (if bt270.2 = 0 then (some (bt270.1 == 12)) else (none)) else (none)) else (none)) else (none)) else (none)) else (none)) else (none))) else (none)))))) = some r := by first | (rw [hy259]; with_reducible exact H) | (have H2_ := (Option.bind_some _ _).symm.trans H; rw [hy259]; with_reducible exact H2_) | (have H2_ := (Option.bind_some _ _).symm.trans H; with_reducible exact H2_) | with_reducible exact H | (rw [hy259]; exact H) | exact H
 have Ny259 := Aside0.mk hy259
 clear hy259
 replace H := Option.bind_eq_some_iff.mp H
 obtain ⟨⟨t262, t263⟩, A40, H⟩ := H
 replace H : ((weigh_Violations.f k t262).bind fun bt266 => ((weigh_First.f k t262 9).bind fun bt268 => ((weigh_Bound.f 7).bind fun bt270 => (if t253 = 0 then ((larchref17_SameInts.f k t252 (([2, 2] : List Int))).bind fun t275 => (if t275 = true then (if t263 = 0 then (if bt266.2 = 0 then (if bt266.1 = 3 then (if bt268.2 = 0 then (if bt268.1 = 4 then (if bt270.2 = 0 then (some (bt270.1 == 12)) else (none)) else (none)) else (none)) else (none)) else (none)) else (none)) else (none))) else (none))))) = some r := H
 have A4 := Aside0.mk A40
 clear A40
 replace H := Option.bind_eq_some_iff.mp H
 obtain ⟨⟨t266, t267⟩, A50, H⟩ := H
 replace H : ((weigh_First.f k t262 9).bind fun bt268 => ((weigh_Bound.f 7).bind fun bt270 => (if t253 = 0 then ((larchref17_SameInts.f k t252 (([2, 2] : List Int))).bind fun t275 => (if t275 = true then (if t263 = 0 then (if t267 = 0 then (if t266 = 3 then (if bt268.2 = 0 then (if bt268.1 = 4 then (if bt270.2 = 0 then (some (bt270.1 == 12)) else (none)) else (none)) else (none)) else (none)) else (none)) else (none)) else (none))) else (none)))) = some r := H
 have A5 := Aside0.mk A50
 clear A50
 replace H := Option.bind_eq_some_iff.mp H
 obtain ⟨⟨t268, t269⟩, A60, H⟩ := H
 replace H : ((weigh_Bound.f 7).bind fun bt270 => (if t253 = 0 then ((larchref17_SameInts.f k t252 (([2, 2] : List Int))).bind fun t275 => (if t275 = true then (if t263 = 0 then (if t267 = 0 then (if t266 = 3 then (if t269 = 0 then (if t268 = 4 then (if bt270.2 = 0 then (some (bt270.1 == 12)) else (none)) else (none)) else (none)) else (none)) else (none)) else (none)) else (none))) else (none))) = some r := H
 have A6 := Aside0.mk A60
 clear A60
 replace H := Option.bind_eq_some_iff.mp H
 obtain ⟨⟨t270, t271⟩, A70, H⟩ := H
 replace H : (if t253 = 0 then ((larchref17_SameInts.f k t252 (([2, 2] : List Int))).bind fun t275 => (if t275 = true then (if t263 = 0 then (if t267 = 0 then (if t266 = 3 then (if t269 = 0 then (if t268 = 4 then (if t271 = 0 then (some (t270 == 12)) else (none)) else (none)) else (none)) else (none)) else (none)) else (none)) else (none))) else (none)) = some r := H
 have A7 := Aside0.mk A70
 clear A70
 by_cases c8 : t253 = 0
 ·
  rw [if_pos c8] at H
  have c8b0 : (t253 == 0) = true := beq_iff_eq.mpr c8
  have c8b1 : (t253 != 0) = false := bne_eq_false_iff_eq.mpr c8
  clear c8
  obtain ⟨y272, hy272⟩ : ∃ y_ : List Int, y_ = (([2, 2] : List Int)) := ⟨_, rfl⟩
  replace H : ((larchref17_SameInts.f k t252 y272).bind fun t275 => (if t275 = true then (if t263 = 0 then (if t267 = 0 then (if t266 = 3 then (if t269 = 0 then (if t268 = 4 then (if t271 = 0 then (some (t270 == 12)) else (none)) else (none)) else (none)) else (none)) else (none)) else (none)) else (none))) = some r := by first | (rw [hy272]; with_reducible exact H) | (have H2_ := (Option.bind_some _ _).symm.trans H; rw [hy272]; with_reducible exact H2_) | (have H2_ := (Option.bind_some _ _).symm.trans H; with_reducible exact H2_) | with_reducible exact H | (rw [hy272]; exact H) | exact H
  have Ny272 := Aside0.mk hy272
  clear hy272
  replace H := Option.bind_eq_some_iff.mp H
  obtain ⟨t275, A90, H⟩ := H
  replace H : (if t275 = true then (if t263 = 0 then (if t267 = 0 then (if t266 = 3 then (if t269 = 0 then (if t268 = 4 then (if t271 = 0 then (some (t270 == 12)) else (none)) else (none)) else (none)) else (none)) else (none)) else (none)) else (none)) = some r := H
  have A9 := Aside0.mk A90
  clear A90
  by_cases c10 : t275 = true
  ·
   subst c10
   have H1 : (if t263 = 0 then (if t267 = 0 then (if t266 = 3 then (if t269 = 0 then (if t268 = 4 then (if t271 = 0 then (some (t270 == 12)) else (none)) else (none)) else (none)) else (none)) else (none)) else (none)) = some r := by rw [if_pos rfl] at H; exact H
   clear H
   have H := H1
   clear H1
   by_cases c11 : t263 = 0
   ·
    rw [if_pos c11] at H
    have c11b0 : (t263 == 0) = true := beq_iff_eq.mpr c11
    have c11b1 : (t263 != 0) = false := bne_eq_false_iff_eq.mpr c11
    clear c11
    by_cases c12 : t267 = 0
    ·
     rw [if_pos c12] at H
     have c12b0 : (t267 == 0) = true := beq_iff_eq.mpr c12
     have c12b1 : (t267 != 0) = false := bne_eq_false_iff_eq.mpr c12
     clear c12
     by_cases c13 : t266 = 3
     ·
      rw [if_pos c13] at H
      have c13b0 : (t266 == 3) = true := beq_iff_eq.mpr c13
      have c13b1 : (t266 != 3) = false := bne_eq_false_iff_eq.mpr c13
      clear c13
      by_cases c14 : t269 = 0
      ·
       rw [if_pos c14] at H
       have c14b0 : (t269 == 0) = true := beq_iff_eq.mpr c14
       have c14b1 : (t269 != 0) = false := bne_eq_false_iff_eq.mpr c14
       clear c14
       by_cases c15 : t268 = 4
       ·
        rw [if_pos c15] at H
        have c15b0 : (t268 == 4) = true := beq_iff_eq.mpr c15
        have c15b1 : (t268 != 4) = false := bne_eq_false_iff_eq.mpr c15
        clear c15
        by_cases c16 : t271 = 0
        ·
         rw [if_pos c16] at H
         have c16b0 : (t271 == 0) = true := beq_iff_eq.mpr c16
         have c16b1 : (t271 != 0) = false := bne_eq_false_iff_eq.mpr c16
         clear c16
         obtain rfl := Option.some.inj H
         go_enter Try.func8, Try.ntmps8
         go_wp2_with (first | ((with_reducible refine gate_callee (f := 43) rfl ?_); refine goesL_ (some 12) rfl rfl Try.func43 (by kernel_rfl) rfl #[] rfl (by (try simp only [List.map_toArray, List.map_cons, List.map_nil]); first | done | rfl | (simp only [List.length_drop, List.length_take]; rfl)) ?_; (with_reducible refine (larchlaw17_a.calls  t249 _ A1.out).mono ?_); rintro e w17 ⟨v250, rfl, ho0, hb⟩; refine ⟨_, rfl, ?_⟩; have n0_ := Aside0.mk (Kd.R_lower ho0 (below_size (by repeat (first | (with_reducible first | exact HB.out | apply below_alloc | apply pw_below_drewN | apply below_drew1) | exact HB.out)))); have n1_ := Aside0.mk (below_step (by repeat (first | (with_reducible first | exact HB.out | apply below_alloc | apply pw_below_drewN | apply below_drew1) | exact HB.out)) hb); clear HB; have HO251 := n0_; have HB := n1_; clear n0_ n1_; (try clear hb); (try clear hb2); (try clear hk); (try clear hi); (try clear ho0); obtain ⟨Ao18, co18, eo18⟩ := Kd.R_slice HO251.out; subst eo18) | ((with_reducible refine gate_callee (f := 25) rfl ?_); refine goesL_ (some 13) rfl rfl Try.func25 (by kernel_rfl) rfl #[.slice Ao18 t249.length co18] rfl (by (try simp only [List.map_toArray, List.map_cons, List.map_nil]); first | done | rfl | (simp only [List.length_drop, List.length_take]; rfl)) ?_; (with_reducible refine (weigh_Sums.calls k _ _ t249 t252 t253 _ ?side1 ?side2 A2.out).mono ?_); (case side1 => repeat (first | exact (Kd.R_reads' HO251.out).2.2 | (with_reducible refine Kd.C_alloc ?_ _) | (with_reducible refine Kd.C_drewN ?_ _) | (with_reducible refine Kd.C_drew ?_))); (case side2 => exact (Kd.R_reads' HO251.out).2.1); rintro e w19 ⟨v254, rfl, ho0, hb⟩; refine ⟨_, rfl, ?_⟩; have n0_ := Aside0.mk (Kd.R_below (by (with_reducible repeat (first | apply Kd.R_alloc | apply Kd.R_drewN | apply Kd.R_drew)); exact HO251.out) hb); have n1_ := Aside0.mk (Kd.R_lower ho0 (below_size (by repeat (first | (with_reducible first | exact HB.out | apply below_alloc | apply pw_below_drewN | apply below_drew1) | exact HB.out)))); have n2_ := Aside0.mk (below_step (by repeat (first | (with_reducible first | exact HB.out | apply below_alloc | apply pw_below_drewN | apply below_drew1) | exact HB.out)) hb); clear HO251; clear HB; have HO251 := n0_; have HO255 := n1_; have HB := n2_; clear n0_ n1_ n2_; (try clear hb); (try clear hb2); (try clear hk); (try clear hi); (try clear ho0)) | ((with_reducible refine gate_callee (f := 43) rfl ?_); refine goesL_ (some 17) rfl rfl Try.func43 (by kernel_rfl) rfl #[] rfl (by (try simp only [List.map_toArray, List.map_cons, List.map_nil]); first | done | rfl | (simp only [List.length_drop, List.length_take]; rfl)) ?_; (with_reducible refine (larchlaw17_a.calls  t256 _ A3.out).mono ?_); rintro e w20 ⟨v257, rfl, ho0, hb⟩; refine ⟨_, rfl, ?_⟩; have n0_ := Aside0.mk (Kd.R_elder' (by (with_reducible repeat (first | apply Kd.R_alloc | apply Kd.R_drewN | apply Kd.R_drew)); exact HO251.out) (Kd.R_base ho0) hb); have n1_ := Aside0.mk (Kd.R_below (by (with_reducible repeat (first | apply Kd.R_alloc | apply Kd.R_drewN | apply Kd.R_drew)); exact HO255.out) hb); have n2_ := Aside0.mk (Kd.R_lower (Kd.R_new' ho0 (Kd.R_lt (by (with_reducible repeat (first | apply Kd.R_alloc | apply Kd.R_drewN | apply Kd.R_drew)); exact HO251.out))) (below_size (by repeat (first | (with_reducible first | exact HB.out | apply below_alloc | apply pw_below_drewN | apply below_drew1) | exact HB.out)))); have n3_ := Aside0.mk (below_step (by repeat (first | (with_reducible first | exact HB.out | apply below_alloc | apply pw_below_drewN | apply below_drew1) | exact HB.out)) hb); clear HO251; clear HO255; clear HB; have HO251 := n0_; have HO255 := n1_; have HO258 := n2_; have HB := n3_; clear n0_ n1_ n2_ n3_; (try clear hb); (try clear hb2); (try clear hk); (try clear hi); (try clear ho0)) | ((with_reducible refine gate_dst (N := 18) rfl ?_); (try (refine gate_guard (by rfl) ?_; dsimp only)); refine Kd.R_lit (Kd.int .i64) _ 3 ?hg (N := 18) ?hd (xs := ([0, 0, 3] : List Int)) (inner := [.int .i64 0, .int .i64 0, .int .i64 3]) (ok := fun _ => True) (okp := fun _ => True) ?hr ?hp (fun _ hk => hk) trivial (Below.refl _ _) (Nat.le_refl _) (by simp) ?_; (case hd => rfl); (case hg => rfl); (case hr => first | (go_simp; done) | (go_simp; rfl)); (case hp => exact (Reps.one (show Kd.M (Kd.int .i64) _ _ _ 0 [.int .i64 0] from rfl) (Reps.one (show Kd.M (Kd.int .i64) _ _ _ 0 [.int .i64 0] from rfl) (Reps.one (show Kd.M (Kd.int .i64) _ _ _ 3 [.int .i64 3] from rfl) (Reps.none _ _))))); intro v260 w21 ho22 hb hg_ hnew_; clear hg_ hnew_; (first | rw [← Ny259.out] at ho22 | (simp only [Int.reduceToNat] at ho22; rw [← Ny259.out] at ho22)); have n0_ := Aside0.mk (Kd.R_below (by (with_reducible repeat (first | apply Kd.R_alloc | apply Kd.R_drewN | apply Kd.R_drew)); exact HO251.out) hb); have n1_ := Aside0.mk (Kd.R_elder' (by (with_reducible repeat (first | apply Kd.R_alloc | apply Kd.R_drewN | apply Kd.R_drew)); exact HO255.out) (Kd.R_base ho22) hb); have n2_ := Aside0.mk (Kd.R_below (by (with_reducible repeat (first | apply Kd.R_alloc | apply Kd.R_drewN | apply Kd.R_drew)); exact HO258.out) hb); have n3_ := Aside0.mk (Kd.R_lower (Kd.R_new' ho22 (Kd.R_lt (by (with_reducible repeat (first | apply Kd.R_alloc | apply Kd.R_drewN | apply Kd.R_drew)); exact HO255.out))) (below_size (by repeat (first | (with_reducible first | exact HB.out | apply below_alloc | apply pw_below_drewN | apply below_drew1) | exact HB.out)))); have n4_ := Aside0.mk (below_step (by repeat (first | (with_reducible first | exact HB.out | apply below_alloc | apply pw_below_drewN | apply below_drew1) | exact HB.out)) hb); clear HO251; clear HO255; clear HO258; clear HB; have HO251 := n0_; have HO255 := n1_; have HO258 := n2_; have HO261 := n3_; have HB := n4_; clear n0_ n1_ n2_ n3_ n4_; clear hb ho22; obtain ⟨Ao23, co23, eo23⟩ := Kd.R_slice HO258.out; subst eo23; obtain ⟨Ao24, co24, eo24⟩ := Kd.R_slice HO261.out; subst eo24) | ((with_reducible refine gate_callee (f := 21) rfl ?_); refine goesL_ (some 19) rfl rfl Try.func21 (by kernel_rfl) rfl #[.slice Ao23 t256.length co23, .slice Ao24 y259.length co24] rfl (by (try simp only [List.map_toArray, List.map_cons, List.map_nil]); first | done | rfl | (simp only [List.length_drop, List.length_take]; rfl)) ?_; (with_reducible refine (weigh_Heavy.calls k _ _ t256 _ _ y259 t262 t263 _ ?side1 ?side2 ?side3 ?side4 A4.out).mono ?_); (case side1 => repeat (first | exact (Kd.R_reads' HO258.out).2.2 | (with_reducible refine Kd.C_alloc ?_ _) | (with_reducible refine Kd.C_drewN ?_ _) | (with_reducible refine Kd.C_drew ?_))); (case side2 => exact (Kd.R_reads' HO258.out).2.1); (case side3 => repeat (first | exact (Kd.R_reads' HO261.out).2.2 | (with_reducible refine Kd.C_alloc ?_ _) | (with_reducible refine Kd.C_drewN ?_ _) | (with_reducible refine Kd.C_drew ?_))); (case side4 => exact (Kd.R_reads' HO261.out).2.1); rintro e w25 ⟨v264, rfl, ho0, hb⟩; refine ⟨_, rfl, ?_⟩; have n0_ := Aside0.mk (Kd.R_elder' (by (with_reducible repeat (first | apply Kd.R_alloc | apply Kd.R_drewN | apply Kd.R_drew)); exact HO251.out) (Kd.R_base ho0) hb); have n1_ := Aside0.mk (Kd.R_below (by (with_reducible repeat (first | apply Kd.R_alloc | apply Kd.R_drewN | apply Kd.R_drew)); exact HO255.out) hb); have n2_ := Aside0.mk (Kd.R_elder' (by (with_reducible repeat (first | apply Kd.R_alloc | apply Kd.R_drewN | apply Kd.R_drew)); exact HO258.out) (Kd.R_base ho0) hb); have n3_ := Aside0.mk (Kd.R_below (by (with_reducible repeat (first | apply Kd.R_alloc | apply Kd.R_drewN | apply Kd.R_drew)); exact HO261.out) hb); have n4_ := Aside0.mk (Kd.R_lower (Kd.R_new' (Kd.R_new' ho0 (Kd.R_lt (by (with_reducible repeat (first | apply Kd.R_alloc | apply Kd.R_drewN | apply Kd.R_drew)); exact HO251.out))) (Kd.R_lt (by (with_reducible repeat (first | apply Kd.R_alloc | apply Kd.R_drewN | apply Kd.R_drew)); exact HO258.out))) (below_size (by repeat (first | (with_reducible first | exact HB.out | apply below_alloc | apply pw_below_drewN | apply below_drew1) | exact HB.out)))); have n5_ := Aside0.mk (below_step (by repeat (first | (with_reducible first | exact HB.out | apply below_alloc | apply pw_below_drewN | apply below_drew1) | exact HB.out)) hb); clear HO251; clear HO255; clear HO258; clear HO261; clear HB; have HO251 := n0_; have HO255 := n1_; have HO258 := n2_; have HO261 := n3_; have HO265 := n4_; have HB := n5_; clear n0_ n1_ n2_ n3_ n4_ n5_; (try clear hb); (try clear hb2); (try clear hk); (try clear hi); (try clear ho0); obtain ⟨Ao26, co26, eo26⟩ := Kd.R_slice HO265.out; subst eo26) | ((with_reducible refine gate_callee (f := 15) rfl ?_); refine goesL_ (some 24) rfl rfl Try.func15 (by kernel_rfl) rfl #[.slice Ao26 t262.length co26] rfl (by (try simp only [List.map_toArray, List.map_cons, List.map_nil]); first | done | rfl | (simp only [List.length_drop, List.length_take]; rfl)) ?_; (with_reducible refine (weigh_Violations.calls k _ _ t262 t266 t267 _ ?side1 ?side2 A5.out).mono ?_); (case side1 => repeat (first | exact (Kd.R_reads' HO265.out).2.2 | (with_reducible refine Kd.C_alloc ?_ _) | (with_reducible refine Kd.C_drewN ?_ _) | (with_reducible refine Kd.C_drew ?_))); (case side2 => exact (Kd.R_reads' HO265.out).2.1); rintro e w27 ⟨rfl, hb⟩; refine ⟨_, rfl, ?_⟩; have n0_ := Aside0.mk (Kd.R_below (by (with_reducible repeat (first | apply Kd.R_alloc | apply Kd.R_drewN | apply Kd.R_drew)); exact HO251.out) hb); have n1_ := Aside0.mk (Kd.R_below (by (with_reducible repeat (first | apply Kd.R_alloc | apply Kd.R_drewN | apply Kd.R_drew)); exact HO255.out) hb); have n2_ := Aside0.mk (Kd.R_below (by (with_reducible repeat (first | apply Kd.R_alloc | apply Kd.R_drewN | apply Kd.R_drew)); exact HO258.out) hb); have n3_ := Aside0.mk (Kd.R_below (by (with_reducible repeat (first | apply Kd.R_alloc | apply Kd.R_drewN | apply Kd.R_drew)); exact HO261.out) hb); have n4_ := Aside0.mk (Kd.R_below (by (with_reducible repeat (first | apply Kd.R_alloc | apply Kd.R_drewN | apply Kd.R_drew)); exact HO265.out) hb); have n5_ := Aside0.mk (below_step (by repeat (first | (with_reducible first | exact HB.out | apply below_alloc | apply pw_below_drewN | apply below_drew1) | exact HB.out)) hb); clear HO251; clear HO255; clear HO258; clear HO261; clear HO265; clear HB; have HO251 := n0_; have HO255 := n1_; have HO258 := n2_; have HO261 := n3_; have HO265 := n4_; have HB := n5_; clear n0_ n1_ n2_ n3_ n4_ n5_; (try clear hb); (try clear hb2); (try clear hk); (try clear hi)) | ((with_reducible refine gate_callee (f := 17) rfl ?_); refine goesL_ (some 29) rfl rfl Try.func17 (by kernel_rfl) rfl #[.slice Ao26 t262.length co26, .int .i64 9] rfl (by (try simp only [List.map_toArray, List.map_cons, List.map_nil]); first | done | rfl | (simp only [List.length_drop, List.length_take]; rfl)) ?_; (with_reducible refine (weigh_First.calls k _ _ t262 9 t268 t269 _ ?side1 ?side2 A6.out).mono ?_); (case side1 => repeat (first | exact (Kd.R_reads' HO265.out).2.2 | (with_reducible refine Kd.C_alloc ?_ _) | (with_reducible refine Kd.C_drewN ?_ _) | (with_reducible refine Kd.C_drew ?_))); (case side2 => exact (Kd.R_reads' HO265.out).2.1); rintro e w28 ⟨rfl, hb⟩; refine ⟨_, rfl, ?_⟩; have n0_ := Aside0.mk (Kd.R_below (by (with_reducible repeat (first | apply Kd.R_alloc | apply Kd.R_drewN | apply Kd.R_drew)); exact HO251.out) hb); have n1_ := Aside0.mk (Kd.R_below (by (with_reducible repeat (first | apply Kd.R_alloc | apply Kd.R_drewN | apply Kd.R_drew)); exact HO255.out) hb); have n2_ := Aside0.mk (Kd.R_below (by (with_reducible repeat (first | apply Kd.R_alloc | apply Kd.R_drewN | apply Kd.R_drew)); exact HO258.out) hb); have n3_ := Aside0.mk (Kd.R_below (by (with_reducible repeat (first | apply Kd.R_alloc | apply Kd.R_drewN | apply Kd.R_drew)); exact HO261.out) hb); have n4_ := Aside0.mk (Kd.R_below (by (with_reducible repeat (first | apply Kd.R_alloc | apply Kd.R_drewN | apply Kd.R_drew)); exact HO265.out) hb); have n5_ := Aside0.mk (below_step (by repeat (first | (with_reducible first | exact HB.out | apply below_alloc | apply pw_below_drewN | apply below_drew1) | exact HB.out)) hb); clear HO251; clear HO255; clear HO258; clear HO261; clear HO265; clear HB; have HO251 := n0_; have HO255 := n1_; have HO258 := n2_; have HO261 := n3_; have HO265 := n4_; have HB := n5_; clear n0_ n1_ n2_ n3_ n4_ n5_; (try clear hb); (try clear hb2); (try clear hk); (try clear hi)) | ((with_reducible refine gate_callee (f := 40) rfl ?_); refine goesL_ (some 33) rfl rfl Try.func40 (by kernel_rfl) rfl #[.int .i64 7] rfl (by (try simp only [List.map_toArray, List.map_cons, List.map_nil]); first | done | rfl | (simp only [List.length_drop, List.length_take]; rfl)) ?_; (with_reducible refine (weigh_Bound.calls 7 t270 t271 _ A7.out).mono ?_); rintro e w' ⟨rfl, ⟨nd, rfl⟩⟩; refine ⟨_, rfl, ?_⟩) | ((with_reducible refine gate_dst (N := 40) rfl ?_); (try (refine gate_guard (by rfl) ?_; dsimp only)); refine Kd.R_lit (Kd.int .i64) _ 3 ?hg (N := 40) ?hd (xs := ([2, 2] : List Int)) (inner := [.int .i64 2, .int .i64 2]) (ok := fun _ => True) (okp := fun _ => True) ?hr ?hp (fun _ hk => hk) trivial (Below.refl _ _) (Nat.le_refl _) (by simp) ?_; (case hd => rfl); (case hg => rfl); (case hr => first | (go_simp; done) | (go_simp; rfl)); (case hp => exact (Reps.one (show Kd.M (Kd.int .i64) _ _ _ 2 [.int .i64 2] from rfl) (Reps.one (show Kd.M (Kd.int .i64) _ _ _ 2 [.int .i64 2] from rfl) (Reps.none _ _)))); intro v273 w29 ho30 hb hg_ hnew_; clear hg_ hnew_; (first | rw [← Ny272.out] at ho30 | (simp only [Int.reduceToNat] at ho30; rw [← Ny272.out] at ho30)); have n0_ := Aside0.mk (Kd.R_below (by (with_reducible repeat (first | apply Kd.R_alloc | apply Kd.R_drewN | apply Kd.R_drew)); exact HO251.out) hb); have n1_ := Aside0.mk (Kd.R_elder' (by (with_reducible repeat (first | apply Kd.R_alloc | apply Kd.R_drewN | apply Kd.R_drew)); exact HO255.out) (Kd.R_base ho30) hb); have n2_ := Aside0.mk (Kd.R_below (by (with_reducible repeat (first | apply Kd.R_alloc | apply Kd.R_drewN | apply Kd.R_drew)); exact HO258.out) hb); have n3_ := Aside0.mk (Kd.R_elder' (by (with_reducible repeat (first | apply Kd.R_alloc | apply Kd.R_drewN | apply Kd.R_drew)); exact HO261.out) (Kd.R_base ho30) hb); have n4_ := Aside0.mk (Kd.R_below (by (with_reducible repeat (first | apply Kd.R_alloc | apply Kd.R_drewN | apply Kd.R_drew)); exact HO265.out) hb); have n5_ := Aside0.mk (Kd.R_lower (Kd.R_new' (Kd.R_new' ho30 (Kd.R_lt (by (with_reducible repeat (first | apply Kd.R_alloc | apply Kd.R_drewN | apply Kd.R_drew)); exact HO255.out))) (Kd.R_lt (by (with_reducible repeat (first | apply Kd.R_alloc | apply Kd.R_drewN | apply Kd.R_drew)); exact HO261.out))) (below_size (by repeat (first | (with_reducible first | exact HB.out | apply below_alloc | apply pw_below_drewN | apply below_drew1) | exact HB.out)))); have n6_ := Aside0.mk (below_step (by repeat (first | (with_reducible first | exact HB.out | apply below_alloc | apply pw_below_drewN | apply below_drew1) | exact HB.out)) hb); clear HO251; clear HO255; clear HO258; clear HO261; clear HO265; clear HB; have HO251 := n0_; have HO255 := n1_; have HO258 := n2_; have HO261 := n3_; have HO265 := n4_; have HO274 := n5_; have HB := n6_; clear n0_ n1_ n2_ n3_ n4_ n5_ n6_; clear hb ho30; obtain ⟨Ao31, co31, eo31⟩ := Kd.R_slice HO255.out; subst eo31; obtain ⟨Ao32, co32, eo32⟩ := Kd.R_slice HO274.out; subst eo32) | (go_at_call 12; (with_reducible refine (larchref17_SameInts.calls k _ _ t252 _ _ y272 true _ ?side1 ?side2 ?side3 ?side4 A9.out).mono ?_); (case side1 => repeat (first | exact (Kd.R_reads' HO255.out).2.2 | (with_reducible refine Kd.C_alloc ?_ _) | (with_reducible refine Kd.C_drewN ?_ _) | (with_reducible refine Kd.C_drew ?_))); (case side2 => exact (Kd.R_reads' HO255.out).2.1); (case side3 => repeat (first | exact (Kd.R_reads' HO274.out).2.2 | (with_reducible refine Kd.C_alloc ?_ _) | (with_reducible refine Kd.C_drewN ?_ _) | (with_reducible refine Kd.C_drew ?_))); (case side4 => exact (Kd.R_reads' HO274.out).2.1); rintro e w' ⟨rfl, ⟨nd, rfl⟩⟩))
         go_ret
         exact ⟨by first | rfl | (simp [errW_none, errW_some] <;> rfl) | (simp [*, errW_none, errW_some] <;> rfl), by repeat (first | (with_reducible first | exact HB.out | apply below_alloc | apply pw_below_drewN | apply below_drew1) | exact HB.out)⟩
        ·
         rw [if_neg c16] at H
         exact absurd H (by simp)
       ·
        rw [if_neg c15] at H
        exact absurd H (by simp)
      ·
       rw [if_neg c14] at H
       exact absurd H (by simp)
     ·
      rw [if_neg c13] at H
      exact absurd H (by simp)
    ·
     rw [if_neg c12] at H
     exact absurd H (by simp)
   ·
    rw [if_neg c11] at H
    exact absurd H (by simp)
  ·
   replace c10 := Bool.eq_false_iff.mpr c10
   subst c10
   have H1 : (none) = some r := by rw [if_neg (show ¬ (false = true) by decide)] at H; exact H
   clear H
   have H := H1
   clear H1
   exact absurd H (by simp)
 ·
  rw [if_neg c8] at H
  exact absurd H (by simp)
end Go.Proofs.Ytmmjkebboonnkaa.P
/- F49 -/
namespace Go.Proofs.Ytmmjkebboonnkaa.P
open Go.RowKit Go.Proofs.YtmmjkebboonnkaaW.PrintWords Go.Proofs.YtmmjkebboonnkaaW.PrintLast Go.Proofs.YtmmjkebboonnkaaW.PrintMore
attribute [local go_sem] max2_int min2_int max_two min_two max_three min_three max_four min_four   -- for this text's walks alone
set_option linter.unusedVariables false
set_option linter.unusedSimpArgs false
mutual
def larchlaw17_WeighHeavy.j0 : Nat → List (S49) → Bool → List (S49) → List Int → Int → Int → Option (Bool)
 | 0, _, _, _, _, _, _ => none
 | k + 1, x3, x41, x541000, x541001, x541002, x541003 => if x41 = true then (none) else ((larchlaw17_copied.f x541000).bind fun t557 => ((weigh_Sums.f k t557).bind fun bt560 => (if bt560.2 = 0 then ((larchref17_Root.f k x541000).bind fun bt564 => (if bt564.1 ≥ 0 then ((larchref17_Order.f k x541000 bt564.1).bind fun t566 => (larchlaw17_WeighHeavy.l0 k ([] : List Int) t566 0 x541000 x541001 x541002 x541003)) else (larchlaw17_WeighHeavy.j2 k ([] : List Int) x541000 x541001 x541002 x541003))) else (if (x3.length : Int) = 0 then (some ((bt560.1.length : Int) == 0)) else (none)))))
def larchlaw17_WeighHeavy.j2 : Nat → List Int → List (S49) → List Int → Int → Int → Option (Bool)
 | 0, _, _, _, _, _ => none
 | k + 1, x10, x541000, x541001, x541002, x541003 => (larchlaw17_copied.f x541000).bind fun t574 => ((weigh_Heavy.f k t574 x10).bind fun bt577 => (if bt577.2 = 0 then ((larchref17_Norm.f k x541000).bind fun t581 => ((larchref17_Same.f k bt577.1 t581).bind fun t584 => (some t584))) else (none)))
def larchlaw17_WeighHeavy.l0 : Nat → List Int → List Int → Int → List (S49) → List Int → Int → Int → Option (Bool)
 | 0, _, _, _, _, _, _, _ => none
 | k + 1, x10, x11, x12, x541000, x541001, x541002, x541003 => if x12 < (x11.length : Int) then (if 0 ≤ x12 then (if 0 ≤ (rd x11 x12) then (if (rd x11 x12) < (x541000.length : Int) then (if x10.length < 17592186044416 then (larchlaw17_WeighHeavy.l0 k (x10 ++ [(rd_T49 x541000 (rd x11 x12)).f2]) x11 (wrap64 (x12 + 1)) x541000 x541001 x541002 x541003) else (none)) else (none)) else (none)) else (none)) else (larchlaw17_WeighHeavy.j2 k x10 x541000 x541001 x541002 x541003)
end
def larchlaw17_WeighHeavy.f (k : Nat) (l0_0 : List (S49)) (l0_1 : List Int) (a0_2 : Int) (a0_3 : Int) : Option (Bool) := (larchlaw17_fixed.f k).bind fun t541 => (if t541 = true then ((larchlaw17_copied.f l0_0).bind fun t542 => ((larchlaw17_ints.f l0_1).bind fun t545 => ((weigh_Heavy.f k t542 t545).bind fun bt548 => ((larchref17_Heavy.f k l0_0 l0_1).bind fun bt552 => (if bt548.2 = bt552.2 then ((larchref17_Same.f k bt548.1 bt552.1).bind fun t556 => (larchlaw17_WeighHeavy.j0 k bt548.1 (!t556) l0_0 l0_1 a0_2 a0_3)) else (larchlaw17_WeighHeavy.j0 k bt548.1 true l0_0 l0_1 a0_2 a0_3)))))) else (none))
theorem larchlaw17_WeighHeavy.mono_l : ∀ k, (∀ y0 y1 y2 y3 y4 y5, LeO (larchlaw17_WeighHeavy.j0 k y0 y1 y2 y3 y4 y5) (larchlaw17_WeighHeavy.j0 (k + 1) y0 y1 y2 y3 y4 y5)) ∧ (∀ y0 y1 y2 y3 y4, LeO (larchlaw17_WeighHeavy.j2 k y0 y1 y2 y3 y4) (larchlaw17_WeighHeavy.j2 (k + 1) y0 y1 y2 y3 y4)) ∧ (∀ y0 y1 y2 y3 y4 y5 y6, LeO (larchlaw17_WeighHeavy.l0 k y0 y1 y2 y3 y4 y5 y6) (larchlaw17_WeighHeavy.l0 (k + 1) y0 y1 y2 y3 y4 y5 y6))
 | 0 => ⟨fun _ _ _ _ _ _ r h => by simp [larchlaw17_WeighHeavy.j0] at h, fun _ _ _ _ _ r h => by simp [larchlaw17_WeighHeavy.j2] at h, fun _ _ _ _ _ _ _ r h => by simp [larchlaw17_WeighHeavy.l0] at h⟩
 | k + 1 => by
  obtain ⟨ih0, ih1, ih2⟩ := larchlaw17_WeighHeavy.mono_l k
  refine ⟨?_, ?_, ?_⟩
  ·
   intro y0 y1 y2 y3 y4 y5
   unfold larchlaw17_WeighHeavy.j0
   repeat' first
   | (with_reducible exact ih0 _ _ _ _ _ _)
   | (with_reducible exact ih1 _ _ _ _ _)
   | (with_reducible exact ih2 _ _ _ _ _ _ _)
   | (with_reducible exact larchlaw17_fixed.mono _)
   | (with_reducible exact larchref17_Heavy.mono _ _ _)
   | (with_reducible exact larchref17_Norm.mono _ _)
   | (with_reducible exact larchref17_Order.mono _ _ _)
   | (with_reducible exact larchref17_Root.mono _ _)
   | (with_reducible exact larchref17_Same.mono _ _ _)
   | (with_reducible exact weigh_Heavy.mono _ _ _)
   | (with_reducible exact weigh_Sums.mono _ _)
   | (with_reducible exact LeO.refl _)
   | (with_reducible exact LeO.none _)
   | (with_reducible refine LeO.ite ?_ ?_)
   | (with_reducible refine LeO.bind ?_ (fun _ => ?_))
   | exact ih0 _ _ _ _ _ _
   | exact ih1 _ _ _ _ _
   | exact ih2 _ _ _ _ _ _ _
   | exact larchlaw17_fixed.mono _
   | exact larchref17_Heavy.mono _ _ _
   | exact larchref17_Norm.mono _ _
   | exact larchref17_Order.mono _ _ _
   | exact larchref17_Root.mono _ _
   | exact larchref17_Same.mono _ _ _
   | exact weigh_Heavy.mono _ _ _
   | exact weigh_Sums.mono _ _
   | exact LeO.none _
   | refine LeO.ite ?_ ?_
   | refine LeO.bind ?_ (fun _ => ?_)
  ·
   intro y0 y1 y2 y3 y4
   unfold larchlaw17_WeighHeavy.j2
   repeat' first
   | (with_reducible exact ih0 _ _ _ _ _ _)
   | (with_reducible exact ih1 _ _ _ _ _)
   | (with_reducible exact ih2 _ _ _ _ _ _ _)
   | (with_reducible exact larchlaw17_fixed.mono _)
   | (with_reducible exact larchref17_Heavy.mono _ _ _)
   | (with_reducible exact larchref17_Norm.mono _ _)
   | (with_reducible exact larchref17_Order.mono _ _ _)
   | (with_reducible exact larchref17_Root.mono _ _)
   | (with_reducible exact larchref17_Same.mono _ _ _)
   | (with_reducible exact weigh_Heavy.mono _ _ _)
   | (with_reducible exact weigh_Sums.mono _ _)
   | (with_reducible exact LeO.refl _)
   | (with_reducible exact LeO.none _)
   | (with_reducible refine LeO.ite ?_ ?_)
   | (with_reducible refine LeO.bind ?_ (fun _ => ?_))
   | exact ih0 _ _ _ _ _ _
   | exact ih1 _ _ _ _ _
   | exact ih2 _ _ _ _ _ _ _
   | exact larchlaw17_fixed.mono _
   | exact larchref17_Heavy.mono _ _ _
   | exact larchref17_Norm.mono _ _
   | exact larchref17_Order.mono _ _ _
   | exact larchref17_Root.mono _ _
   | exact larchref17_Same.mono _ _ _
   | exact weigh_Heavy.mono _ _ _
   | exact weigh_Sums.mono _ _
   | exact LeO.none _
   | refine LeO.ite ?_ ?_
   | refine LeO.bind ?_ (fun _ => ?_)
  ·
   intro y0 y1 y2 y3 y4 y5 y6
   unfold larchlaw17_WeighHeavy.l0
   repeat' first
   | (with_reducible exact ih0 _ _ _ _ _ _)
   | (with_reducible exact ih1 _ _ _ _ _)
   | (with_reducible exact ih2 _ _ _ _ _ _ _)
   | (with_reducible exact larchlaw17_fixed.mono _)
   | (with_reducible exact larchref17_Heavy.mono _ _ _)
   | (with_reducible exact larchref17_Norm.mono _ _)
   | (with_reducible exact larchref17_Order.mono _ _ _)
   | (with_reducible exact larchref17_Root.mono _ _)
   | (with_reducible exact larchref17_Same.mono _ _ _)
   | (with_reducible exact weigh_Heavy.mono _ _ _)
   | (with_reducible exact weigh_Sums.mono _ _)
   | (with_reducible exact LeO.refl _)
   | (with_reducible exact LeO.none _)
   | (with_reducible refine LeO.ite ?_ ?_)
   | (with_reducible refine LeO.bind ?_ (fun _ => ?_))
   | exact ih0 _ _ _ _ _ _
   | exact ih1 _ _ _ _ _
   | exact ih2 _ _ _ _ _ _ _
   | exact larchlaw17_fixed.mono _
   | exact larchref17_Heavy.mono _ _ _
   | exact larchref17_Norm.mono _ _
   | exact larchref17_Order.mono _ _ _
   | exact larchref17_Root.mono _ _
   | exact larchref17_Same.mono _ _ _
   | exact weigh_Heavy.mono _ _ _
   | exact weigh_Sums.mono _ _
   | exact LeO.none _
   | refine LeO.ite ?_ ?_
   | refine LeO.bind ?_ (fun _ => ?_)
theorem larchlaw17_WeighHeavy.mono : ∀ a0 a1 a2 a3 k, LeO (larchlaw17_WeighHeavy.f k a0 a1 a2 a3) (larchlaw17_WeighHeavy.f (k + 1) a0 a1 a2 a3) := by
 intro a0 a1 a2 a3 k
 obtain ⟨ih0, ih1, ih2⟩ := larchlaw17_WeighHeavy.mono_l k
 unfold larchlaw17_WeighHeavy.f
 repeat' first
   | (with_reducible exact ih0 _ _ _ _ _ _)
   | (with_reducible exact ih1 _ _ _ _ _)
   | (with_reducible exact ih2 _ _ _ _ _ _ _)
   | (with_reducible exact larchlaw17_fixed.mono _)
   | (with_reducible exact larchref17_Heavy.mono _ _ _)
   | (with_reducible exact larchref17_Norm.mono _ _)
   | (with_reducible exact larchref17_Order.mono _ _ _)
   | (with_reducible exact larchref17_Root.mono _ _)
   | (with_reducible exact larchref17_Same.mono _ _ _)
   | (with_reducible exact weigh_Heavy.mono _ _ _)
   | (with_reducible exact weigh_Sums.mono _ _)
   | (with_reducible exact LeO.refl _)
   | (with_reducible exact LeO.none _)
   | (with_reducible refine LeO.ite ?_ ?_)
   | (with_reducible refine LeO.bind ?_ (fun _ => ?_))
   | exact ih0 _ _ _ _ _ _
   | exact ih1 _ _ _ _ _
   | exact ih2 _ _ _ _ _ _ _
   | exact larchlaw17_fixed.mono _
   | exact larchref17_Heavy.mono _ _ _
   | exact larchref17_Norm.mono _ _
   | exact larchref17_Order.mono _ _ _
   | exact larchref17_Root.mono _ _
   | exact larchref17_Same.mono _ _ _
   | exact weigh_Heavy.mono _ _ _
   | exact weigh_Sums.mono _ _
   | exact LeO.none _
   | refine LeO.ite ?_ ?_
   | refine LeO.bind ?_ (fun _ => ?_)
def larchlaw17_WeighHeavy.T3 : Bool × List (List Nat × List Nat) := (true, [([], []), ([0], [0]), ([1], [1]), ([], []), ([3], [3]), ([4, 2], [4]), ([2, 5, 5], [2, 5]), ([6], [6]), ([7], [7]), ([7], [7]), ([8, 6, 0, 1, 2, 3, 4, 5, 6, 7, 8], [8]), ([9, 10, 0, 1, 2, 3, 4, 5, 6, 7, 8, 9, 10], [9])])
def larchlaw17_WeighHeavy.B3 : List Nat := [0, 1, 3, 0, 8, 31, 63, 127, 255, 255, 511, 2047]
theorem larchlaw17_WeighHeavy.tab3 : rtab .any (opsOf Try.f4 3) = larchlaw17_WeighHeavy.T3 := by kernel_rfl
theorem larchlaw17_WeighHeavy.bits3 : waitsOk larchlaw17_WeighHeavy.T3.2 larchlaw17_WeighHeavy.B3 = true := by kernel_rfl
def larchlaw17_WeighHeavy.T17 : Bool × List (List Nat × List Nat) := (true, [([], []), ([], []), ([1], [1]), ([], []), ([], []), ([3, 4], [3, 4]), ([5], [5]), ([2, 6], [2, 6]), ([7], [7]), ([8], [8]), ([9], [9]), ([0, 10], [0, 10]), ([11, 11, 0, 1, 2, 3, 4, 5, 6, 7, 8, 9, 10, 11], [0, 11])])
def larchlaw17_WeighHeavy.B17 : List Nat := [0, 0, 2, 0, 0, 24, 56, 126, 254, 510, 1022, 2047, 4095]
theorem larchlaw17_WeighHeavy.tab17 : rtab .any (opsOf Try.f4 17) = larchlaw17_WeighHeavy.T17 := by kernel_rfl
theorem larchlaw17_WeighHeavy.bits17 : waitsOk larchlaw17_WeighHeavy.T17.2 larchlaw17_WeighHeavy.B17 = true := by kernel_rfl
set_option maxHeartbeats 8000000 in
set_option maxRecDepth 100000 in
theorem larchlaw17_WeighHeavy.calls (k : Nat) (A0_0 : Option Addr) (c0_0 : Nat) (l0_0 : List (S49)) (A0_1 : Option Addr) (c0_1 : Nat) (l0_1 : List Int) (a0_2 : Int) (a0_3 : Int) (r : Bool) (w : World) (hr0_0 : Kd.C k49 w A0_0 l0_0.length l0_0) (hc0_0 : l0_0.length ≤ c0_0) (hr0_1 : Kd.C (Kd.int .i64) w A0_1 l0_1.length l0_1) (hc0_1 : l0_1.length ≤ c0_1) (h : larchlaw17_WeighHeavy.f k l0_0 l0_1 a0_2 a0_3 = some r) :
  Calls Try.prog 4 #[.agg #[.slice A0_0 l0_0.length c0_0, .slice A0_1 l0_1.length c0_1, .int .i64 a0_2, .int .i64 a0_3]] w fun e w' => e = .returned (.bool r) ∧ Below w.heap.size w w' := by
 have hu25 := Try.underlying25
 have HR0_0 := Aside0.mk hr0_0
 have HC0_0 := Aside0.mk hc0_0
 clear hr0_0 hc0_0
 have HR0_1 := Aside0.mk hr0_1
 have HC0_1 := Aside0.mk hc0_1
 clear hr0_1 hc0_1
 have HB := Aside0.mk (Below.refl w.heap.size w)
 have H : ((larchlaw17_fixed.f k).bind fun t541 => (if t541 = true then ((larchlaw17_copied.f l0_0).bind fun t542 => ((larchlaw17_ints.f l0_1).bind fun t545 => ((weigh_Heavy.f k t542 t545).bind fun bt548 => ((larchref17_Heavy.f k l0_0 l0_1).bind fun bt552 => (if bt548.2 = bt552.2 then ((larchref17_Same.f k bt548.1 bt552.1).bind fun t556 => (larchlaw17_WeighHeavy.j0 k bt548.1 (!t556) l0_0 l0_1 a0_2 a0_3)) else (larchlaw17_WeighHeavy.j0 k bt548.1 true l0_0 l0_1 a0_2 a0_3)))))) else (none))) = some r := h
 clear h
 replace H := Option.bind_eq_some_iff.mp H
 obtain ⟨t541, A20, H⟩ := H
 replace H : (if t541 = true then ((larchlaw17_copied.f l0_0).bind fun t542 => ((larchlaw17_ints.f l0_1).bind fun t545 => ((weigh_Heavy.f k t542 t545).bind fun bt548 => ((larchref17_Heavy.f k l0_0 l0_1).bind fun bt552 => (if bt548.2 = bt552.2 then ((larchref17_Same.f k bt548.1 bt552.1).bind fun t556 => (larchlaw17_WeighHeavy.j0 k bt548.1 (!t556) l0_0 l0_1 a0_2 a0_3)) else (larchlaw17_WeighHeavy.j0 k bt548.1 true l0_0 l0_1 a0_2 a0_3)))))) else (none)) = some r := H
 have A2 := Aside0.mk A20
 clear A20
 by_cases c3 : t541 = true
 ·
  subst c3
  have H1 : ((larchlaw17_copied.f l0_0).bind fun t542 => ((larchlaw17_ints.f l0_1).bind fun t545 => ((weigh_Heavy.f k t542 t545).bind fun bt548 => ((larchref17_Heavy.f k l0_0 l0_1).bind fun bt552 => (if bt548.2 = bt552.2 then ((larchref17_Same.f k bt548.1 bt552.1).bind fun t556 => (larchlaw17_WeighHeavy.j0 k bt548.1 (!t556) l0_0 l0_1 a0_2 a0_3)) else (larchlaw17_WeighHeavy.j0 k bt548.1 true l0_0 l0_1 a0_2 a0_3)))))) = some r := by rw [if_pos rfl] at H; exact H
  clear H
  have H := H1
  clear H1
  replace H := Option.bind_eq_some_iff.mp H
  obtain ⟨t542, A40, H⟩ := H
  replace H : ((larchlaw17_ints.f l0_1).bind fun t545 => ((weigh_Heavy.f k t542 t545).bind fun bt548 => ((larchref17_Heavy.f k l0_0 l0_1).bind fun bt552 => (if bt548.2 = bt552.2 then ((larchref17_Same.f k bt548.1 bt552.1).bind fun t556 => (larchlaw17_WeighHeavy.j0 k bt548.1 (!t556) l0_0 l0_1 a0_2 a0_3)) else (larchlaw17_WeighHeavy.j0 k bt548.1 true l0_0 l0_1 a0_2 a0_3))))) = some r := H
  have A4 := Aside0.mk A40
  clear A40
  replace H := Option.bind_eq_some_iff.mp H
  obtain ⟨t545, A50, H⟩ := H
  replace H : ((weigh_Heavy.f k t542 t545).bind fun bt548 => ((larchref17_Heavy.f k l0_0 l0_1).bind fun bt552 => (if bt548.2 = bt552.2 then ((larchref17_Same.f k bt548.1 bt552.1).bind fun t556 => (larchlaw17_WeighHeavy.j0 k bt548.1 (!t556) l0_0 l0_1 a0_2 a0_3)) else (larchlaw17_WeighHeavy.j0 k bt548.1 true l0_0 l0_1 a0_2 a0_3)))) = some r := H
  have A5 := Aside0.mk A50
  clear A50
  replace H := Option.bind_eq_some_iff.mp H
  obtain ⟨⟨t548, t549⟩, A60, H⟩ := H
  replace H : ((larchref17_Heavy.f k l0_0 l0_1).bind fun bt552 => (if t549 = bt552.2 then ((larchref17_Same.f k t548 bt552.1).bind fun t556 => (larchlaw17_WeighHeavy.j0 k t548 (!t556) l0_0 l0_1 a0_2 a0_3)) else (larchlaw17_WeighHeavy.j0 k t548 true l0_0 l0_1 a0_2 a0_3))) = some r := H
  have A6 := Aside0.mk A60
  clear A60
  replace H := Option.bind_eq_some_iff.mp H
  obtain ⟨⟨t552, t553⟩, A70, H⟩ := H
  replace H : (if t549 = t553 then ((larchref17_Same.f k t548 t552).bind fun t556 => (larchlaw17_WeighHeavy.j0 k t548 (!t556) l0_0 l0_1 a0_2 a0_3)) else (larchlaw17_WeighHeavy.j0 k t548 true l0_0 l0_1 a0_2 a0_3)) = some r := H
  have A7 := Aside0.mk A70
  clear A70
  have HC8 := Aside0.mk H
  clear H
  go_enter Try.func4, Try.ntmps4
  try go_wp2_with (first | ((with_reducible refine gate_dst (N := 1) rfl ?_); (try (refine gate_guard (by rfl) ?_; dsimp only)); refine box_event ?hg (N := 1) ?hd (cs := #[.slice A0_0 l0_0.length c0_0, .slice A0_1 l0_1.length c0_1, .int .i64 a0_2, .int .i64 a0_3]) (t := 25) ?hr ?_; (case hd => rfl); (case hg => rfl); (case hr => first | (go_simp; done) | (go_simp; rfl)); intro gb540 hg w9 hbox hb; have n0_ := Aside0.mk (below_step (by repeat (first | (with_reducible first | exact HB.out | apply below_alloc | apply pw_below_drewN | apply below_drew1) | exact HB.out)) hb); have n1_ := Aside0.mk (hbox); have n2_ := Aside0.mk ((by rw [hg]; exact (below_size (by repeat (first | (with_reducible first | exact HB.out | apply below_alloc | apply pw_below_drewN | apply below_drew1) | exact HB.out))) : w.heap.size ≤ gb540)); have n3_ := Aside0.mk ((by rw [hg]; exact (below_size (by repeat (first | (with_reducible first | exact HB.out | apply below_alloc | apply pw_below_drewN | apply below_drew1) | exact HB.out))) : w.heap.size ≤ gb540)); clear HB; have HB := n0_; have BK540 := n1_; have GW540 := n2_; have GE540 := n3_; clear n0_ n1_ n2_ n3_; clear hb hbox hg) | ((with_reducible refine gate_callee (f := 8) rfl ?_); refine goesL_ (some 13) rfl rfl Try.func8 (by kernel_rfl) rfl #[] rfl (by (try simp only [List.map_toArray, List.map_cons, List.map_nil]); first | done | rfl | (simp only [List.length_drop, List.length_take]; rfl)) ?_; (with_reducible refine (larchlaw17_fixed.calls k  true _ A2.out).mono ?_); rintro e w10 ⟨rfl, hb⟩; refine ⟨_, rfl, ?_⟩; have n0_ := Aside0.mk (blk_below (g := gb540) (o := .cells #[.slice A0_0 l0_0.length c0_0, .slice A0_1 l0_1.length c0_1, .int .i64 a0_2, .int .i64 a0_3] 25 (0, 0)) (by (with_reducible repeat (first | refine blk_drewN ?_ _ | refine blk_drew ?_ | refine blk_alloc ?_ _)); exact BK540.out) hb); have n1_ := Aside0.mk (below_step (by repeat (first | (with_reducible first | exact HB.out | apply below_alloc | apply pw_below_drewN | apply below_drew1 | refine below_set ?_ GE540.out) | exact HB.out)) hb); clear BK540; clear HB; have BK540 := n0_; have HB := n1_; clear n0_ n1_; (try clear hb); (try clear hb2); (try clear hk); (try clear hi)))
  have n0_ := Aside0.mk (blk_drew BK540.out)
  have n1_ := Aside0.mk (below_drew1 HB.out)
  clear BK540
  clear HB
  have BK540 := n0_
  have HB := n1_
  clear n0_ n1_
  refine start_ (n := 12) (S := fun w' => w'.cell? ⟨gb540, 0, none⟩ = some (.slice A0_0 l0_0.length c0_0) ∧ w'.cell? ⟨gb540, 1, none⟩ = some (.slice A0_1 l0_1.length c0_1) ∧ w'.cell? ⟨gb540, 2, none⟩ = some (.int .i64 a0_2) ∧ w'.cell? ⟨gb540, 3, none⟩ = some (.int .i64 a0_3)) (ds := []) #[false, false, false, false, false, false, false, false, false, false, false, false] (by kernel_rfl) rfl rfl ⟨(blk_cell BK540.out 0).trans rfl, (blk_cell BK540.out 1).trans rfl, (blk_cell BK540.out 2).trans rfl, (blk_cell BK540.out 3).trans rfl⟩ (fun hHeld => ?_); refine with_tabW larchlaw17_WeighHeavy.tab3 larchlaw17_WeighHeavy.bits3 (fun HT_ HW_ => ?_)
  generalize w10.drew = w11 at BK540 HB hHeld ⊢
  refine pure_ (i := 0) (N := some 16) (v := ?_) (a' := ?_) #[true, false, false, false, false, false, false, false, false, false, false, false] rfl rfl (any_of HT_.out (by kernel_rfl)) (fun _ _ _ h => h) (Or.inl ⟨by rfl, ?_⟩) ?_ ?_
  rotate_left
  ·
   intro w'
   go_simp
   with_reducible rfl
  rotate_left
  ·
   simp only [Act.put, List.setIfInBounds_toArray, List.set_cons_zero, List.set_cons_succ, i64_w, i32_w]
   rfl
  refine pure_ (i := 3) (N := some 19) (v := ?_) (a' := ?_) #[true, false, false, true, false, false, false, false, false, false, false, false] rfl rfl (any_of HT_.out (by kernel_rfl)) (fun _ _ _ h => h) (Or.inl ⟨by rfl, ?_⟩) ?_ ?_
  rotate_left
  ·
   intro w'
   go_simp
   with_reducible rfl
  rotate_left
  ·
   simp only [Act.put, List.setIfInBounds_toArray, List.set_cons_zero, List.set_cons_succ, i64_w, i32_w]
   rfl
  refine take_ (i := 1) (N := some 17) (v := ?_) (a' := ?_) #[true, true, false, true, false, false, false, false, false, false, false, false] rfl rfl (take_ofW HT_.out HW_.out (by kernel_rfl)) (fun _ _ _ h => h) (Or.inl ⟨by rfl, ?_⟩) hHeld ?_ ?_
  rotate_left
  ·
   rintro w' ⟨s0, s1, s2, s3⟩
   go_simp
   with_reducible rfl
  rotate_left
  ·
   simp only [Act.put, List.setIfInBounds_toArray, List.set_cons_zero, List.set_cons_succ, i64_w, i32_w]
   rfl
  refine take_ (i := 4) (N := some 20) (v := ?_) (a' := ?_) #[true, true, false, true, true, false, false, false, false, false, false, false] rfl rfl (take_ofW HT_.out HW_.out (by kernel_rfl)) (fun _ _ _ h => h) (Or.inl ⟨by rfl, ?_⟩) hHeld ?_ ?_
  rotate_left
  ·
   rintro w' ⟨s0, s1, s2, s3⟩
   go_simp
   with_reducible rfl
  rotate_left
  ·
   simp only [Act.put, List.setIfInBounds_toArray, List.set_cons_zero, List.set_cons_succ, i64_w, i32_w]
   rfl
  refine one_ (i := 2) (N := some 18) #[true, true, true, true, true, false, false, false, false, false, false, false] rfl rfl (one_of HT_.out (by kernel_rfl)) (by decide) (fun K hK => ?_)
  refine goes_ Try.func10 (by kernel_rfl) rfl #[.slice A0_0 l0_0.length c0_0] (by rfl) rfl rfl (by (try simp only [List.map_toArray, List.map_cons, List.map_nil]); first | done | rfl | (simp only [List.length_drop, List.length_take]; rfl)) ?_
  with_reducible refine (larchlaw17_copied.calls _ _ l0_0 t542 _ ?side1 ?side2 A4.out).mono ?_
  (case side1 => repeat (first | exact (Kd.C_below HR0_0.out HB.out) | (with_reducible refine Kd.C_alloc ?_ _) | (with_reducible refine Kd.C_drewN ?_ _) | (with_reducible refine Kd.C_drew ?_)))
  (case side2 => exact HC0_0.out)
  rintro e w12 ⟨v543, rfl, ho0, hb⟩
  refine ⟨_, rfl, ?_⟩
  have n0_ := Aside0.mk (Kd.R_lower ho0 (below_size (by repeat (first | (with_reducible first | exact HB.out | apply below_alloc | apply pw_below_drewN | apply below_drew1 | refine below_set ?_ GE540.out) | exact HB.out))))
  have n1_ := Aside0.mk (blk_below (g := gb540) (o := .cells #[.slice A0_0 l0_0.length c0_0, .slice A0_1 l0_1.length c0_1, .int .i64 a0_2, .int .i64 a0_3] 25 (0, 0)) (by (with_reducible repeat (first | refine blk_drewN ?_ _ | refine blk_drew ?_ | refine blk_alloc ?_ _)); exact BK540.out) hb)
  have n2_ := Aside0.mk (below_step (by repeat (first | (with_reducible first | exact HB.out | apply below_alloc | apply pw_below_drewN | apply below_drew1 | refine below_set ?_ GE540.out) | exact HB.out)) hb)
  clear BK540
  clear HB
  have HO544 := n0_
  have BK540 := n1_
  have HB := n2_
  clear n0_ n1_ n2_
  (try clear hb)
  (try clear hb2)
  (try clear hk)
  (try clear hi)
  (try clear ho0)
  refine hK.out _ _ ⟨(blk_cell BK540.out 0).trans rfl, (blk_cell BK540.out 1).trans rfl, (blk_cell BK540.out 2).trans rfl, (blk_cell BK540.out 3).trans rfl⟩ (fun hHeld => ?_)
  clear hK K
  refine norm_ (a' := ?_) ?_ ?_
  rotate_left
  ·
   show Act.put _ (some 18) _ = _
   simp only [Act.put, List.setIfInBounds_toArray, List.set_cons_zero, List.set_cons_succ, i64_w, i32_w]
   rfl
  refine one_ (i := 5) (N := some 21) #[true, true, true, true, true, true, false, false, false, false, false, false] rfl rfl (one_of HT_.out (by kernel_rfl)) (by decide) (fun K hK => ?_)
  refine goes_ Try.func22 (by kernel_rfl) rfl #[.slice A0_1 l0_1.length c0_1] (by rfl) rfl rfl (by (try simp only [List.map_toArray, List.map_cons, List.map_nil]); first | done | rfl | (simp only [List.length_drop, List.length_take]; rfl)) ?_
  with_reducible refine (larchlaw17_ints.calls _ _ l0_1 t545 _ ?side1 ?side2 A5.out).mono ?_
  (case side1 => repeat (first | exact (Kd.C_below HR0_1.out HB.out) | (with_reducible refine Kd.C_alloc ?_ _) | (with_reducible refine Kd.C_drewN ?_ _) | (with_reducible refine Kd.C_drew ?_)))
  (case side2 => exact HC0_1.out)
  rintro e w13 ⟨v546, rfl, ho0, hb⟩
  refine ⟨_, rfl, ?_⟩
  have n0_ := Aside0.mk (Kd.R_below (by (with_reducible repeat (first | apply Kd.R_alloc | apply Kd.R_drewN | apply Kd.R_drew)); exact HO544.out) hb)
  have n1_ := Aside0.mk (Kd.R_lower ho0 (below_size (by repeat (first | (with_reducible first | exact HB.out | apply below_alloc | apply pw_below_drewN | apply below_drew1 | refine below_set ?_ GE540.out) | exact HB.out))))
  have n2_ := Aside0.mk (blk_below (g := gb540) (o := .cells #[.slice A0_0 l0_0.length c0_0, .slice A0_1 l0_1.length c0_1, .int .i64 a0_2, .int .i64 a0_3] 25 (0, 0)) (by (with_reducible repeat (first | refine blk_drewN ?_ _ | refine blk_drew ?_ | refine blk_alloc ?_ _)); exact BK540.out) hb)
  have n3_ := Aside0.mk (below_step (by repeat (first | (with_reducible first | exact HB.out | apply below_alloc | apply pw_below_drewN | apply below_drew1 | refine below_set ?_ GE540.out) | exact HB.out)) hb)
  clear HO544
  clear BK540
  clear HB
  have HO544 := n0_
  have HO547 := n1_
  have BK540 := n2_
  have HB := n3_
  clear n0_ n1_ n2_ n3_
  (try clear hb)
  (try clear hb2)
  (try clear hk)
  (try clear hi)
  (try clear ho0)
  obtain ⟨Ao14, co14, eo14⟩ := Kd.R_slice HO544.out
  (first | subst eo14 | (injection eo14 with f1_ f2_ f3_; have f4_ := f1_.symm; have f5_ := f3_.symm; clear f1_ f2_ f3_; subst f4_; subst f5_))
  obtain ⟨Ao15, co15, eo15⟩ := Kd.R_slice HO547.out
  (first | subst eo15 | (injection eo15 with f1_ f2_ f3_; have f4_ := f1_.symm; have f5_ := f3_.symm; clear f1_ f2_ f3_; subst f4_; subst f5_))
  refine hK.out _ _ ⟨(blk_cell BK540.out 0).trans rfl, (blk_cell BK540.out 1).trans rfl, (blk_cell BK540.out 2).trans rfl, (blk_cell BK540.out 3).trans rfl⟩ (fun hHeld => ?_)
  clear hK K
  refine norm_ (a' := ?_) ?_ ?_
  rotate_left
  ·
   show Act.put _ (some 21) _ = _
   simp only [Act.put, List.setIfInBounds_toArray, List.set_cons_zero, List.set_cons_succ, i64_w, i32_w]
   rfl
  refine one_ (i := 6) (N := some 22) #[true, true, true, true, true, true, true, false, false, false, false, false] rfl rfl (one_of HT_.out (by kernel_rfl)) (by decide) (fun K hK => ?_)
  refine goes_ Try.func21 (by kernel_rfl) rfl #[.slice Ao14 t542.length co14, .slice Ao15 t545.length co15] (by rfl) rfl rfl (by (try simp only [List.map_toArray, List.map_cons, List.map_nil]); first | done | rfl | (simp only [List.length_drop, List.length_take]; rfl)) ?_
  with_reducible refine (weigh_Heavy.calls k _ _ t542 _ _ t545 t548 t549 _ ?side1 ?side2 ?side3 ?side4 A6.out).mono ?_
  (case side1 => repeat (first | exact (Kd.R_reads' HO544.out).2.2 | (with_reducible refine Kd.C_alloc ?_ _) | (with_reducible refine Kd.C_drewN ?_ _) | (with_reducible refine Kd.C_drew ?_)))
  (case side2 => exact (Kd.R_reads' HO544.out).2.1)
  (case side3 => repeat (first | exact (Kd.R_reads' HO547.out).2.2 | (with_reducible refine Kd.C_alloc ?_ _) | (with_reducible refine Kd.C_drewN ?_ _) | (with_reducible refine Kd.C_drew ?_)))
  (case side4 => exact (Kd.R_reads' HO547.out).2.1)
  rintro e w16 ⟨v550, rfl, ho0, hb⟩
  refine ⟨_, rfl, ?_⟩
  have n0_ := Aside0.mk (Kd.R_elder' (by (with_reducible repeat (first | apply Kd.R_alloc | apply Kd.R_drewN | apply Kd.R_drew)); exact HO544.out) (Kd.R_base ho0) hb)
  have n1_ := Aside0.mk (Kd.R_below (by (with_reducible repeat (first | apply Kd.R_alloc | apply Kd.R_drewN | apply Kd.R_drew)); exact HO547.out) hb)
  have n2_ := Aside0.mk (Kd.R_lower (Kd.R_new' ho0 (Kd.R_lt (by (with_reducible repeat (first | apply Kd.R_alloc | apply Kd.R_drewN | apply Kd.R_drew)); exact HO544.out))) (below_size (by repeat (first | (with_reducible first | exact HB.out | apply below_alloc | apply pw_below_drewN | apply below_drew1 | refine below_set ?_ GE540.out) | exact HB.out))))
  have n3_ := Aside0.mk (blk_below (g := gb540) (o := .cells #[.slice A0_0 l0_0.length c0_0, .slice A0_1 l0_1.length c0_1, .int .i64 a0_2, .int .i64 a0_3] 25 (0, 0)) (by (with_reducible repeat (first | refine blk_drewN ?_ _ | refine blk_drew ?_ | refine blk_alloc ?_ _)); exact BK540.out) hb)
  have n4_ := Aside0.mk (below_step (by repeat (first | (with_reducible first | exact HB.out | apply below_alloc | apply pw_below_drewN | apply below_drew1 | refine below_set ?_ GE540.out) | exact HB.out)) hb)
  clear HO544
  clear HO547
  clear BK540
  clear HB
  have HO544 := n0_
  have HO547 := n1_
  have HO551 := n2_
  have BK540 := n3_
  have HB := n4_
  clear n0_ n1_ n2_ n3_ n4_
  (try clear hb)
  (try clear hb2)
  (try clear hk)
  (try clear hi)
  (try clear ho0)
  refine hK.out _ _ ⟨(blk_cell BK540.out 0).trans rfl, (blk_cell BK540.out 1).trans rfl, (blk_cell BK540.out 2).trans rfl, (blk_cell BK540.out 3).trans rfl⟩ (fun hHeld => ?_)
  clear hK K
  refine norm_ (a' := ?_) ?_ ?_
  rotate_left
  ·
   show Act.put _ (some 22) _ = _
   simp only [Act.put, List.setIfInBounds_toArray, List.set_cons_zero, List.set_cons_succ, i64_w, i32_w]
   rfl
  refine pure_ (i := 7) (N := some 15) (v := ?_) (a' := ?_) #[true, true, true, true, true, true, true, true, false, false, false, false] rfl rfl (any_of HT_.out (by kernel_rfl)) (fun _ _ _ h => h) (Or.inl ⟨by rfl, ?_⟩) ?_ ?_
  rotate_left
  ·
   intro w'
   go_simp
   with_reducible rfl
  rotate_left
  ·
   simp only [Act.put, List.setIfInBounds_toArray, List.set_cons_zero, List.set_cons_succ, i64_w, i32_w]
   rfl
  refine pure_ (i := 8) (N := some 23) (v := ?_) (a' := ?_) #[true, true, true, true, true, true, true, true, true, false, false, false] rfl rfl (any_of HT_.out (by kernel_rfl)) (fun _ _ _ h => h) (Or.inl ⟨by rfl, ?_⟩) ?_ ?_
  rotate_left
  ·
   intro w'
   go_simp
   with_reducible rfl
  rotate_left
  ·
   simp only [Act.put, List.setIfInBounds_toArray, List.set_cons_zero, List.set_cons_succ, i64_w, i32_w]
   rfl
  refine pure_ (i := 9) (N := some 24) (v := ?_) (a' := ?_) #[true, true, true, true, true, true, true, true, true, true, false, false] rfl rfl (any_of HT_.out (by kernel_rfl)) (fun _ _ _ h => h) (Or.inl ⟨by rfl, ?_⟩) ?_ ?_
  rotate_left
  ·
   intro w'
   go_simp
   with_reducible rfl
  rotate_left
  ·
   simp only [Act.put, List.setIfInBounds_toArray, List.set_cons_zero, List.set_cons_succ, i64_w, i32_w]
   rfl
  refine pure_ (i := 10) (N := some 3) (v := ?_) (a' := ?_) #[true, true, true, true, true, true, true, true, true, true, true, false] rfl rfl (any_of HT_.out (by kernel_rfl)) (fun _ _ _ h => h) (Or.inl ⟨by rfl, ?_⟩) ?_ ?_
  rotate_left
  ·
   intro w'
   go_simp
   with_reducible rfl
  rotate_left
  ·
   simp only [Act.put, List.setIfInBounds_toArray, List.set_cons_zero, List.set_cons_succ, i64_w, i32_w]
   rfl
  refine pure_ (i := 11) (N := some 4) (v := ?_) (a' := ?_) #[true, true, true, true, true, true, true, true, true, true, true, true] rfl rfl (any_of HT_.out (by kernel_rfl)) (fun _ _ _ h => h) (Or.inl ⟨by rfl, ?_⟩) ?_ ?_
  rotate_left
  ·
   intro w'
   go_simp
   with_reducible rfl
  rotate_left
  ·
   simp only [Act.put, List.setIfInBounds_toArray, List.set_cons_zero, List.set_cons_succ, i64_w, i32_w]
   rfl
  refine done_ (done_of HT_.out (by kernel_rfl)) ?_
  have hcz17_0 : w16.cell? ⟨gb540, 0, none⟩ = some (.slice A0_0 l0_0.length c0_0) := (blk_cell BK540.out 0).trans rfl
  have hcz17_1 : w16.cell? ⟨gb540, 1, none⟩ = some (.slice A0_1 l0_1.length c0_1) := (blk_cell BK540.out 1).trans rfl
  have hcz17_2 : w16.cell? ⟨gb540, 2, none⟩ = some (.int .i64 a0_2) := (blk_cell BK540.out 2).trans rfl
  have hcz17_3 : w16.cell? ⟨gb540, 3, none⟩ = some (.int .i64 a0_3) := (blk_cell BK540.out 3).trans rfl
  have hfz17_0 := blk_frozen BK540.out 0
  have hfz17_1 := blk_frozen BK540.out 1
  have hfz17_2 := blk_frozen BK540.out 2
  have hfz17_3 := blk_frozen BK540.out 3
  go_upto_region 5 with (first | ((with_reducible refine gate_callee (f := 23) rfl ?_); refine goesL_ (some 30) rfl rfl Try.func23 (by kernel_rfl) rfl #[.slice A0_0 l0_0.length c0_0, .slice A0_1 l0_1.length c0_1] rfl (by (try simp only [List.map_toArray, List.map_cons, List.map_nil]); first | done | rfl | (simp only [List.length_drop, List.length_take]; rfl)) ?_; (with_reducible refine (larchref17_Heavy.calls k _ _ l0_0 _ _ l0_1 t552 t553 _ ?side1 ?side2 ?side3 ?side4 A7.out).mono ?_); (case side1 => repeat (first | exact (Kd.C_below HR0_0.out HB.out) | (with_reducible refine Kd.C_alloc ?_ _) | (with_reducible refine Kd.C_drewN ?_ _) | (with_reducible refine Kd.C_drew ?_))); (case side2 => exact HC0_0.out); (case side3 => repeat (first | exact (Kd.C_below HR0_1.out HB.out) | (with_reducible refine Kd.C_alloc ?_ _) | (with_reducible refine Kd.C_drewN ?_ _) | (with_reducible refine Kd.C_drew ?_))); (case side4 => exact HC0_1.out); rintro e w18 ⟨v554, rfl, ho0, hb⟩; refine ⟨_, rfl, ?_⟩; have n0_ := Aside0.mk (Kd.R_elder' (by (with_reducible repeat (first | apply Kd.R_alloc | apply Kd.R_drewN | apply Kd.R_drew)); exact HO544.out) (Kd.R_base ho0) hb); have n1_ := Aside0.mk (Kd.R_below (by (with_reducible repeat (first | apply Kd.R_alloc | apply Kd.R_drewN | apply Kd.R_drew)); exact HO547.out) hb); have n2_ := Aside0.mk (Kd.R_elder' (by (with_reducible repeat (first | apply Kd.R_alloc | apply Kd.R_drewN | apply Kd.R_drew)); exact HO551.out) (Kd.R_base ho0) hb); have n3_ := Aside0.mk (Kd.R_lower (Kd.R_new' (Kd.R_new' ho0 (Kd.R_lt (by (with_reducible repeat (first | apply Kd.R_alloc | apply Kd.R_drewN | apply Kd.R_drew)); exact HO544.out))) (Kd.R_lt (by (with_reducible repeat (first | apply Kd.R_alloc | apply Kd.R_drewN | apply Kd.R_drew)); exact HO551.out))) (below_size (by repeat (first | (with_reducible first | exact HB.out | apply below_alloc | apply pw_below_drewN | apply below_drew1 | refine below_set ?_ GE540.out) | exact HB.out)))); have n4_ := Aside0.mk (blk_below (g := gb540) (o := .cells #[.slice A0_0 l0_0.length c0_0, .slice A0_1 l0_1.length c0_1, .int .i64 a0_2, .int .i64 a0_3] 25 (0, 0)) (by (with_reducible repeat (first | refine blk_drewN ?_ _ | refine blk_drew ?_ | refine blk_alloc ?_ _)); exact BK540.out) hb); have n5_ := Aside0.mk (below_step (by repeat (first | (with_reducible first | exact HB.out | apply below_alloc | apply pw_below_drewN | apply below_drew1 | refine below_set ?_ GE540.out) | exact HB.out)) hb); clear HO544; clear HO547; clear HO551; clear BK540; clear HB; have HO544 := n0_; have HO547 := n1_; have HO551 := n2_; have HO555 := n3_; have BK540 := n4_; have HB := n5_; clear n0_ n1_ n2_ n3_ n4_ n5_; (try clear hb); (try clear hb2); (try clear hk); (try clear hi); (try clear ho0)))
  (try simp only [Act.put, List.setIfInBounds_toArray, List.set_cons_zero, List.set_cons_succ])
  go_cut [41] (fun v41 wc => ∃ (kq : Nat) (x41_7 : Bool), v41 = .bool x41_7 ∧ Aside0 (larchlaw17_WeighHeavy.j0 kq t548 x41_7 l0_0 l0_1 a0_2 a0_3 = some r) ∧ Aside0 (kq ≤ k) ∧ Aside0 (Kd.R k49 49 wc w.heap.size (fun _ => True) v550 t548) ∧ Aside0 (wc.heap[gb540]? = some (.cells #[(.slice A0_0 l0_0.length c0_0), (.slice A0_1 l0_1.length c0_1), .int .i64 a0_2, .int .i64 a0_3] 25 (0, 0))) ∧ Aside0 (Below w.heap.size w wc))
  case first =>
   have H := HC8.out
   clear HC8
   by_cases c19 : t549 = t553
   ·
    rw [if_pos c19] at H
    have c19b0 : (t549 == t553) = true := beq_iff_eq.mpr c19
    have c19b1 : (t549 != t553) = false := bne_eq_false_iff_eq.mpr c19
    clear c19
    (first | rw [c19b0] | (simp only [i64_w, i32_w]; rw [c19b0]) | skip)
    replace H := Option.bind_eq_some_iff.mp H
    obtain ⟨t556, A200, H⟩ := H
    replace H : (larchlaw17_WeighHeavy.j0 k t548 (!t556) l0_0 l0_1 a0_2 a0_3) = some r := H
    have A20 := Aside0.mk A200
    clear A200
    have H' := Aside0.mk H
    clear H
    obtain ⟨Ao21, co21, eo21⟩ := Kd.R_slice HO551.out
    subst eo21
    obtain ⟨Ao22, co22, eo22⟩ := Kd.R_slice HO555.out
    subst eo22
    go_wp2_with (first | (go_at_call 24; (with_reducible refine (larchref17_Same.calls k _ _ t548 _ _ t552 t556 _ ?side1 ?side2 ?side3 ?side4 A20.out).mono ?_); (case side1 => repeat (first | exact (Kd.R_reads' HO551.out).2.2 | (with_reducible refine Kd.C_alloc ?_ _) | (with_reducible refine Kd.C_drewN ?_ _) | (with_reducible refine Kd.C_drew ?_))); (case side2 => exact (Kd.R_reads' HO551.out).2.1); (case side3 => repeat (first | exact (Kd.R_reads' HO555.out).2.2 | (with_reducible refine Kd.C_alloc ?_ _) | (with_reducible refine Kd.C_drewN ?_ _) | (with_reducible refine Kd.C_drew ?_))); (case side4 => exact (Kd.R_reads' HO555.out).2.1); rintro e w' ⟨rfl, ⟨nd, rfl⟩⟩))
    go_meet
    case rel => exact ⟨_, (!t556), (by first | rfl | (simp; done) | (simp [*]; done)), H', ⟨by first | omega | exact Nat.le_refl _⟩, ⟨by (with_reducible repeat (first | apply Kd.R_alloc | apply Kd.R_drewN | apply Kd.R_drew)); exact Kd.R_mono HO551.out (fun _ hk => trivial)⟩, ⟨by (with_reducible repeat (first | refine blk_drewN ?_ _ | refine blk_drew ?_ | refine blk_alloc ?_ _)); exact BK540.out⟩, ⟨by repeat (first | (with_reducible first | exact HB.out | apply below_alloc | apply pw_below_drewN | apply below_drew1 | refine below_set ?_ GE540.out) | exact HB.out)⟩⟩
   ·
    rw [if_neg c19] at H
    have c19b0 : (t549 == t553) = false := beq_eq_false_iff_ne.mpr c19
    have c19b1 : (t549 != t553) = true := bne_iff_ne.mpr c19
    (first | rw [c19b0] | (simp only [i64_w, i32_w]; rw [c19b0]) | skip)
    have H' := Aside0.mk H
    clear H
    go_wp2
    go_meet
    case rel => exact ⟨_, (true), (by first | rfl | (simp; done) | (simp [*]; done)), H', ⟨by first | omega | exact Nat.le_refl _⟩, ⟨by (with_reducible repeat (first | apply Kd.R_alloc | apply Kd.R_drewN | apply Kd.R_drew)); exact Kd.R_mono HO551.out (fun _ hk => trivial)⟩, ⟨by (with_reducible repeat (first | refine blk_drewN ?_ _ | refine blk_drew ?_ | refine blk_alloc ?_ _)); exact BK540.out⟩, ⟨by repeat (first | (with_reducible first | exact HB.out | apply below_alloc | apply pw_below_drewN | apply below_drew1 | refine below_set ?_ GE540.out) | exact HB.out)⟩⟩
  case rest =>
   clear HC8
   try clear c1
   try clear c2
   try clear p2
   try clear c3
   try clear c4
   try clear c8
   try clear c10
   try clear c19
   try clear c19b0
   try clear c19b1
   try clear c21
   try clear c22
   try clear hcz17_0
   try clear hcz17_1
   try clear hcz17_2
   try clear hcz17_3
   try clear hfz17_0
   try clear hfz17_1
   try clear hfz17_2
   try clear hfz17_3
   obtain ⟨kq, x41_7, rfl, HA, HJ7, HO_3, BK540, HB⟩ := hcut
   cases kq with
   | zero => exact absurd HA.out (by simp [larchlaw17_WeighHeavy.j0])
   | succ kj7 =>
    have H := HA.out
    clear HA
    simp only [larchlaw17_WeighHeavy.j0] at H
    by_cases c23 : x41_7 = true
    ·
     subst c23
     have H1 : (none) = some r := by rw [if_pos rfl] at H; exact H
     clear H
     have H := H1
     clear H1
     exact absurd H (by simp)
    ·
     replace c23 := Bool.eq_false_iff.mpr c23
     subst c23
     have H1 : ((larchlaw17_copied.f l0_0).bind fun t557 => ((weigh_Sums.f kj7 t557).bind fun bt560 => (if bt560.2 = 0 then ((larchref17_Root.f kj7 l0_0).bind fun bt564 => (if bt564.1 ≥ 0 then ((larchref17_Order.f kj7 l0_0 bt564.1).bind fun t566 => (larchlaw17_WeighHeavy.l0 kj7 ([] : List Int) t566 0 l0_0 l0_1 a0_2 a0_3)) else (larchlaw17_WeighHeavy.j2 kj7 ([] : List Int) l0_0 l0_1 a0_2 a0_3))) else (if (t548.length : Int) = 0 then (some ((bt560.1.length : Int) == 0)) else (none))))) = some r := by rw [if_neg (show ¬ (false = true) by decide)] at H; exact H
     clear H
     have H := H1
     clear H1
     replace H := Option.bind_eq_some_iff.mp H
     obtain ⟨t557, A240, H⟩ := H
     replace H : ((weigh_Sums.f kj7 t557).bind fun bt560 => (if bt560.2 = 0 then ((larchref17_Root.f kj7 l0_0).bind fun bt564 => (if bt564.1 ≥ 0 then ((larchref17_Order.f kj7 l0_0 bt564.1).bind fun t566 => (larchlaw17_WeighHeavy.l0 kj7 ([] : List Int) t566 0 l0_0 l0_1 a0_2 a0_3)) else (larchlaw17_WeighHeavy.j2 kj7 ([] : List Int) l0_0 l0_1 a0_2 a0_3))) else (if (t548.length : Int) = 0 then (some ((bt560.1.length : Int) == 0)) else (none)))) = some r := H
     have A24 := Aside0.mk A240
     clear A240
     replace H := Option.bind_eq_some_iff.mp H
     obtain ⟨⟨t560, t561⟩, A250, H⟩ := H
     replace H : (if t561 = 0 then ((larchref17_Root.f kj7 l0_0).bind fun bt564 => (if bt564.1 ≥ 0 then ((larchref17_Order.f kj7 l0_0 bt564.1).bind fun t566 => (larchlaw17_WeighHeavy.l0 kj7 ([] : List Int) t566 0 l0_0 l0_1 a0_2 a0_3)) else (larchlaw17_WeighHeavy.j2 kj7 ([] : List Int) l0_0 l0_1 a0_2 a0_3))) else (if (t548.length : Int) = 0 then (some ((t560.length : Int) == 0)) else (none))) = some r := H
     have A25 := Aside0.mk A250
     clear A250
     by_cases c26 : t561 = 0
     ·
      rw [if_pos c26] at H
      have c26b0 : (t561 == 0) = true := beq_iff_eq.mpr c26
      have c26b1 : (t561 != 0) = false := bne_eq_false_iff_eq.mpr c26
      clear c26
      replace H := Option.bind_eq_some_iff.mp H
      obtain ⟨⟨t564, t565⟩, A270, H⟩ := H
      replace H : (if t564 ≥ 0 then ((larchref17_Order.f kj7 l0_0 t564).bind fun t566 => (larchlaw17_WeighHeavy.l0 kj7 ([] : List Int) t566 0 l0_0 l0_1 a0_2 a0_3)) else (larchlaw17_WeighHeavy.j2 kj7 ([] : List Int) l0_0 l0_1 a0_2 a0_3)) = some r := H
      have A27 := Aside0.mk A270
      clear A270
      have HC28 := Aside0.mk H
      clear H
      have hcz29_0 : wc.cell? ⟨gb540, 0, none⟩ = some (.slice A0_0 l0_0.length c0_0) := (blk_cell BK540.out 0).trans rfl
      have hcz29_1 : wc.cell? ⟨gb540, 1, none⟩ = some (.slice A0_1 l0_1.length c0_1) := (blk_cell BK540.out 1).trans rfl
      have hcz29_2 : wc.cell? ⟨gb540, 2, none⟩ = some (.int .i64 a0_2) := (blk_cell BK540.out 2).trans rfl
      have hcz29_3 : wc.cell? ⟨gb540, 3, none⟩ = some (.int .i64 a0_3) := (blk_cell BK540.out 3).trans rfl
      have hfz29_0 := blk_frozen BK540.out 0
      have hfz29_1 := blk_frozen BK540.out 1
      have hfz29_2 := blk_frozen BK540.out 2
      have hfz29_3 := blk_frozen BK540.out 3
      go_upto_if 66 with (first | ((with_reducible refine gate_callee (f := 10) rfl ?_); refine goesL_ (some 45) rfl rfl Try.func10 (by kernel_rfl) rfl #[.slice A0_0 l0_0.length c0_0] rfl (by (try simp only [List.map_toArray, List.map_cons, List.map_nil]); first | done | rfl | (simp only [List.length_drop, List.length_take]; rfl)) ?_; (with_reducible refine (larchlaw17_copied.calls _ _ l0_0 t557 _ ?side1 ?side2 A24.out).mono ?_); (case side1 => repeat (first | exact (Kd.C_below HR0_0.out HB.out) | (with_reducible refine Kd.C_alloc ?_ _) | (with_reducible refine Kd.C_drewN ?_ _) | (with_reducible refine Kd.C_drew ?_))); (case side2 => exact HC0_0.out); rintro e w30 ⟨v558, rfl, ho0, hb⟩; refine ⟨_, rfl, ?_⟩; have n0_ := Aside0.mk (Kd.R_elder' (by (with_reducible repeat (first | apply Kd.R_alloc | apply Kd.R_drewN | apply Kd.R_drew)); exact HO_3.out) (Kd.R_base ho0) hb); have n1_ := Aside0.mk (Kd.R_lower (Kd.R_new' ho0 (Kd.R_lt (by (with_reducible repeat (first | apply Kd.R_alloc | apply Kd.R_drewN | apply Kd.R_drew)); exact HO_3.out))) (below_size (by repeat (first | (with_reducible first | exact HB.out | apply below_alloc | apply pw_below_drewN | apply below_drew1 | refine below_set ?_ GE540.out) | exact HB.out)))); have n2_ := Aside0.mk (blk_below (g := gb540) (o := .cells #[.slice A0_0 l0_0.length c0_0, .slice A0_1 l0_1.length c0_1, .int .i64 a0_2, .int .i64 a0_3] 25 (0, 0)) (by (with_reducible repeat (first | refine blk_drewN ?_ _ | refine blk_drew ?_ | refine blk_alloc ?_ _)); exact BK540.out) hb); have n3_ := Aside0.mk (below_step (by repeat (first | (with_reducible first | exact HB.out | apply below_alloc | apply pw_below_drewN | apply below_drew1 | refine below_set ?_ GE540.out) | exact HB.out)) hb); clear HO_3; clear BK540; clear HB; have HO_3 := n0_; have HO559 := n1_; have BK540 := n2_; have HB := n3_; clear n0_ n1_ n2_ n3_; (try clear hb); (try clear hb2); (try clear hk); (try clear hi); (try clear ho0); obtain ⟨Ao31, co31, eo31⟩ := Kd.R_slice HO559.out; subst eo31) | ((with_reducible refine gate_callee (f := 25) rfl ?_); refine goesL_ (some 46) rfl rfl Try.func25 (by kernel_rfl) rfl #[.slice Ao31 t557.length co31] rfl (by (try simp only [List.map_toArray, List.map_cons, List.map_nil]); first | done | rfl | (simp only [List.length_drop, List.length_take]; rfl)) ?_; (with_reducible refine (weigh_Sums.calls kj7 _ _ t557 t560 t561 _ ?side1 ?side2 A25.out).mono ?_); (case side1 => repeat (first | exact (Kd.R_reads' HO559.out).2.2 | (with_reducible refine Kd.C_alloc ?_ _) | (with_reducible refine Kd.C_drewN ?_ _) | (with_reducible refine Kd.C_drew ?_))); (case side2 => exact (Kd.R_reads' HO559.out).2.1); rintro e w32 ⟨v562, rfl, ho0, hb⟩; refine ⟨_, rfl, ?_⟩; have n0_ := Aside0.mk (Kd.R_below (by (with_reducible repeat (first | apply Kd.R_alloc | apply Kd.R_drewN | apply Kd.R_drew)); exact HO_3.out) hb); have n1_ := Aside0.mk (Kd.R_below (by (with_reducible repeat (first | apply Kd.R_alloc | apply Kd.R_drewN | apply Kd.R_drew)); exact HO559.out) hb); have n2_ := Aside0.mk (Kd.R_lower ho0 (below_size (by repeat (first | (with_reducible first | exact HB.out | apply below_alloc | apply pw_below_drewN | apply below_drew1 | refine below_set ?_ GE540.out) | exact HB.out)))); have n3_ := Aside0.mk (blk_below (g := gb540) (o := .cells #[.slice A0_0 l0_0.length c0_0, .slice A0_1 l0_1.length c0_1, .int .i64 a0_2, .int .i64 a0_3] 25 (0, 0)) (by (with_reducible repeat (first | refine blk_drewN ?_ _ | refine blk_drew ?_ | refine blk_alloc ?_ _)); exact BK540.out) hb); have n4_ := Aside0.mk (below_step (by repeat (first | (with_reducible first | exact HB.out | apply below_alloc | apply pw_below_drewN | apply below_drew1 | refine below_set ?_ GE540.out) | exact HB.out)) hb); clear HO_3; clear HO559; clear BK540; clear HB; have HO_3 := n0_; have HO559 := n1_; have HO563 := n2_; have BK540 := n3_; have HB := n4_; clear n0_ n1_ n2_ n3_ n4_; (try clear hb); (try clear hb2); (try clear hk); (try clear hi); (try clear ho0); have hcz33_0 : w32.cell? ⟨gb540, 0, none⟩ = some (.slice A0_0 l0_0.length c0_0) := (blk_cell BK540.out 0).trans rfl; have hcz33_1 : w32.cell? ⟨gb540, 1, none⟩ = some (.slice A0_1 l0_1.length c0_1) := (blk_cell BK540.out 1).trans rfl; have hcz33_2 : w32.cell? ⟨gb540, 2, none⟩ = some (.int .i64 a0_2) := (blk_cell BK540.out 2).trans rfl; have hcz33_3 : w32.cell? ⟨gb540, 3, none⟩ = some (.int .i64 a0_3) := (blk_cell BK540.out 3).trans rfl; have hfz33_0 := blk_frozen BK540.out 0; have hfz33_1 := blk_frozen BK540.out 1; have hfz33_2 := blk_frozen BK540.out 2; have hfz33_3 := blk_frozen BK540.out 3) | ((with_reducible refine gate_callee (f := 26) rfl ?_); refine goesL_ (some 62) rfl rfl Try.func26 (by kernel_rfl) rfl #[.slice A0_0 l0_0.length c0_0] rfl (by (try simp only [List.map_toArray, List.map_cons, List.map_nil]); first | done | rfl | (simp only [List.length_drop, List.length_take]; rfl)) ?_; (with_reducible refine (larchref17_Root.calls kj7 _ _ l0_0 t564 t565 _ ?side1 ?side2 A27.out).mono ?_); (case side1 => repeat (first | exact (Kd.C_below HR0_0.out HB.out) | (with_reducible refine Kd.C_alloc ?_ _) | (with_reducible refine Kd.C_drewN ?_ _) | (with_reducible refine Kd.C_drew ?_))); (case side2 => exact HC0_0.out); rintro e w34 ⟨rfl, hb⟩; refine ⟨_, rfl, ?_⟩; have n0_ := Aside0.mk (Kd.R_below (by (with_reducible repeat (first | apply Kd.R_alloc | apply Kd.R_drewN | apply Kd.R_drew)); exact HO_3.out) hb); have n1_ := Aside0.mk (Kd.R_below (by (with_reducible repeat (first | apply Kd.R_alloc | apply Kd.R_drewN | apply Kd.R_drew)); exact HO559.out) hb); have n2_ := Aside0.mk (Kd.R_below (by (with_reducible repeat (first | apply Kd.R_alloc | apply Kd.R_drewN | apply Kd.R_drew)); exact HO563.out) hb); have n3_ := Aside0.mk (blk_below (g := gb540) (o := .cells #[.slice A0_0 l0_0.length c0_0, .slice A0_1 l0_1.length c0_1, .int .i64 a0_2, .int .i64 a0_3] 25 (0, 0)) (by (with_reducible repeat (first | refine blk_drewN ?_ _ | refine blk_drew ?_ | refine blk_alloc ?_ _)); exact BK540.out) hb); have n4_ := Aside0.mk (below_step (by repeat (first | (with_reducible first | exact HB.out | apply below_alloc | apply pw_below_drewN | apply below_drew1 | refine below_set ?_ GE540.out) | exact HB.out)) hb); clear HO_3; clear HO559; clear HO563; clear BK540; clear HB; have HO_3 := n0_; have HO559 := n1_; have HO563 := n2_; have BK540 := n3_; have HB := n4_; clear n0_ n1_ n2_ n3_ n4_; (try clear hb); (try clear hb2); (try clear hk); (try clear hi)))
      (try simp only [Act.put, List.setIfInBounds_toArray, List.set_cons_zero, List.set_cons_succ])
      go_cut [10] (fun v10 wc => ∃ (kq : Nat) (x10_27 : List Int), Aside0 (larchlaw17_WeighHeavy.j2 kq x10_27 l0_0 l0_1 a0_2 a0_3 = some r) ∧ Aside0 (kq ≤ kj7) ∧ Aside0 (Kd.R (Kd.int .i64) 3 wc w.heap.size (fun _ => True) v10 x10_27) ∧ Aside0 (wc.heap[gb540]? = some (.cells #[(.slice A0_0 l0_0.length c0_0), (.slice A0_1 l0_1.length c0_1), .int .i64 a0_2, .int .i64 a0_3] 25 (0, 0))) ∧ Aside0 (Below w.heap.size w wc))
      case first =>
       have H := HC28.out
       clear HC28
       by_cases c35 : t564 ≥ 0
       ·
        rw [if_pos c35] at H
        have c35b0 : decide (0 ≤ t564) = true := decide_eq_true c35
        clear c35
        (first | rw [c35b0] | (simp only [i64_w, i32_w]; rw [c35b0]) | skip)
        replace H := Option.bind_eq_some_iff.mp H
        obtain ⟨t566, A360, H⟩ := H
        replace H : (larchlaw17_WeighHeavy.l0 kj7 ([] : List Int) t566 0 l0_0 l0_1 a0_2 a0_3) = some r := H
        have A36 := Aside0.mk A360
        clear A360
        have H' := Aside0.mk H
        clear H
        have hcz37_0 : w34.cell? ⟨gb540, 0, none⟩ = some (.slice A0_0 l0_0.length c0_0) := (blk_cell BK540.out 0).trans rfl
        have hcz37_1 : w34.cell? ⟨gb540, 1, none⟩ = some (.slice A0_1 l0_1.length c0_1) := (blk_cell BK540.out 1).trans rfl
        have hcz37_2 : w34.cell? ⟨gb540, 2, none⟩ = some (.int .i64 a0_2) := (blk_cell BK540.out 2).trans rfl
        have hcz37_3 : w34.cell? ⟨gb540, 3, none⟩ = some (.int .i64 a0_3) := (blk_cell BK540.out 3).trans rfl
        have hfz37_0 := blk_frozen BK540.out 0
        have hfz37_1 := blk_frozen BK540.out 1
        have hfz37_2 := blk_frozen BK540.out 2
        have hfz37_3 := blk_frozen BK540.out 3
        go_wp2_with (first | ((with_reducible refine gate_callee (f := 27) rfl ?_); refine goesL_ (some 70) rfl rfl Try.func27 (by kernel_rfl) rfl #[.slice A0_0 l0_0.length c0_0, .int .i64 t564] rfl (by (try simp only [List.map_toArray, List.map_cons, List.map_nil]); first | done | rfl | (simp only [List.length_drop, List.length_take]; rfl)) ?_; (with_reducible refine (larchref17_Order.calls kj7 _ _ l0_0 t564 t566 _ ?side1 ?side2 A36.out).mono ?_); (case side1 => repeat (first | exact (Kd.C_below HR0_0.out HB.out) | (with_reducible refine Kd.C_alloc ?_ _) | (with_reducible refine Kd.C_drewN ?_ _) | (with_reducible refine Kd.C_drew ?_))); (case side2 => exact HC0_0.out); rintro e w38 ⟨v567, rfl, ho0, hb⟩; refine ⟨_, rfl, ?_⟩; have n0_ := Aside0.mk (Kd.R_below (by (with_reducible repeat (first | apply Kd.R_alloc | apply Kd.R_drewN | apply Kd.R_drew)); exact HO_3.out) hb); have n1_ := Aside0.mk (Kd.R_below (by (with_reducible repeat (first | apply Kd.R_alloc | apply Kd.R_drewN | apply Kd.R_drew)); exact HO559.out) hb); have n2_ := Aside0.mk (Kd.R_elder' (by (with_reducible repeat (first | apply Kd.R_alloc | apply Kd.R_drewN | apply Kd.R_drew)); exact HO563.out) (Kd.R_base ho0) hb); have n3_ := Aside0.mk (Kd.R_lower (Kd.R_new' ho0 (Kd.R_lt (by (with_reducible repeat (first | apply Kd.R_alloc | apply Kd.R_drewN | apply Kd.R_drew)); exact HO563.out))) (below_size (by repeat (first | (with_reducible first | exact HB.out | apply below_alloc | apply pw_below_drewN | apply below_drew1 | refine below_set ?_ GE540.out) | exact HB.out)))); have n4_ := Aside0.mk (blk_below (g := gb540) (o := .cells #[.slice A0_0 l0_0.length c0_0, .slice A0_1 l0_1.length c0_1, .int .i64 a0_2, .int .i64 a0_3] 25 (0, 0)) (by (with_reducible repeat (first | refine blk_drewN ?_ _ | refine blk_drew ?_ | refine blk_alloc ?_ _)); exact BK540.out) hb); have n5_ := Aside0.mk (below_step (by repeat (first | (with_reducible first | exact HB.out | apply below_alloc | apply pw_below_drewN | apply below_drew1 | refine below_set ?_ GE540.out) | exact HB.out)) hb); clear HO_3; clear HO559; clear HO563; clear BK540; clear HB; have HO_3 := n0_; have HO559 := n1_; have HO563 := n2_; have HO568 := n3_; have BK540 := n4_; have HB := n5_; clear n0_ n1_ n2_ n3_ n4_ n5_; (try clear hb); (try clear hb2); (try clear hk); (try clear hi); (try clear ho0)))
        go_loopg [10, 12] kj7 (fun kq v10 v12 w' => ∃ (x10_2 : List Int) (x12_2 : Int), v12 = .int .i64 x12_2 ∧ Aside0 (larchlaw17_WeighHeavy.l0 kq x10_2 t566 x12_2 l0_0 l0_1 a0_2 a0_3 = some r) ∧ Aside0 (kq ≤ kj7) ∧ Aside0 (Kd.R (Kd.int .i64) 3 w' w.heap.size (fun k_ => some k_ ≠ (v567 : Value).ownBlock) v10 x10_2) ∧ Aside0 (Kd.R (Kd.int .i64) 3 w' w.heap.size (fun k_ => some k_ ≠ (v10 : Value).ownBlock) v567 t566) ∧ Aside0 (w'.heap[gb540]? = some (.cells #[(.slice A0_0 l0_0.length c0_0), (.slice A0_1 l0_1.length c0_1), .int .i64 a0_2, .int .i64 a0_3] 25 (0, 0))) ∧ Aside0 (Below w.heap.size w w'))
        case atStart => exact ⟨(([] : List Int)), (0), (by first | rfl | (simp; done) | (simp [*]; done)), H', ⟨Nat.le_refl _⟩, ⟨by first | exact Kd.R_nil _ _ _ _ _ | exact Kd.N_nil _ _ _ _ _ | exact Kd.V_nil _ _ _ _ _ | exact Kd.Q_nil _ _ _ _ _ | exact Kd.S_nil _ _ _ _ _⟩, ⟨by (with_reducible repeat (first | apply Kd.R_alloc | apply Kd.R_drewN | apply Kd.R_drew)); exact Kd.R_mono HO568.out (fun _ hk => (by simp [Value.ownBlock]))⟩, ⟨by (with_reducible repeat (first | refine blk_drewN ?_ _ | refine blk_drew ?_ | refine blk_alloc ?_ _)); exact BK540.out⟩, ⟨by repeat (first | (with_reducible first | exact HB.out | apply below_alloc | apply pw_below_drewN | apply below_drew1 | refine below_set ?_ GE540.out) | exact HB.out)⟩⟩
        case round =>
         clear H'
         try clear c1
         try clear c2
         try clear p2
         try clear c3
         try clear c4
         try clear c8
         try clear c10
         try clear c19
         try clear c19b0
         try clear c19b1
         try clear c21
         try clear c22
         try clear c23
         try clear c25
         try clear c26
         try clear c26b0
         try clear c26b1
         try clear c27
         try clear c35
         try clear c35b0
         try clear hcz17_0
         try clear hcz17_1
         try clear hcz17_2
         try clear hcz17_3
         try clear hcz29_0
         try clear hcz29_1
         try clear hcz29_2
         try clear hcz29_3
         try clear hcz33_0
         try clear hcz33_1
         try clear hcz33_2
         try clear hcz33_3
         try clear hcz37_0
         try clear hcz37_1
         try clear hcz37_2
         try clear hcz37_3
         try clear hfz17_0
         try clear hfz17_1
         try clear hfz17_2
         try clear hfz17_3
         try clear hfz29_0
         try clear hfz29_1
         try clear hfz29_2
         try clear hfz29_3
         try clear hfz33_0
         try clear hfz33_1
         try clear hfz33_2
         try clear hfz33_3
         try clear hfz37_0
         try clear hfz37_1
         try clear hfz37_2
         try clear hfz37_3
         try clear p2
         obtain ⟨x10_2, x12_2, rfl, HA, HK2, HO_10, HO_11, BK540, HB⟩ := hrel
         cases gk with
         | zero => exact absurd HA.out (by simp [larchlaw17_WeighHeavy.l0])
         | succ k2 =>
          have H := HA.out
          clear HA
          simp only [larchlaw17_WeighHeavy.l0] at H
          by_cases c39 : x12_2 < (t566.length : Int)
          ·
           rw [if_pos c39] at H
           have c39b0 : decide (x12_2 < (t566.length : Int)) = true := decide_eq_true c39
           clear c39
           by_cases c40 : 0 ≤ x12_2
           ·
            rw [if_pos c40] at H
            have c40b0 : decide (0 ≤ x12_2) = true := decide_eq_true c40
            clear c40
            by_cases c41 : 0 ≤ (rd t566 x12_2)
            ·
             rw [if_pos c41] at H
             have c41b0 : decide (0 ≤ (rd t566 x12_2)) = true := decide_eq_true c41
             clear c41
             by_cases c42 : (rd t566 x12_2) < (l0_0.length : Int)
             ·
              rw [if_pos c42] at H
              have c42b0 : decide ((rd t566 x12_2) < (l0_0.length : Int)) = true := decide_eq_true c42
              clear c42
              by_cases c43 : x10_2.length < 17592186044416
              ·
               rw [if_pos c43] at H
               have LMc43 := Aside0.mk c43
               clear c43
               obtain ⟨y571, hy571⟩ : ∃ y_ : List Int, y_ = (x10_2 ++ [(rd_T49 l0_0 (rd t566 x12_2)).f2]) := ⟨_, rfl⟩
               replace H : (larchlaw17_WeighHeavy.l0 k2 y571 t566 (wrap64 (x12_2 + 1)) l0_0 l0_1 a0_2 a0_3) = some r := by first | (rw [hy571]; with_reducible exact H) | (have H2_ := (Option.bind_some _ _).symm.trans H; rw [hy571]; with_reducible exact H2_) | (have H2_ := (Option.bind_some _ _).symm.trans H; with_reducible exact H2_) | with_reducible exact H | (rw [hy571]; exact H) | exact H
               have Ny571 := Aside0.mk hy571
               clear hy571
               have H' := Aside0.mk H
               clear H
               obtain ⟨Ao44, co44, eo44⟩ := Kd.R_slice HO_11.out
               subst eo44
               try go_wp2
               have n0_ := Aside0.mk (Kd.R_drew HO_10.out)
               have n1_ := Aside0.mk (Kd.R_drew HO_11.out)
               have n2_ := Aside0.mk (blk_drew BK540.out)
               have n3_ := Aside0.mk (below_drew1 HB.out)
               clear HO_10
               clear HO_11
               clear BK540
               clear HB
               have HO_10 := n0_
               have HO_11 := n1_
               have BK540 := n2_
               have HB := n3_
               clear n0_ n1_ n2_ n3_
               have p569 : 0 ≤ (x12_2 : Int) := of_decide_eq_true (by first | (with_reducible assumption) | assumption)
               have q569 : x12_2 < (t566.length : Int) := of_decide_eq_true (by first | (with_reducible assumption) | assumption)
               obtain ⟨ad569, e569, hx569_0⟩ := Kd.at_int (Kd.R_reads' HO_11.out).2.2 x12_2 p569 q569
               cases e569
               replace p569 := eq_true p569
               replace q569 := eq_true q569
               have p570 : 0 ≤ ((rd t566 x12_2) : Int) := of_decide_eq_true (by first | (with_reducible assumption) | assumption)
               have q570 : (rd t566 x12_2) < (l0_0.length : Int) := of_decide_eq_true (by first | (with_reducible assumption) | assumption)
               obtain ⟨ad570, e570, hx570_0, hx570_1, hx570_2, hx570_3, hx570_4, hx570_5⟩ := at_T49 HR0_0.out (rd t566 x12_2) p570 q570
               have hw570_5 := hx570_5
               have hw570_4 := hx570_4
               have hw570_3 := hx570_3
               have hw570_2 := hx570_2
               have hw570_1 := hx570_1
               have hw570_0 := hx570_0
               cases e570
               replace hx570_0 := (HB.out.cell (World.block_lt_of_cell? w _ hx570_0)).trans hx570_0
               replace hx570_1 := (HB.out.cell (World.block_lt_of_cell? w _ hx570_1)).trans hx570_1
               replace hx570_2 := (HB.out.cell (World.block_lt_of_cell? w _ hx570_2)).trans hx570_2
               replace hx570_3 := (HB.out.cell (World.block_lt_of_cell? w _ hx570_3)).trans hx570_3
               replace hx570_4 := (HB.out.cell (World.block_lt_of_cell? w _ hx570_4)).trans hx570_4
               replace hx570_5 := (HB.out.cell (World.block_lt_of_cell? w _ hx570_5)).trans hx570_5
               replace p570 := eq_true p570
               replace q570 := eq_true q570
               refine start_ (n := 13) (S := fun w' => w'.cell? ⟨gb540, 0, none⟩ = some (.slice (some ad570) l0_0.length c0_0) ∧ w'.cell? ⟨gb540, 1, none⟩ = some (.slice A0_1 l0_1.length c0_1) ∧ w'.cell? ⟨gb540, 2, none⟩ = some (.int .i64 a0_2) ∧ w'.cell? ⟨gb540, 3, none⟩ = some (.int .i64 a0_3) ∧ w'.cell? (ad569.add (x12_2).toNat) = some (.int .i64 (rd t566 x12_2)) ∧ w'.cell? (ad570.add (((rd t566 x12_2)).toNat * 6)) = some (.int .i64 ((rd_T49 l0_0 (rd t566 x12_2)).f0)) ∧ w'.cell? ⟨(ad570.add (((rd t566 x12_2)).toNat * 6)).block, (ad570.add (((rd t566 x12_2)).toNat * 6)).off + 1, none⟩ = some (.int .i64 ((rd_T49 l0_0 (rd t566 x12_2)).f1)) ∧ w'.cell? ⟨(ad570.add (((rd t566 x12_2)).toNat * 6)).block, (ad570.add (((rd t566 x12_2)).toNat * 6)).off + 2, none⟩ = some (.int .i64 ((rd_T49 l0_0 (rd t566 x12_2)).f2)) ∧ w'.cell? ⟨(ad570.add (((rd t566 x12_2)).toNat * 6)).block, (ad570.add (((rd t566 x12_2)).toNat * 6)).off + 3, none⟩ = some (.int .i64 ((rd_T49 l0_0 (rd t566 x12_2)).f3)) ∧ w'.cell? ⟨(ad570.add (((rd t566 x12_2)).toNat * 6)).block, (ad570.add (((rd t566 x12_2)).toNat * 6)).off + 4, none⟩ = some (.int .i64 ((rd_T49 l0_0 (rd t566 x12_2)).f4)) ∧ w'.cell? ⟨(ad570.add (((rd t566 x12_2)).toNat * 6)).block, (ad570.add (((rd t566 x12_2)).toNat * 6)).off + 5, none⟩ = some (.int .i64 ((rd_T49 l0_0 (rd t566 x12_2)).f5))) (ds := [10, 11]) #[false, false, false, false, false, false, false, false, false, false, false, false, false] (by kernel_rfl) rfl rfl ⟨(blk_cell BK540.out 0).trans rfl, (blk_cell BK540.out 1).trans rfl, (blk_cell BK540.out 2).trans rfl, (blk_cell BK540.out 3).trans rfl, hx569_0, ((HB.out.cell (World.block_lt_of_cell? w _ hw570_0)).trans hw570_0), ((HB.out.cell (World.block_lt_of_cell? w _ hw570_1)).trans hw570_1), ((HB.out.cell (World.block_lt_of_cell? w _ hw570_2)).trans hw570_2), ((HB.out.cell (World.block_lt_of_cell? w _ hw570_3)).trans hw570_3), ((HB.out.cell (World.block_lt_of_cell? w _ hw570_4)).trans hw570_4), ((HB.out.cell (World.block_lt_of_cell? w _ hw570_5)).trans hw570_5)⟩ (fun hHeld => ?_); refine with_tabW larchlaw17_WeighHeavy.tab17 larchlaw17_WeighHeavy.bits17 (fun HT_ HW_ => ?_)
               generalize wr.drew = w45 at HO_10 HO_11 BK540 HB hx569_0 hx570_0 hx570_1 hx570_2 hx570_3 hx570_4 hx570_5 hHeld ⊢
               refine pure_ (i := 0) (N := some 77) (v := ?_) (a' := ?_) #[true, false, false, false, false, false, false, false, false, false, false, false, false] rfl rfl (any_of HT_.out (by kernel_rfl)) (fun _ _ _ h => h) (Or.inl ⟨by rfl, ?_⟩) ?_ ?_
               rotate_left
               ·
                intro w'
                go_simp
                with_reducible rfl
               rotate_left
               ·
                simp only [Act.put, List.setIfInBounds_toArray, List.set_cons_zero, List.set_cons_succ, i64_w, i32_w]
                rfl
               refine pure_ (i := 1) (N := some 78) (v := ?_) (a' := ?_) #[true, true, false, false, false, false, false, false, false, false, false, false, false] rfl rfl (any_of HT_.out (by kernel_rfl)) (fun _ _ _ h => h) (Or.inl ⟨by rfl, ?_⟩) ?_ ?_
               rotate_left
               ·
                intro w'
                go_simp
                with_reducible rfl
               rotate_left
               ·
                simp only [Act.put, List.setIfInBounds_toArray, List.set_cons_zero, List.set_cons_succ, i64_w, i32_w]
                rfl
               refine pure_ (i := 3) (N := some 80) (v := ?_) (a' := ?_) #[true, true, false, true, false, false, false, false, false, false, false, false, false] rfl rfl (any_of HT_.out (by kernel_rfl)) (fun _ _ _ h => h) (Or.inl ⟨by rfl, ?_⟩) ?_ ?_
               rotate_left
               ·
                intro w'
                go_simp
                with_reducible rfl
               rotate_left
               ·
                simp only [Act.put, List.setIfInBounds_toArray, List.set_cons_zero, List.set_cons_succ, i64_w, i32_w]
                rfl
               refine pure_ (i := 4) (N := some 81) (v := ?_) (a' := ?_) #[true, true, false, true, true, false, false, false, false, false, false, false, false] rfl rfl (any_of HT_.out (by kernel_rfl)) (fun _ _ _ h => h) (Or.inl ⟨by rfl, ?_⟩) ?_ ?_
               rotate_left
               ·
                intro w'
                go_simp
                with_reducible rfl
               rotate_left
               ·
                simp only [Act.put, List.setIfInBounds_toArray, List.set_cons_zero, List.set_cons_succ, i64_w, i32_w]
                rfl
               refine pure_ (i := 5) (N := some 82) (v := ?_) (a' := ?_) #[true, true, false, true, true, true, false, false, false, false, false, false, false] rfl rfl (any_of HT_.out (by kernel_rfl)) (fun _ _ _ h => h) (Or.inl ⟨by rfl, ?_⟩) ?_ ?_
               rotate_left
               ·
                intro w'
                go_simp
                with_reducible rfl
               rotate_left
               ·
                simp only [Act.put, List.setIfInBounds_toArray, List.set_cons_zero, List.set_cons_succ, i64_w, i32_w]
                rfl
               refine take_ (i := 2) (N := some 79) (v := ?_) (a' := ?_) #[true, true, true, true, true, true, false, false, false, false, false, false, false] rfl rfl (take_ofW HT_.out HW_.out (by kernel_rfl)) (fun _ _ _ h => h) (Or.inl ⟨by rfl, ?_⟩) hHeld ?_ ?_
               rotate_left
               ·
                rintro w' ⟨s0, s1, s2, s3, s4, s5, s6, s7, s8, s9, s10⟩
                go_simp
                with_reducible rfl
               rotate_left
               ·
                simp only [Act.put, List.setIfInBounds_toArray, List.set_cons_zero, List.set_cons_succ, i64_w, i32_w]
                rfl
               refine take_ (i := 6) (N := some 83) (v := ?_) (a' := ?_) #[true, true, true, true, true, true, true, false, false, false, false, false, false] rfl rfl (take_ofW HT_.out HW_.out (by kernel_rfl)) (fun _ _ _ h => h) (Or.inl ⟨by rfl, ?_⟩) hHeld ?_ ?_
               rotate_left
               ·
                rintro w' ⟨s0, s1, s2, s3, s4, s5, s6, s7, s8, s9, s10⟩
                go_simp
                with_reducible rfl
               rotate_left
               ·
                simp only [Act.put, List.setIfInBounds_toArray, List.set_cons_zero, List.set_cons_succ, i64_w, i32_w]
                rfl
               refine pure_ (i := 7) (N := some 84) (v := ?_) (a' := ?_) #[true, true, true, true, true, true, true, true, false, false, false, false, false] rfl rfl (any_of HT_.out (by kernel_rfl)) (fun _ _ _ h => h) (Or.inl ⟨by rfl, ?_⟩) ?_ ?_
               rotate_left
               ·
                intro w'
                go_simp
                with_reducible rfl
               rotate_left
               ·
                simp only [Act.put, List.setIfInBounds_toArray, List.set_cons_zero, List.set_cons_succ, i64_w, i32_w]
                rfl
               refine pure_ (i := 8) (N := some 85) (v := ?_) (a' := ?_) #[true, true, true, true, true, true, true, true, true, false, false, false, false] rfl rfl (any_of HT_.out (by kernel_rfl)) (fun _ _ _ h => h) (Or.inl ⟨by rfl, ?_⟩) ?_ ?_
               rotate_left
               ·
                intro w'
                go_simp
                with_reducible rfl
               rotate_left
               ·
                simp only [Act.put, List.setIfInBounds_toArray, List.set_cons_zero, List.set_cons_succ, i64_w, i32_w]
                rfl
               refine take_ (i := 9) (N := some 86) (v := ?_) (a' := ?_) #[true, true, true, true, true, true, true, true, true, true, false, false, false] rfl rfl (take_ofW HT_.out HW_.out (by kernel_rfl)) (fun _ _ _ h => h) (Or.inl ⟨by rfl, ?_⟩) hHeld ?_ ?_
               rotate_left
               ·
                rintro w' ⟨s0, s1, s2, s3, s4, s5, s6, s7, s8, s9, s10⟩
                go_simp
                with_reducible rfl
               rotate_left
               ·
                simp only [Act.put, List.setIfInBounds_toArray, List.set_cons_zero, List.set_cons_succ, i64_w, i32_w]
                rfl
               refine last_ (i := 10) (N := some 87) #[true, true, true, true, true, true, true, true, true, true, true, false, false] rfl rfl (one_of HT_.out (by kernel_rfl)) (by decide) (fun K hK => ?_)
               refine value_ (w1 := ?_) (v := ?_) (by rfl) rfl ?_ ?_
               rotate_left 2
               ·
                go_simp
                constructor
                ·
                 rfl
                ·
                 rfl
               refine hK.out _ _ ?_
               clear hK K
               refine norm_ (a' := ?_) ?_ ?_
               rotate_left
               ·
                show Act.put _ (some 87) _ = _
                simp only [Act.put, List.setIfInBounds_toArray, List.set_cons_zero, List.set_cons_succ, i64_w, i32_w]
                rfl
               refine last_ (i := 11) (N := some 88) #[true, true, true, true, true, true, true, true, true, true, true, true, false] rfl rfl (one_of HT_.out (by kernel_rfl)) (by decide) (fun K hK => ?_)
               refine Kd.R_append_step (Kd.int .i64) (w0 := w) w.heap.size (by rfl) (.tmp 77) (.tmp 87) 23 3 (.int .i64 0) 8 rfl Try.underlying23 info3 rfl (by decide) (by omega) u10 x10_2 ((rd_T49 l0_0 (rd t566 x12_2)).f2) [.int .i64 ((rd_T49 l0_0 (rd t566 x12_2)).f2)] (fun k_ => some k_ ≠ (.slice (some ad569) t566.length co44 : Value).ownBlock) (fun _ => False) rfl rfl ?aP (fun _ hk => hk.elim) ?aF ?aO ?aB ?aS ?aL ?_
               (case aP => exact rfl)
               (case aB => exact (by repeat (first | (with_reducible first | exact HB.out | apply below_alloc | apply pw_below_drewN | apply below_drew1 | refine below_set ?_ GE540.out) | exact HB.out)))
               (case aF => exact (fun k_ hk => Kd.fresh' (Kd.R_lt (by (with_reducible repeat (first | apply Kd.R_alloc | apply Kd.R_drewN | apply Kd.R_drew)); exact HO_11.out)) k_ hk))
               (case aO => exact (by (with_reducible repeat (first | apply Kd.R_alloc | apply Kd.R_drewN | apply Kd.R_drew)); exact HO_10.out))
               (case aS => exact (below_size (by repeat (first | (with_reducible first | exact HB.out | apply below_alloc | apply pw_below_drewN | apply below_drew1 | refine below_set ?_ GE540.out) | exact HB.out))))
               (case aL => have := LMc43.out; omega)
               intro v572 w46 ho hb hg hat
               rw [← Ny571.out] at ho
               have n0_ := Aside0.mk (Kd.R_after (ok := (fun _ => True)) (by (with_reducible repeat (first | apply Kd.R_alloc | apply Kd.R_drewN | apply Kd.R_drew)); exact Kd.R_mono HO_11.out (fun _ hk => ⟨trivial, hk⟩)) hg hat)
               have n1_ := Aside0.mk (blk_grown (g := gb540) (o := .cells #[.slice (some ad570) l0_0.length c0_0, .slice A0_1 l0_1.length c0_1, .int .i64 a0_2, .int .i64 a0_3] 25 (0, 0)) (by (with_reducible repeat (first | refine blk_drewN ?_ _ | refine blk_drew ?_ | refine blk_alloc ?_ _)); exact BK540.out) hg (Kd.R_ne HO_10.out BK540.out (by decide)))
               have n2_ := Aside0.mk (hb)
               have n3_ := Aside0.mk (ho)
               clear HO_11
               clear BK540
               clear HB
               clear HO_10
               have HO_11 := n0_
               have BK540 := n1_
               have HB := n2_
               have HO573 := n3_
               clear n0_ n1_ n2_ n3_
               clear ho hb hg hat
               refine hK.out _ _ ?_
               clear hK K
               refine norm_ (a' := ?_) ?_ ?_
               rotate_left
               ·
                show Act.put _ (some 88) _ = _
                simp only [Act.put, List.setIfInBounds_toArray, List.set_cons_zero, List.set_cons_succ, i64_w, i32_w]
                rfl
               refine pure_ (i := 12) (N := some 10) (v := ?_) (a' := ?_) #[true, true, true, true, true, true, true, true, true, true, true, true, true] rfl rfl (any_of HT_.out (by kernel_rfl)) (fun _ _ _ h => h) (Or.inl ⟨by rfl, ?_⟩) ?_ ?_
               rotate_left
               ·
                intro w'
                go_simp
                with_reducible rfl
               rotate_left
               ·
                simp only [Act.put, List.setIfInBounds_toArray, List.set_cons_zero, List.set_cons_succ, i64_w, i32_w]
                rfl
               refine done_ (done_of HT_.out (by kernel_rfl)) ?_
               try go_wp2
               go_roundg k2
               case measure => have := HJ7.out; have := HK2.out; omega
               case rel => exact ⟨(y571), (wrap64 (x12_2 + 1)), (by first | rfl | (simp; done) | (simp [*]; done)), H', ⟨by have := HJ7.out; have := HK2.out; omega⟩, ⟨by (with_reducible repeat (first | apply Kd.R_alloc | apply Kd.R_drewN | apply Kd.R_drew)); exact HO573.out⟩, ⟨by (with_reducible repeat (first | apply Kd.R_alloc | apply Kd.R_drewN | apply Kd.R_drew)); exact Kd.R_mono HO_11.out (fun _ hk => hk.2)⟩, ⟨by (with_reducible repeat (first | refine blk_drewN ?_ _ | refine blk_drew ?_ | refine blk_alloc ?_ _)); exact BK540.out⟩, ⟨by repeat (first | (with_reducible first | exact HB.out | apply below_alloc | apply pw_below_drewN | apply below_drew1 | refine below_set ?_ GE540.out) | exact HB.out)⟩⟩
              ·
               rw [if_neg c43] at H
               exact absurd H (by simp)
             ·
              rw [if_neg c42] at H
              exact absurd H (by simp)
            ·
             rw [if_neg c41] at H
             exact absurd H (by simp)
           ·
            rw [if_neg c40] at H
            exact absurd H (by simp)
          ·
           rw [if_neg c39] at H
           have c39b0 : decide (x12_2 < (t566.length : Int)) = false := decide_eq_false c39
           clear c39
           have H' := Aside0.mk H
           clear H
           obtain ⟨Ao47, co47, eo47⟩ := Kd.R_slice HO_11.out
           subst eo47
           go_wp2
           go_meet
           case rel => exact ⟨_, (x10_2), H', ⟨by have := HJ7.out; have := HK2.out; first | omega | exact Nat.le_refl _⟩, ⟨by (with_reducible repeat (first | apply Kd.R_alloc | apply Kd.R_drewN | apply Kd.R_drew)); exact Kd.R_mono HO_10.out (fun _ hk => trivial)⟩, ⟨by (with_reducible repeat (first | refine blk_drewN ?_ _ | refine blk_drew ?_ | refine blk_alloc ?_ _)); exact BK540.out⟩, ⟨by repeat (first | (with_reducible first | exact HB.out | apply below_alloc | apply pw_below_drewN | apply below_drew1 | refine below_set ?_ GE540.out) | exact HB.out)⟩⟩
       ·
        rw [if_neg c35] at H
        have c35b0 : decide (0 ≤ t564) = false := decide_eq_false c35
        clear c35
        (first | rw [c35b0] | (simp only [i64_w, i32_w]; rw [c35b0]) | skip)
        have H' := Aside0.mk H
        clear H
        go_wp2
        go_meet
        case rel => exact ⟨_, (([] : List Int)), H', ⟨by have := HJ7.out; first | omega | exact Nat.le_refl _⟩, ⟨by first | exact Kd.R_nil _ _ _ _ _ | exact Kd.N_nil _ _ _ _ _ | exact Kd.V_nil _ _ _ _ _ | exact Kd.Q_nil _ _ _ _ _ | exact Kd.S_nil _ _ _ _ _⟩, ⟨by (with_reducible repeat (first | refine blk_drewN ?_ _ | refine blk_drew ?_ | refine blk_alloc ?_ _)); exact BK540.out⟩, ⟨by repeat (first | (with_reducible first | exact HB.out | apply below_alloc | apply pw_below_drewN | apply below_drew1 | refine below_set ?_ GE540.out) | exact HB.out)⟩⟩
      case rest =>
       clear HC28
       try clear c1
       try clear c2
       try clear p2
       try clear c3
       try clear c4
       try clear p5
       try clear q5
       try clear hx5
       try clear p6
       try clear c8
       try clear c10
       try clear c19
       try clear c19b0
       try clear c19b1
       try clear c21
       try clear c22
       try clear c23
       try clear c25
       try clear c26
       try clear c26b0
       try clear c26b1
       try clear c27
       try clear c35
       try clear c35b0
       try clear c39
       try clear c39b0
       try clear c40
       try clear c40b0
       try clear c41
       try clear c41b0
       try clear c42
       try clear c42b0
       try clear c43
       try clear hcz17_0
       try clear hcz17_1
       try clear hcz17_2
       try clear hcz17_3
       try clear hcz29_0
       try clear hcz29_1
       try clear hcz29_2
       try clear hcz29_3
       try clear hcz33_0
       try clear hcz33_1
       try clear hcz33_2
       try clear hcz33_3
       try clear hcz37_0
       try clear hcz37_1
       try clear hcz37_2
       try clear hcz37_3
       try clear hfz17_0
       try clear hfz17_1
       try clear hfz17_2
       try clear hfz17_3
       try clear hfz29_0
       try clear hfz29_1
       try clear hfz29_2
       try clear hfz29_3
       try clear hfz33_0
       try clear hfz33_1
       try clear hfz33_2
       try clear hfz33_3
       try clear hfz37_0
       try clear hfz37_1
       try clear hfz37_2
       try clear hfz37_3
       try clear hx569_0
       try clear hx570_0
       try clear hx570_1
       try clear hx570_2
       try clear hx570_3
       try clear hx570_4
       try clear hx570_5
       try clear p2
       try clear p569
       try clear p570
       try clear q569
       try clear q570
       obtain ⟨kq, x10_27, HA, HJ27, HO_10, BK540, HB⟩ := hcut
       cases kq with
       | zero => exact absurd HA.out (by simp [larchlaw17_WeighHeavy.j2])
       | succ kj27 =>
        have H := HA.out
        clear HA
        simp only [larchlaw17_WeighHeavy.j2] at H
        replace H := Option.bind_eq_some_iff.mp H
        obtain ⟨t574, A480, H⟩ := H
        replace H : ((weigh_Heavy.f kj27 t574 x10_27).bind fun bt577 => (if bt577.2 = 0 then ((larchref17_Norm.f kj27 l0_0).bind fun t581 => ((larchref17_Same.f kj27 bt577.1 t581).bind fun t584 => (some t584))) else (none))) = some r := H
        have A48 := Aside0.mk A480
        clear A480
        replace H := Option.bind_eq_some_iff.mp H
        obtain ⟨⟨t577, t578⟩, A490, H⟩ := H
        replace H : (if t578 = 0 then ((larchref17_Norm.f kj27 l0_0).bind fun t581 => ((larchref17_Same.f kj27 t577 t581).bind fun t584 => (some t584))) else (none)) = some r := H
        have A49 := Aside0.mk A490
        clear A490
        by_cases c50 : t578 = 0
        ·
         rw [if_pos c50] at H
         have c50b0 : (t578 == 0) = true := beq_iff_eq.mpr c50
         have c50b1 : (t578 != 0) = false := bne_eq_false_iff_eq.mpr c50
         clear c50
         replace H := Option.bind_eq_some_iff.mp H
         obtain ⟨t581, A510, H⟩ := H
         replace H : ((larchref17_Same.f kj27 t577 t581).bind fun t584 => (some t584)) = some r := H
         have A51 := Aside0.mk A510
         clear A510
         replace H := Option.bind_eq_some_iff.mp H
         obtain ⟨t584, A520, H⟩ := H
         replace H : (some t584) = some r := H
         have A52 := Aside0.mk A520
         clear A520
         obtain rfl := Option.some.inj H
         have hcz53_0 : wc.cell? ⟨gb540, 0, none⟩ = some (.slice A0_0 l0_0.length c0_0) := (blk_cell BK540.out 0).trans rfl
         have hcz53_1 : wc.cell? ⟨gb540, 1, none⟩ = some (.slice A0_1 l0_1.length c0_1) := (blk_cell BK540.out 1).trans rfl
         have hcz53_2 : wc.cell? ⟨gb540, 2, none⟩ = some (.int .i64 a0_2) := (blk_cell BK540.out 2).trans rfl
         have hcz53_3 : wc.cell? ⟨gb540, 3, none⟩ = some (.int .i64 a0_3) := (blk_cell BK540.out 3).trans rfl
         have hfz53_0 := blk_frozen BK540.out 0
         have hfz53_1 := blk_frozen BK540.out 1
         have hfz53_2 := blk_frozen BK540.out 2
         have hfz53_3 := blk_frozen BK540.out 3
         go_wp2_with (first | ((with_reducible refine gate_callee (f := 10) rfl ?_); refine goesL_ (some 92) rfl rfl Try.func10 (by kernel_rfl) rfl #[.slice A0_0 l0_0.length c0_0] rfl (by (try simp only [List.map_toArray, List.map_cons, List.map_nil]); first | done | rfl | (simp only [List.length_drop, List.length_take]; rfl)) ?_; (with_reducible refine (larchlaw17_copied.calls _ _ l0_0 t574 _ ?side1 ?side2 A48.out).mono ?_); (case side1 => repeat (first | exact (Kd.C_below HR0_0.out HB.out) | (with_reducible refine Kd.C_alloc ?_ _) | (with_reducible refine Kd.C_drewN ?_ _) | (with_reducible refine Kd.C_drew ?_))); (case side2 => exact HC0_0.out); rintro e w54 ⟨v575, rfl, ho0, hb⟩; refine ⟨_, rfl, ?_⟩; have n0_ := Aside0.mk (Kd.R_below (by (with_reducible repeat (first | apply Kd.R_alloc | apply Kd.R_drewN | apply Kd.R_drew)); exact HO_10.out) hb); have n1_ := Aside0.mk (Kd.R_lower ho0 (below_size (by repeat (first | (with_reducible first | exact HB.out | apply below_alloc | apply pw_below_drewN | apply below_drew1 | refine below_set ?_ GE540.out) | exact HB.out)))); have n2_ := Aside0.mk (blk_below (g := gb540) (o := .cells #[.slice A0_0 l0_0.length c0_0, .slice A0_1 l0_1.length c0_1, .int .i64 a0_2, .int .i64 a0_3] 25 (0, 0)) (by (with_reducible repeat (first | refine blk_drewN ?_ _ | refine blk_drew ?_ | refine blk_alloc ?_ _)); exact BK540.out) hb); have n3_ := Aside0.mk (below_step (by repeat (first | (with_reducible first | exact HB.out | apply below_alloc | apply pw_below_drewN | apply below_drew1 | refine below_set ?_ GE540.out) | exact HB.out)) hb); clear HO_10; clear BK540; clear HB; have HO_10 := n0_; have HO576 := n1_; have BK540 := n2_; have HB := n3_; clear n0_ n1_ n2_ n3_; (try clear hb); (try clear hb2); (try clear hk); (try clear hi); (try clear ho0); obtain ⟨Ao55, co55, eo55⟩ := Kd.R_slice HO576.out; subst eo55; obtain ⟨Ao56, co56, eo56⟩ := Kd.R_slice HO_10.out; subst eo56) | ((with_reducible refine gate_callee (f := 21) rfl ?_); refine goesL_ (some 94) rfl rfl Try.func21 (by kernel_rfl) rfl #[.slice Ao55 t574.length co55, .slice Ao56 x10_27.length co56] rfl (by (try simp only [List.map_toArray, List.map_cons, List.map_nil]); first | done | rfl | (simp only [List.length_drop, List.length_take]; rfl)) ?_; (with_reducible refine (weigh_Heavy.calls kj27 _ _ t574 _ _ x10_27 t577 t578 _ ?side1 ?side2 ?side3 ?side4 A49.out).mono ?_); (case side1 => repeat (first | exact (Kd.R_reads' HO576.out).2.2 | (with_reducible refine Kd.C_alloc ?_ _) | (with_reducible refine Kd.C_drewN ?_ _) | (with_reducible refine Kd.C_drew ?_))); (case side2 => exact (Kd.R_reads' HO576.out).2.1); (case side3 => repeat (first | exact (Kd.R_reads' HO_10.out).2.2 | (with_reducible refine Kd.C_alloc ?_ _) | (with_reducible refine Kd.C_drewN ?_ _) | (with_reducible refine Kd.C_drew ?_))); (case side4 => exact (Kd.R_reads' HO_10.out).2.1); rintro e w57 ⟨v579, rfl, ho0, hb⟩; refine ⟨_, rfl, ?_⟩; have n0_ := Aside0.mk (Kd.R_below (by (with_reducible repeat (first | apply Kd.R_alloc | apply Kd.R_drewN | apply Kd.R_drew)); exact HO_10.out) hb); have n1_ := Aside0.mk (Kd.R_elder' (by (with_reducible repeat (first | apply Kd.R_alloc | apply Kd.R_drewN | apply Kd.R_drew)); exact HO576.out) (Kd.R_base ho0) hb); have n2_ := Aside0.mk (Kd.R_lower (Kd.R_new' ho0 (Kd.R_lt (by (with_reducible repeat (first | apply Kd.R_alloc | apply Kd.R_drewN | apply Kd.R_drew)); exact HO576.out))) (below_size (by repeat (first | (with_reducible first | exact HB.out | apply below_alloc | apply pw_below_drewN | apply below_drew1 | refine below_set ?_ GE540.out) | exact HB.out)))); have n3_ := Aside0.mk (blk_below (g := gb540) (o := .cells #[.slice A0_0 l0_0.length c0_0, .slice A0_1 l0_1.length c0_1, .int .i64 a0_2, .int .i64 a0_3] 25 (0, 0)) (by (with_reducible repeat (first | refine blk_drewN ?_ _ | refine blk_drew ?_ | refine blk_alloc ?_ _)); exact BK540.out) hb); have n4_ := Aside0.mk (below_step (by repeat (first | (with_reducible first | exact HB.out | apply below_alloc | apply pw_below_drewN | apply below_drew1 | refine below_set ?_ GE540.out) | exact HB.out)) hb); clear HO_10; clear HO576; clear BK540; clear HB; have HO_10 := n0_; have HO576 := n1_; have HO580 := n2_; have BK540 := n3_; have HB := n4_; clear n0_ n1_ n2_ n3_ n4_; (try clear hb); (try clear hb2); (try clear hk); (try clear hi); (try clear ho0); have hcz58_0 : w57.cell? ⟨gb540, 0, none⟩ = some (.slice A0_0 l0_0.length c0_0) := (blk_cell BK540.out 0).trans rfl; have hcz58_1 : w57.cell? ⟨gb540, 1, none⟩ = some (.slice A0_1 l0_1.length c0_1) := (blk_cell BK540.out 1).trans rfl; have hcz58_2 : w57.cell? ⟨gb540, 2, none⟩ = some (.int .i64 a0_2) := (blk_cell BK540.out 2).trans rfl; have hcz58_3 : w57.cell? ⟨gb540, 3, none⟩ = some (.int .i64 a0_3) := (blk_cell BK540.out 3).trans rfl; have hfz58_0 := blk_frozen BK540.out 0; have hfz58_1 := blk_frozen BK540.out 1; have hfz58_2 := blk_frozen BK540.out 2; have hfz58_3 := blk_frozen BK540.out 3) | (go_at_call 28; (with_reducible refine (larchref17_Norm.calls kj27 _ _ l0_0 t581 _ ?side1 ?side2 A51.out).mono ?_); (case side1 => repeat (first | exact (Kd.C_below HR0_0.out HB.out) | (with_reducible refine Kd.C_alloc ?_ _) | (with_reducible refine Kd.C_drewN ?_ _) | (with_reducible refine Kd.C_drew ?_))); (case side2 => exact HC0_0.out); rintro e w59 ⟨v582, rfl, ho0, hb⟩; have n0_ := Aside0.mk (Kd.R_below (by (with_reducible repeat (first | apply Kd.R_alloc | apply Kd.R_drewN | apply Kd.R_drew)); exact HO_10.out) hb); have n1_ := Aside0.mk (Kd.R_elder' (by (with_reducible repeat (first | apply Kd.R_alloc | apply Kd.R_drewN | apply Kd.R_drew)); exact HO576.out) (Kd.R_base ho0) hb); have n2_ := Aside0.mk (Kd.R_elder' (by (with_reducible repeat (first | apply Kd.R_alloc | apply Kd.R_drewN | apply Kd.R_drew)); exact HO580.out) (Kd.R_base ho0) hb); have n3_ := Aside0.mk (Kd.R_lower (Kd.R_new' (Kd.R_new' ho0 (Kd.R_lt (by (with_reducible repeat (first | apply Kd.R_alloc | apply Kd.R_drewN | apply Kd.R_drew)); exact HO576.out))) (Kd.R_lt (by (with_reducible repeat (first | apply Kd.R_alloc | apply Kd.R_drewN | apply Kd.R_drew)); exact HO580.out))) (below_size (by repeat (first | (with_reducible first | exact HB.out | apply below_alloc | apply pw_below_drewN | apply below_drew1 | refine below_set ?_ GE540.out) | exact HB.out)))); have n4_ := Aside0.mk (blk_below (g := gb540) (o := .cells #[.slice A0_0 l0_0.length c0_0, .slice A0_1 l0_1.length c0_1, .int .i64 a0_2, .int .i64 a0_3] 25 (0, 0)) (by (with_reducible repeat (first | refine blk_drewN ?_ _ | refine blk_drew ?_ | refine blk_alloc ?_ _)); exact BK540.out) hb); have n5_ := Aside0.mk (below_step (by repeat (first | (with_reducible first | exact HB.out | apply below_alloc | apply pw_below_drewN | apply below_drew1 | refine below_set ?_ GE540.out) | exact HB.out)) hb); clear HO_10; clear HO576; clear HO580; clear BK540; clear HB; have HO_10 := n0_; have HO576 := n1_; have HO580 := n2_; have HO583 := n3_; have BK540 := n4_; have HB := n5_; clear n0_ n1_ n2_ n3_ n4_ n5_; (try clear hb); (try clear hb2); (try clear hk); (try clear hi); (try clear ho0); obtain ⟨Ao60, co60, eo60⟩ := Kd.R_slice HO580.out; subst eo60; obtain ⟨Ao61, co61, eo61⟩ := Kd.R_slice HO583.out; subst eo61) | (go_at_call 24; (with_reducible refine (larchref17_Same.calls kj27 _ _ t577 _ _ t581 t584 _ ?side1 ?side2 ?side3 ?side4 A52.out).mono ?_); (case side1 => repeat (first | exact (Kd.R_reads' HO580.out).2.2 | (with_reducible refine Kd.C_alloc ?_ _) | (with_reducible refine Kd.C_drewN ?_ _) | (with_reducible refine Kd.C_drew ?_))); (case side2 => exact (Kd.R_reads' HO580.out).2.1); (case side3 => repeat (first | exact (Kd.R_reads' HO583.out).2.2 | (with_reducible refine Kd.C_alloc ?_ _) | (with_reducible refine Kd.C_drewN ?_ _) | (with_reducible refine Kd.C_drew ?_))); (case side4 => exact (Kd.R_reads' HO583.out).2.1); rintro e w' ⟨rfl, ⟨nd, rfl⟩⟩))
         go_ret
         exact ⟨by first | rfl | (simp [errW_none, errW_some] <;> rfl) | (simp [*, errW_none, errW_some] <;> rfl), by repeat (first | (with_reducible first | exact HB.out | apply below_alloc | apply pw_below_drewN | apply below_drew1 | refine below_set ?_ GE540.out) | exact HB.out)⟩
        ·
         rw [if_neg c50] at H
         exact absurd H (by simp)
     ·
      rw [if_neg c26] at H
      have c26b0 : (t561 == 0) = false := beq_eq_false_iff_ne.mpr c26
      have c26b1 : (t561 != 0) = true := bne_iff_ne.mpr c26
      by_cases c62 : (t548.length : Int) = 0
      ·
       rw [if_pos c62] at H
       have c62b0 : ((t548.length : Int) == 0) = true := beq_iff_eq.mpr c62
       have c62b1 : ((t548.length : Int) != 0) = false := bne_eq_false_iff_eq.mpr c62
       clear c62
       obtain rfl := Option.some.inj H
       have hcz63_0 : wc.cell? ⟨gb540, 0, none⟩ = some (.slice A0_0 l0_0.length c0_0) := (blk_cell BK540.out 0).trans rfl
       have hcz63_1 : wc.cell? ⟨gb540, 1, none⟩ = some (.slice A0_1 l0_1.length c0_1) := (blk_cell BK540.out 1).trans rfl
       have hcz63_2 : wc.cell? ⟨gb540, 2, none⟩ = some (.int .i64 a0_2) := (blk_cell BK540.out 2).trans rfl
       have hcz63_3 : wc.cell? ⟨gb540, 3, none⟩ = some (.int .i64 a0_3) := (blk_cell BK540.out 3).trans rfl
       have hfz63_0 := blk_frozen BK540.out 0
       have hfz63_1 := blk_frozen BK540.out 1
       have hfz63_2 := blk_frozen BK540.out 2
       have hfz63_3 := blk_frozen BK540.out 3
       go_wp2_with (first | ((with_reducible refine gate_callee (f := 10) rfl ?_); refine goesL_ (some 45) rfl rfl Try.func10 (by kernel_rfl) rfl #[.slice A0_0 l0_0.length c0_0] rfl (by (try simp only [List.map_toArray, List.map_cons, List.map_nil]); first | done | rfl | (simp only [List.length_drop, List.length_take]; rfl)) ?_; (with_reducible refine (larchlaw17_copied.calls _ _ l0_0 t557 _ ?side1 ?side2 A24.out).mono ?_); (case side1 => repeat (first | exact (Kd.C_below HR0_0.out HB.out) | (with_reducible refine Kd.C_alloc ?_ _) | (with_reducible refine Kd.C_drewN ?_ _) | (with_reducible refine Kd.C_drew ?_))); (case side2 => exact HC0_0.out); rintro e w64 ⟨v558, rfl, ho0, hb⟩; refine ⟨_, rfl, ?_⟩; have n0_ := Aside0.mk (Kd.R_elder' (by (with_reducible repeat (first | apply Kd.R_alloc | apply Kd.R_drewN | apply Kd.R_drew)); exact HO_3.out) (Kd.R_base ho0) hb); have n1_ := Aside0.mk (Kd.R_lower (Kd.R_new' ho0 (Kd.R_lt (by (with_reducible repeat (first | apply Kd.R_alloc | apply Kd.R_drewN | apply Kd.R_drew)); exact HO_3.out))) (below_size (by repeat (first | (with_reducible first | exact HB.out | apply below_alloc | apply pw_below_drewN | apply below_drew1 | refine below_set ?_ GE540.out) | exact HB.out)))); have n2_ := Aside0.mk (blk_below (g := gb540) (o := .cells #[.slice A0_0 l0_0.length c0_0, .slice A0_1 l0_1.length c0_1, .int .i64 a0_2, .int .i64 a0_3] 25 (0, 0)) (by (with_reducible repeat (first | refine blk_drewN ?_ _ | refine blk_drew ?_ | refine blk_alloc ?_ _)); exact BK540.out) hb); have n3_ := Aside0.mk (below_step (by repeat (first | (with_reducible first | exact HB.out | apply below_alloc | apply pw_below_drewN | apply below_drew1 | refine below_set ?_ GE540.out) | exact HB.out)) hb); clear HO_3; clear BK540; clear HB; have HO_3 := n0_; have HO559 := n1_; have BK540 := n2_; have HB := n3_; clear n0_ n1_ n2_ n3_; (try clear hb); (try clear hb2); (try clear hk); (try clear hi); (try clear ho0); obtain ⟨Ao65, co65, eo65⟩ := Kd.R_slice HO559.out; subst eo65) | ((with_reducible refine gate_callee (f := 25) rfl ?_); refine goesL_ (some 46) rfl rfl Try.func25 (by kernel_rfl) rfl #[.slice Ao65 t557.length co65] rfl (by (try simp only [List.map_toArray, List.map_cons, List.map_nil]); first | done | rfl | (simp only [List.length_drop, List.length_take]; rfl)) ?_; (with_reducible refine (weigh_Sums.calls kj7 _ _ t557 t560 t561 _ ?side1 ?side2 A25.out).mono ?_); (case side1 => repeat (first | exact (Kd.R_reads' HO559.out).2.2 | (with_reducible refine Kd.C_alloc ?_ _) | (with_reducible refine Kd.C_drewN ?_ _) | (with_reducible refine Kd.C_drew ?_))); (case side2 => exact (Kd.R_reads' HO559.out).2.1); rintro e w66 ⟨v562, rfl, ho0, hb⟩; refine ⟨_, rfl, ?_⟩; have n0_ := Aside0.mk (Kd.R_below (by (with_reducible repeat (first | apply Kd.R_alloc | apply Kd.R_drewN | apply Kd.R_drew)); exact HO_3.out) hb); have n1_ := Aside0.mk (Kd.R_below (by (with_reducible repeat (first | apply Kd.R_alloc | apply Kd.R_drewN | apply Kd.R_drew)); exact HO559.out) hb); have n2_ := Aside0.mk (Kd.R_lower ho0 (below_size (by repeat (first | (with_reducible first | exact HB.out | apply below_alloc | apply pw_below_drewN | apply below_drew1 | refine below_set ?_ GE540.out) | exact HB.out)))); have n3_ := Aside0.mk (blk_below (g := gb540) (o := .cells #[.slice A0_0 l0_0.length c0_0, .slice A0_1 l0_1.length c0_1, .int .i64 a0_2, .int .i64 a0_3] 25 (0, 0)) (by (with_reducible repeat (first | refine blk_drewN ?_ _ | refine blk_drew ?_ | refine blk_alloc ?_ _)); exact BK540.out) hb); have n4_ := Aside0.mk (below_step (by repeat (first | (with_reducible first | exact HB.out | apply below_alloc | apply pw_below_drewN | apply below_drew1 | refine below_set ?_ GE540.out) | exact HB.out)) hb); clear HO_3; clear HO559; clear BK540; clear HB; have HO_3 := n0_; have HO559 := n1_; have HO563 := n2_; have BK540 := n3_; have HB := n4_; clear n0_ n1_ n2_ n3_ n4_; (try clear hb); (try clear hb2); (try clear hk); (try clear hi); (try clear ho0); obtain ⟨Ao67, co67, eo67⟩ := Kd.R_slice HO_3.out; subst eo67; obtain ⟨Ao68, co68, eo68⟩ := Kd.R_slice HO563.out; subst eo68))
       go_ret
       exact ⟨by first | rfl | (simp [errW_none, errW_some] <;> rfl) | (simp [*, errW_none, errW_some] <;> rfl), by repeat (first | (with_reducible first | exact HB.out | apply below_alloc | apply pw_below_drewN | apply below_drew1 | refine below_set ?_ GE540.out) | exact HB.out)⟩
      ·
       rw [if_neg c62] at H
       exact absurd H (by simp)
 ·
  replace c3 := Bool.eq_false_iff.mpr c3
  subst c3
  have H1 : (none) = some r := by rw [if_neg (show ¬ (false = true) by decide)] at H; exact H
  clear H
  have H := H1
  clear H1
  exact absurd H (by simp)
end Go.Proofs.Ytmmjkebboonnkaa.P
