/- P.weighFaults_holds, part 19 of 23: the contracts of the Go functions that the law calls, its own walk, and its plain law, for every input that the statement speaks of. -/
import Derived.Test.YtmmjkebboonnkaaMFaults2
import Derived.Test.YtmmjkebboonnkaaMFaults15
import Derived.Test.YtmmjkebboonnkaaMFaults1
import Derived.Test.YtmmjkebboonnkaaMFaults3
import Derived.Test.YtmmjkebboonnkaaMFaults12
import Derived.Test.YtmmjkebboonnkaaMFaults10
import Derived.Test.YtmmjkebboonnkaaMFaults16
import Derived.Test.YtmmjkebboonnkaaMFaults17
import Derived.Test.YtmmjkebboonnkaaMFaults4
set_option linter.unusedVariables false
set_option linter.unusedSimpArgs false
/- F15 -/
namespace Go.Proofs.Ytmmjkebboonnkaa.P
open Go.RowKit Go.Proofs.YtmmjkebboonnkaaW.PrintWords Go.Proofs.YtmmjkebboonnkaaW.PrintLast Go.Proofs.YtmmjkebboonnkaaW.PrintMore
attribute [local go_sem] max2_int min2_int max_two min_two max_three min_three max_four min_four   -- for this text's walks alone
set_option linter.unusedVariables false
set_option linter.unusedSimpArgs false
def weigh_Violations.l0 : Nat → List (S49) → Int → List Int → Int → Int → Option (Int × Int)
 | 0, _, _, _, _, _ => none
 | k + 1, x0, x6, x26, x27, x28 => if x28 < x27 then (if 0 ≤ x28 then (if x28 < (x26.length : Int) then (if 0 ≤ (rd x26 x28) then (if (rd x26 x28) < (x0.length : Int) then (weigh_Violations.l0 k x0 (wrap64 (x6 + (wrap64 (((rd_T49 x0 (rd x26 x28)).f2) - 1)))) x26 x27 (wrap64 (x28 + 1))) else (none)) else (none)) else (none)) else (none)) else (some (x6, 0))
def weigh_Violations.f (k : Nat) (l0 : List (S49)) : Option (Int × Int) := (weigh_Reds.f k l0).bind fun bt188 => (if bt188.2 = 0 then ((weigh_Overs.f k l0).bind fun bt192 => (weigh_Violations.l0 k l0 (bt188.1.length : Int) bt192.1 (bt192.1.length : Int) 0)) else (some (0, bt188.2)))
theorem weigh_Violations.mono_l : ∀ k, (∀ y0 y1 y2 y3 y4, LeO (weigh_Violations.l0 k y0 y1 y2 y3 y4) (weigh_Violations.l0 (k + 1) y0 y1 y2 y3 y4))
 | 0 => fun _ _ _ _ _ r h => by simp [weigh_Violations.l0] at h
 | k + 1 => by
  have ih0 := weigh_Violations.mono_l k
  ·
   intro y0 y1 y2 y3 y4
   unfold weigh_Violations.l0
   repeat' first
   | (with_reducible exact ih0 _ _ _ _ _)
   | (with_reducible exact weigh_Overs.mono _ _)
   | (with_reducible exact weigh_Reds.mono _ _)
   | (with_reducible exact LeO.refl _)
   | (with_reducible exact LeO.none _)
   | (with_reducible refine LeO.ite ?_ ?_)
   | (with_reducible refine LeO.bind ?_ (fun _ => ?_))
   | exact ih0 _ _ _ _ _
   | exact weigh_Overs.mono _ _
   | exact weigh_Reds.mono _ _
   | exact LeO.none _
   | refine LeO.ite ?_ ?_
   | refine LeO.bind ?_ (fun _ => ?_)
theorem weigh_Violations.mono : ∀ a0 k, LeO (weigh_Violations.f k a0) (weigh_Violations.f (k + 1) a0) := by
 intro a0 k
 have ih0 := weigh_Violations.mono_l k
 unfold weigh_Violations.f
 repeat' first
   | (with_reducible exact ih0 _ _ _ _ _)
   | (with_reducible exact weigh_Overs.mono _ _)
   | (with_reducible exact weigh_Reds.mono _ _)
   | (with_reducible exact LeO.refl _)
   | (with_reducible exact LeO.none _)
   | (with_reducible refine LeO.ite ?_ ?_)
   | (with_reducible refine LeO.bind ?_ (fun _ => ?_))
   | exact ih0 _ _ _ _ _
   | exact weigh_Overs.mono _ _
   | exact weigh_Reds.mono _ _
   | exact LeO.none _
   | refine LeO.ite ?_ ?_
   | refine LeO.bind ?_ (fun _ => ?_)
set_option maxHeartbeats 8000000 in
set_option maxRecDepth 100000 in
theorem weigh_Violations.calls (k : Nat) (A0 : Option Addr) (c0 : Nat) (l0 : List (S49)) (r1 : Int) (r2 : Int) (w : World) (hr0 : Kd.C k49 w A0 l0.length l0) (hc0 : l0.length ≤ c0) (h : weigh_Violations.f k l0 = some (r1, r2)) :
  Calls Try.prog 15 #[.slice A0 l0.length c0] w fun e w' => e = .returned (.tuple #[.int .i64 r1, .int .i64 r2]) ∧ Below w.heap.size w w' := by
 have HR0 := Aside0.mk hr0
 have HC0 := Aside0.mk hc0
 clear hr0 hc0
 have HB := Aside0.mk (Below.refl w.heap.size w)
 have H : ((weigh_Reds.f k l0).bind fun bt188 => (if bt188.2 = 0 then ((weigh_Overs.f k l0).bind fun bt192 => (weigh_Violations.l0 k l0 (bt188.1.length : Int) bt192.1 (bt192.1.length : Int) 0)) else (some (0, bt188.2)))) = some (r1, r2) := h
 clear h
 replace H := Option.bind_eq_some_iff.mp H
 obtain ⟨⟨t188, t189⟩, A20, H⟩ := H
 replace H : (if t189 = 0 then ((weigh_Overs.f k l0).bind fun bt192 => (weigh_Violations.l0 k l0 (t188.length : Int) bt192.1 (bt192.1.length : Int) 0)) else (some (0, t189))) = some (r1, r2) := H
 have A2 := Aside0.mk A20
 clear A20
 by_cases c3 : t189 = 0
 ·
  rw [if_pos c3] at H
  have c3b0 : (t189 == 0) = true := beq_iff_eq.mpr c3
  have c3b1 : (t189 != 0) = false := bne_eq_false_iff_eq.mpr c3
  clear c3
  replace H := Option.bind_eq_some_iff.mp H
  obtain ⟨⟨t192, t193⟩, A40, H⟩ := H
  replace H : (weigh_Violations.l0 k l0 (t188.length : Int) t192 (t192.length : Int) 0) = some (r1, r2) := H
  have A4 := Aside0.mk A40
  clear A40
  have H' := Aside0.mk H
  clear H
  go_enter Try.func15, Try.ntmps15
  go_wp2_with (first | ((with_reducible refine gate_callee (f := 9) rfl ?_); refine goesL_ (some 13) rfl rfl Try.func9 (by kernel_rfl) rfl #[.slice A0 l0.length c0] rfl ags ?_; (with_reducible refine (weigh_Reds.calls k _ _ l0 t188 t189 _ ?side1 ?side2 A2.out).mono ?_); (case side1 => exact skC HR0.out); (case side2 => exact HC0.out); rintro e w5 ⟨v190, rfl, ho0, hb⟩; refine ⟨_, rfl, ?_⟩; have n0_ := Aside0.mk (Kd.R_lower ho0 (below_size (skB HB.out))); have n1_ := Aside0.mk (below_step (skB HB.out) hb); clear HB; have HO191 := n0_; have HB := n1_; clear n0_ n1_; (try clear hb); (try clear hb2); (try clear hk); (try clear hi); (try clear ho0); obtain ⟨Ao6, co6, eo6⟩ := Kd.R_slice HO191.out; subst eo6) | ((with_reducible refine gate_callee (f := 13) rfl ?_); refine goesL_ (some 23) rfl rfl Try.func13 (by kernel_rfl) rfl #[.slice A0 l0.length c0] rfl ags ?_; (with_reducible refine (weigh_Overs.calls k _ _ l0 t192 t193 _ ?side1 ?side2 A4.out).mono ?_); (case side1 => exact skC (Kd.C_below HR0.out HB.out)); (case side2 => exact HC0.out); rintro e w7 ⟨v194, rfl, ho0, hb⟩; refine ⟨_, rfl, ?_⟩; have n0_ := Aside0.mk (Kd.R_elder' (skR HO191.out) (Kd.R_base ho0) hb); have n1_ := Aside0.mk (Kd.R_lower (Kd.R_new' ho0 (Kd.R_lt (skR HO191.out))) (below_size (skB HB.out))); have n2_ := Aside0.mk (below_step (skB HB.out) hb); clear HO191; clear HB; have HO191 := n0_; have HO195 := n1_; have HB := n2_; clear n0_ n1_ n2_; (try clear hb); (try clear hb2); (try clear hk); (try clear hi); (try clear ho0); obtain ⟨Ao8, co8, eo8⟩ := Kd.R_slice HO195.out; subst eo8))
  go_loopg [6, 28] k (fun kq v6 v28 w' => ∃ (x6_1 : Int) (x28_1 : Int), v6 = .int .i64 x6_1 ∧ v28 = .int .i64 x28_1 ∧ Aside0 (weigh_Violations.l0 kq l0 x6_1 t192 (t192.length : Int) x28_1 = some (r1, r2)) ∧ Aside0 (kq ≤ k) ∧ Aside0 (Kd.R (Kd.int .i64) 3 w' w.heap.size (fun _ => True) (.slice Ao8 t192.length co8) t192) ∧ Aside0 (Below w.heap.size w w'))
  case atStart => exact ⟨((t188.length : Int)), (0), rs, rs, H', ⟨Nat.le_refl _⟩, ⟨skR (Kd.R_mono HO195.out (fun _ hk => trivial))⟩, ⟨skB HB.out⟩⟩
  case round =>
   clear H'
   try clear c1
   try clear p2
   try clear c3
   try clear c3b0
   try clear c3b1
   obtain ⟨x6_1, x28_1, rfl, rfl, HA, HK1, HO_26, HB⟩ := hrel
   cases gk with
   | zero => exact absurd HA.out (by simp [weigh_Violations.l0])
   | succ k1 =>
    have H := HA.out
    clear HA
    simp only [weigh_Violations.l0] at H
    by_cases c9 : x28_1 < (t192.length : Int)
    ·
     rw [if_pos c9] at H
     have c9b0 : decide (x28_1 < (t192.length : Int)) = true := decide_eq_true c9
     clear c9
     by_cases c10 : 0 ≤ x28_1
     ·
      rw [if_pos c10] at H
      have c10b0 : decide (0 ≤ x28_1) = true := decide_eq_true c10
      clear c10
      by_cases c11 : x28_1 < (t192.length : Int)
      ·
       rw [if_pos c11] at H
       have c11b0 : decide (x28_1 < (t192.length : Int)) = true := decide_eq_true c11
       clear c11
       by_cases c12 : 0 ≤ (rd t192 x28_1)
       ·
        rw [if_pos c12] at H
        have c12b0 : decide (0 ≤ (rd t192 x28_1)) = true := decide_eq_true c12
        clear c12
        by_cases c13 : (rd t192 x28_1) < (l0.length : Int)
        ·
         rw [if_pos c13] at H
         have c13b0 : decide ((rd t192 x28_1) < (l0.length : Int)) = true := decide_eq_true c13
         clear c13
         have H' := Aside0.mk H
         clear H
         have p196 : 0 ≤ (x28_1 : Int) := dt
         have q196 : x28_1 < (t192.length : Int) := dt
         obtain ⟨ad196, e196, hx196_0⟩ := Kd.at_int (Kd.R_reads' HO_26.out).2.2 x28_1 p196 q196
         cases e196
         replace p196 := eq_true p196
         replace q196 := eq_true q196
         have p197 : 0 ≤ ((rd t192 x28_1) : Int) := dt
         have q197 : (rd t192 x28_1) < (l0.length : Int) := dt
         obtain ⟨ad197, e197, hx197_0, hx197_1, hx197_2, hx197_3, hx197_4, hx197_5⟩ := at_T49 HR0.out (rd t192 x28_1) p197 q197
         cases e197
         replace hx197_0 := skc HB.out hx197_0
         replace hx197_1 := skc HB.out hx197_1
         replace hx197_2 := skc HB.out hx197_2
         replace hx197_3 := skc HB.out hx197_3
         replace hx197_4 := skc HB.out hx197_4
         replace hx197_5 := skc HB.out hx197_5
         replace p197 := eq_true p197
         replace q197 := eq_true q197
         go_wp2
         go_roundg k1
         case measure => have := HK1.out; omega
         case rel => exact ⟨(wrap64 (x6_1 + (wrap64 (((rd_T49 l0 (rd t192 x28_1)).f2) - 1)))), (wrap64 (x28_1 + 1)), rs, rs, H', ⟨by have := HK1.out; omega⟩, ⟨skR HO_26.out⟩, ⟨skB HB.out⟩⟩
        ·
         rw [if_neg c13] at H
         exact absurd H (by simp)
       ·
        rw [if_neg c12] at H
        exact absurd H (by simp)
      ·
       rw [if_neg c11] at H
       exact absurd H (by simp)
     ·
      rw [if_neg c10] at H
      exact absurd H (by simp)
    ·
     rw [if_neg c9] at H
     have c9b0 : decide (x28_1 < (t192.length : Int)) = false := decide_eq_false c9
     clear c9
     simp only [Option.some.injEq, Prod.mk.injEq] at H
     obtain ⟨rfl, rfl⟩ := H
     go_wp2
     go_ret2
     exact ⟨re, skB HB.out⟩
 ·
  rw [if_neg c3] at H
  have c3b0 : (t189 == 0) = false := beq_eq_false_iff_ne.mpr c3
  have c3b1 : (t189 != 0) = true := bne_iff_ne.mpr c3
  simp only [Option.some.injEq, Prod.mk.injEq] at H
  obtain ⟨rfl, rfl⟩ := H
  go_enter Try.func15, Try.ntmps15
  go_wp2_with (first | ((with_reducible refine gate_callee (f := 9) rfl ?_); refine goesL_ (some 13) rfl rfl Try.func9 (by kernel_rfl) rfl #[.slice A0 l0.length c0] rfl ags ?_; (with_reducible refine (weigh_Reds.calls k _ _ l0 t188 t189 _ ?side1 ?side2 A2.out).mono ?_); (case side1 => exact skC HR0.out); (case side2 => exact HC0.out); rintro e w14 ⟨v190, rfl, ho0, hb⟩; refine ⟨_, rfl, ?_⟩; have n0_ := Aside0.mk (Kd.R_lower ho0 (below_size (skB HB.out))); have n1_ := Aside0.mk (below_step (skB HB.out) hb); clear HB; have HO191 := n0_; have HB := n1_; clear n0_ n1_; (try clear hb); (try clear hb2); (try clear hk); (try clear hi); (try clear ho0)))
  go_ret2
  exact ⟨re, skB HB.out⟩
end Go.Proofs.Ytmmjkebboonnkaa.P
/- F26 -/
namespace Go.Proofs.Ytmmjkebboonnkaa.P
open Go.RowKit Go.Proofs.YtmmjkebboonnkaaW.PrintWords Go.Proofs.YtmmjkebboonnkaaW.PrintLast Go.Proofs.YtmmjkebboonnkaaW.PrintMore
attribute [local go_sem] max2_int min2_int max_two min_two max_three min_three max_four min_four   -- for this text's walks alone
set_option linter.unusedVariables false
set_option linter.unusedSimpArgs false
def larchlaw17_fixed.f (k : Nat)  : Option (Bool) := (larchlaw17_a.f).bind fun t249 => ((weigh_Sums.f k t249).bind fun bt252 => ((larchlaw17_a.f).bind fun t256 => ((weigh_Heavy.f k t256 (([0, 0, 3] : List Int))).bind fun bt262 => ((weigh_Violations.f k bt262.1).bind fun bt266 => ((weigh_First.f k bt262.1 9).bind fun bt268 => ((weigh_Bound.f 7).bind fun bt270 => (if bt252.2 = 0 then ((larchref17_SameInts.f k bt252.1 (([2, 2] : List Int))).bind fun t275 => (if t275 = true then (if bt262.2 = 0 then (if bt266.2 = 0 then (if bt266.1 = 3 then (if bt268.2 = 0 then (if bt268.1 = 4 then (if bt270.2 = 0 then (some (bt270.1 == 12)) else (none)) else (none)) else (none)) else (none)) else (none)) else (none)) else (none))) else (none))))))))
theorem larchlaw17_fixed.mono : ∀ k, LeO (larchlaw17_fixed.f k ) (larchlaw17_fixed.f (k + 1) ) := by
 intro  k
 unfold larchlaw17_fixed.f
 repeat' first
   | (with_reducible exact larchref17_SameInts.mono _ _ _)
   | (with_reducible exact weigh_First.mono _ _ _)
   | (with_reducible exact weigh_Heavy.mono _ _ _)
   | (with_reducible exact weigh_Sums.mono _ _)
   | (with_reducible exact weigh_Violations.mono _ _)
   | (with_reducible exact LeO.refl _)
   | (with_reducible exact LeO.none _)
   | (with_reducible refine LeO.ite ?_ ?_)
   | (with_reducible refine LeO.bind ?_ (fun _ => ?_))
   | exact larchref17_SameInts.mono _ _ _
   | exact weigh_First.mono _ _ _
   | exact weigh_Heavy.mono _ _ _
   | exact weigh_Sums.mono _ _
   | exact weigh_Violations.mono _ _
   | exact LeO.none _
   | refine LeO.ite ?_ ?_
   | refine LeO.bind ?_ (fun _ => ?_)
set_option maxHeartbeats 8000000 in
set_option maxRecDepth 100000 in
theorem larchlaw17_fixed.calls (k : Nat)  (r : Bool) (w : World) (h : larchlaw17_fixed.f k  = some r) :
  Calls Try.prog 8 #[] w fun e w' => e = .returned (.bool r) ∧ Below w.heap.size w w' := by
 have HB := Aside0.mk (Below.refl w.heap.size w)
 have H : ((larchlaw17_a.f).bind fun t249 => ((weigh_Sums.f k t249).bind fun bt252 => ((larchlaw17_a.f).bind fun t256 => ((weigh_Heavy.f k t256 (([0, 0, 3] : List Int))).bind fun bt262 => ((weigh_Violations.f k bt262.1).bind fun bt266 => ((weigh_First.f k bt262.1 9).bind fun bt268 => ((weigh_Bound.f 7).bind fun bt270 => (if bt252.2 = 0 then ((larchref17_SameInts.f k bt252.1 (([2, 2] : List Int))).bind fun t275 => (if t275 = true then (if bt262.2 = 0 then (if bt266.2 = 0 then (if bt266.1 = 3 then (if bt268.2 = 0 then (if bt268.1 = 4 then (if bt270.2 = 0 then (some (bt270.1 == 12)) else (none)) else (none)) else (none)) else (none)) else (none)) else (none)) else (none))) else (none))))))))) = some r := h
 clear h
 replace H := Option.bind_eq_some_iff.mp H
 obtain ⟨t249, A10, H⟩ := H
 replace H : ((weigh_Sums.f k t249).bind fun bt252 => ((larchlaw17_a.f).bind fun t256 => ((weigh_Heavy.f k t256 (([0, 0, 3] : List Int))).bind fun bt262 => ((weigh_Violations.f k bt262.1).bind fun bt266 => ((weigh_First.f k bt262.1 9).bind fun bt268 => ((weigh_Bound.f 7).bind fun bt270 => (if bt252.2 = 0 then ((larchref17_SameInts.f k bt252.1 (([2, 2] : List Int))).bind fun t275 => (if t275 = true then (if bt262.2 = 0 then (if bt266.2 = 0 then (if bt266.1 = 3 then (if bt268.2 = 0 then (if bt268.1 = 4 then (if bt270.2 = 0 then (some (bt270.1 == 12)) else (none)) else (none)) else (none)) else (none)) else (none)) else (none)) else (none))) else (none)))))))) = some r := H
 have A1 := Aside0.mk A10
 clear A10
 replace H := Option.bind_eq_some_iff.mp H
 obtain ⟨⟨t252, t253⟩, A20, H⟩ := H
 replace H : ((larchlaw17_a.f).bind fun t256 => ((weigh_Heavy.f k t256 (([0, 0, 3] : List Int))).bind fun bt262 => ((weigh_Violations.f k bt262.1).bind fun bt266 => ((weigh_First.f k bt262.1 9).bind fun bt268 => ((weigh_Bound.f 7).bind fun bt270 => (if t253 = 0 then ((larchref17_SameInts.f k t252 (([2, 2] : List Int))).bind fun t275 => (if t275 = true then (if bt262.2 = 0 then (if bt266.2 = 0 then (if bt266.1 = 3 then (if bt268.2 = 0 then (if bt268.1 = 4 then (if bt270.2 = 0 then (some (bt270.1 == 12)) else (none)) else (none)) else (none)) else (none)) else (none)) else (none)) else (none))) else (none))))))) = some r := H
 have A2 := Aside0.mk A20
 clear A20
 replace H := Option.bind_eq_some_iff.mp H
 obtain ⟨t256, A30, H⟩ := H
 replace H : ((weigh_Heavy.f k t256 (([0, 0, 3] : List Int))).bind fun bt262 => ((weigh_Violations.f k bt262.1).bind fun bt266 => ((weigh_First.f k bt262.1 9).bind fun bt268 => ((weigh_Bound.f 7).bind fun bt270 => (if t253 = 0 then ((larchref17_SameInts.f k t252 (([2, 2] : List Int))).bind fun t275 => (if t275 = true then (if bt262.2 = 0 then (if bt266.2 = 0 then (if bt266.1 = 3 then (if bt268.2 = 0 then (if bt268.1 = 4 then (if bt270.2 = 0 then (some (bt270.1 == 12)) else (none)) else (none)) else (none)) else (none)) else (none)) else (none)) else (none))) else (none)))))) = some r := H
 have A3 := Aside0.mk A30
 clear A30
 obtain ⟨y259, hy259⟩ : ∃ y_ : List Int, y_ = (([0, 0, 3] : List Int)) := ⟨_, rfl⟩
 replace H : ((weigh_Heavy.f k t256 y259).bind fun bt262 => ((weigh_Violations.f k bt262.1).bind fun bt266 => ((weigh_First.f k bt262.1 9).bind fun bt268 => ((weigh_Bound.f 7).bind fun bt270 => (if t253 = 0 then ((larchref17_SameInts.f k t252 (([2, 2] : List Int))).bind fun t275 => (if t275 = true then (if bt262.2 = 0 then (if bt266.2 = 0 then (if bt266.1 = 3 then (if bt268.2 = 0 then (if bt268.1 = 4 then (if bt270.2 = 0 then (some (bt270.1 == 12)) else (none)) else (none)) else (none)) else (none)) else (none)) else (none)) else (none))) else (none)))))) = some r := by first | (rw [hy259]; with_reducible exact H) | (have H2_ := (Option.bind_some _ _).symm.trans H; rw [hy259]; with_reducible exact H2_) | (have H2_ := (Option.bind_some _ _).symm.trans H; with_reducible exact H2_) | with_reducible exact H | (rw [hy259]; exact H) | exact H
 have Ny259 := Aside0.mk hy259
 clear hy259
 replace H := Option.bind_eq_some_iff.mp H
 obtain ⟨⟨t262, t263⟩, A40, H⟩ := H
 replace H : ((weigh_Violations.f k t262).bind fun bt266 => ((weigh_First.f k t262 9).bind fun bt268 => ((weigh_Bound.f 7).bind fun bt270 => (if t253 = 0 then ((larchref17_SameInts.f k t252 (([2, 2] : List Int))).bind fun t275 => (if t275 = true then (if t263 = 0 then (if bt266.2 = 0 then (if bt266.1 = 3 then (if bt268.2 = 0 then (if bt268.1 = 4 then (if bt270.2 = 0 then (some (bt270.1 == 12)) else (none)) else (none)) else (none)) else (none)) else (none)) else (none)) else (none))) else (none))))) = some r := H
 have A4 := Aside0.mk A40
 clear A40
 replace H := Option.bind_eq_some_iff.mp H
 obtain ⟨⟨t266, t267⟩, A50, H⟩ := H
 replace H : ((weigh_First.f k t262 9).bind fun bt268 => ((weigh_Bound.f 7).bind fun bt270 => (if t253 = 0 then ((larchref17_SameInts.f k t252 (([2, 2] : List Int))).bind fun t275 => (if t275 = true then (if t263 = 0 then (if t267 = 0 then (if t266 = 3 then (if bt268.2 = 0 then (if bt268.1 = 4 then (if bt270.2 = 0 then (some (bt270.1 == 12)) else (none)) else (none)) else (none)) else (none)) else (none)) else (none)) else (none))) else (none)))) = some r := H
 have A5 := Aside0.mk A50
 clear A50
 replace H := Option.bind_eq_some_iff.mp H
 obtain ⟨⟨t268, t269⟩, A60, H⟩ := H
 replace H : ((weigh_Bound.f 7).bind fun bt270 => (if t253 = 0 then ((larchref17_SameInts.f k t252 (([2, 2] : List Int))).bind fun t275 => (if t275 = true then (if t263 = 0 then (if t267 = 0 then (if t266 = 3 then (if t269 = 0 then (if t268 = 4 then (if bt270.2 = 0 then (some (bt270.1 == 12)) else (none)) else (none)) else (none)) else (none)) else (none)) else (none)) else (none))) else (none))) = some r := H
 have A6 := Aside0.mk A60
 clear A60
 replace H := Option.bind_eq_some_iff.mp H
 obtain ⟨⟨t270, t271⟩, A70, H⟩ := H
 replace H : (if t253 = 0 then ((larchref17_SameInts.f k t252 (([2, 2] : List Int))).bind fun t275 => (if t275 = true then (if t263 = 0 then (if t267 = 0 then (if t266 = 3 then (if t269 = 0 then (if t268 = 4 then (if t271 = 0 then (some (t270 == 12)) else (none)) else (none)) else (none)) else (none)) else (none)) else (none)) else (none))) else (none)) = some r := H
 have A7 := Aside0.mk A70
 clear A70
 by_cases c8 : t253 = 0
 ·
  rw [if_pos c8] at H
  have c8b0 : (t253 == 0) = true := beq_iff_eq.mpr c8
  have c8b1 : (t253 != 0) = false := bne_eq_false_iff_eq.mpr c8
  clear c8
  obtain ⟨y272, hy272⟩ : ∃ y_ : List Int, y_ = (([2, 2] : List Int)) := ⟨_, rfl⟩
  replace H : ((larchref17_SameInts.f k t252 y272).bind fun t275 => (if t275 = true then (if t263 = 0 then (if t267 = 0 then (if t266 = 3 then (if t269 = 0 then (if t268 = 4 then (if t271 = 0 then (some (t270 == 12)) else (none)) else (none)) else (none)) else (none)) else (none)) else (none)) else (none))) = some r := by first | (rw [hy272]; with_reducible exact H) | (have H2_ := (Option.bind_some _ _).symm.trans H; rw [hy272]; with_reducible exact H2_) | (have H2_ := (Option.bind_some _ _).symm.trans H; with_reducible exact H2_) | with_reducible exact H | (rw [hy272]; exact H) | exact H
  have Ny272 := Aside0.mk hy272
  clear hy272
  replace H := Option.bind_eq_some_iff.mp H
  obtain ⟨t275, A90, H⟩ := H
  replace H : (if t275 = true then (if t263 = 0 then (if t267 = 0 then (if t266 = 3 then (if t269 = 0 then (if t268 = 4 then (if t271 = 0 then (some (t270 == 12)) else (none)) else (none)) else (none)) else (none)) else (none)) else (none)) else (none)) = some r := H
  have A9 := Aside0.mk A90
  clear A90
  by_cases c10 : t275 = true
  ·
   subst c10
   have H1 : (if t263 = 0 then (if t267 = 0 then (if t266 = 3 then (if t269 = 0 then (if t268 = 4 then (if t271 = 0 then (some (t270 == 12)) else (none)) else (none)) else (none)) else (none)) else (none)) else (none)) = some r := by rw [if_pos rfl] at H; exact H
   clear H
   have H := H1
   clear H1
   by_cases c11 : t263 = 0
   ·
    rw [if_pos c11] at H
    have c11b0 : (t263 == 0) = true := beq_iff_eq.mpr c11
    have c11b1 : (t263 != 0) = false := bne_eq_false_iff_eq.mpr c11
    clear c11
    by_cases c12 : t267 = 0
    ·
     rw [if_pos c12] at H
     have c12b0 : (t267 == 0) = true := beq_iff_eq.mpr c12
     have c12b1 : (t267 != 0) = false := bne_eq_false_iff_eq.mpr c12
     clear c12
     by_cases c13 : t266 = 3
     ·
      rw [if_pos c13] at H
      have c13b0 : (t266 == 3) = true := beq_iff_eq.mpr c13
      have c13b1 : (t266 != 3) = false := bne_eq_false_iff_eq.mpr c13
      clear c13
      by_cases c14 : t269 = 0
      ·
       rw [if_pos c14] at H
       have c14b0 : (t269 == 0) = true := beq_iff_eq.mpr c14
       have c14b1 : (t269 != 0) = false := bne_eq_false_iff_eq.mpr c14
       clear c14
       by_cases c15 : t268 = 4
       ·
        rw [if_pos c15] at H
        have c15b0 : (t268 == 4) = true := beq_iff_eq.mpr c15
        have c15b1 : (t268 != 4) = false := bne_eq_false_iff_eq.mpr c15
        clear c15
        by_cases c16 : t271 = 0
        ·
         rw [if_pos c16] at H
         have c16b0 : (t271 == 0) = true := beq_iff_eq.mpr c16
         have c16b1 : (t271 != 0) = false := bne_eq_false_iff_eq.mpr c16
         clear c16
         obtain rfl := Option.some.inj H
         go_enter Try.func8, Try.ntmps8
         go_wp2_with (first | ((with_reducible refine gate_callee (f := 43) rfl ?_); refine goesL_ (some 12) rfl rfl Try.func43 (by kernel_rfl) rfl #[] rfl ags ?_; (with_reducible refine (larchlaw17_a.calls  t249 _ A1.out).mono ?_); rintro e w17 ⟨v250, rfl, ho0, hb⟩; refine ⟨_, rfl, ?_⟩; have n0_ := Aside0.mk (Kd.R_lower ho0 (below_size (skB HB.out))); have n1_ := Aside0.mk (below_step (skB HB.out) hb); clear HB; have HO251 := n0_; have HB := n1_; clear n0_ n1_; (try clear hb); (try clear hb2); (try clear hk); (try clear hi); (try clear ho0); obtain ⟨Ao18, co18, eo18⟩ := Kd.R_slice HO251.out; subst eo18) | ((with_reducible refine gate_callee (f := 25) rfl ?_); refine goesL_ (some 13) rfl rfl Try.func25 (by kernel_rfl) rfl #[.slice Ao18 t249.length co18] rfl ags ?_; (with_reducible refine (weigh_Sums.calls k _ _ t249 t252 t253 _ ?side1 ?side2 A2.out).mono ?_); (case side1 => exact skC (Kd.R_reads' HO251.out).2.2); (case side2 => exact (Kd.R_reads' HO251.out).2.1); rintro e w19 ⟨v254, rfl, ho0, hb⟩; refine ⟨_, rfl, ?_⟩; have n0_ := Aside0.mk (Kd.R_below (skR HO251.out) hb); have n1_ := Aside0.mk (Kd.R_lower ho0 (below_size (skB HB.out))); have n2_ := Aside0.mk (below_step (skB HB.out) hb); clear HO251; clear HB; have HO251 := n0_; have HO255 := n1_; have HB := n2_; clear n0_ n1_ n2_; (try clear hb); (try clear hb2); (try clear hk); (try clear hi); (try clear ho0)) | ((with_reducible refine gate_callee (f := 43) rfl ?_); refine goesL_ (some 17) rfl rfl Try.func43 (by kernel_rfl) rfl #[] rfl ags ?_; (with_reducible refine (larchlaw17_a.calls  t256 _ A3.out).mono ?_); rintro e w20 ⟨v257, rfl, ho0, hb⟩; refine ⟨_, rfl, ?_⟩; have n0_ := Aside0.mk (Kd.R_elder' (skR HO251.out) (Kd.R_base ho0) hb); have n1_ := Aside0.mk (Kd.R_below (skR HO255.out) hb); have n2_ := Aside0.mk (Kd.R_lower (Kd.R_new' ho0 (Kd.R_lt (skR HO251.out))) (below_size (skB HB.out))); have n3_ := Aside0.mk (below_step (skB HB.out) hb); clear HO251; clear HO255; clear HB; have HO251 := n0_; have HO255 := n1_; have HO258 := n2_; have HB := n3_; clear n0_ n1_ n2_ n3_; (try clear hb); (try clear hb2); (try clear hk); (try clear hi); (try clear ho0)) | ((with_reducible refine gate_dst (N := 18) rfl ?_); (try (refine gate_guard (by rfl) ?_; dsimp only)); refine Kd.R_lit (Kd.int .i64) _ 3 ?hg (N := 18) ?hd (xs := ([0, 0, 3] : List Int)) (inner := [.int .i64 0, .int .i64 0, .int .i64 3]) (ok := fun _ => True) (okp := fun _ => True) ?hr ?hp (fun _ hk => hk) trivial (Below.refl _ _) (Nat.le_refl _) (by simp) ?_; (case hd => rfl); (case hg => rfl); (case hr => first | (go_simp; done) | (go_simp; rfl)); (case hp => exact (Reps.one (show Kd.M (Kd.int .i64) _ _ _ 0 [.int .i64 0] from rfl) (Reps.one (show Kd.M (Kd.int .i64) _ _ _ 0 [.int .i64 0] from rfl) (Reps.one (show Kd.M (Kd.int .i64) _ _ _ 3 [.int .i64 3] from rfl) (Reps.none _ _))))); intro v260 w21 ho22 hb hg_ hnew_; clear hg_ hnew_; (first | rw [← Ny259.out] at ho22 | (simp only [Int.reduceToNat] at ho22; rw [← Ny259.out] at ho22)); have n0_ := Aside0.mk (Kd.R_below (skR HO251.out) hb); have n1_ := Aside0.mk (Kd.R_elder' (skR HO255.out) (Kd.R_base ho22) hb); have n2_ := Aside0.mk (Kd.R_below (skR HO258.out) hb); have n3_ := Aside0.mk (Kd.R_lower (Kd.R_new' ho22 (Kd.R_lt (skR HO255.out))) (below_size (skB HB.out))); have n4_ := Aside0.mk (below_step (skB HB.out) hb); clear HO251; clear HO255; clear HO258; clear HB; have HO251 := n0_; have HO255 := n1_; have HO258 := n2_; have HO261 := n3_; have HB := n4_; clear n0_ n1_ n2_ n3_ n4_; clear hb ho22; obtain ⟨Ao23, co23, eo23⟩ := Kd.R_slice HO258.out; subst eo23; obtain ⟨Ao24, co24, eo24⟩ := Kd.R_slice HO261.out; subst eo24) | ((with_reducible refine gate_callee (f := 21) rfl ?_); refine goesL_ (some 19) rfl rfl Try.func21 (by kernel_rfl) rfl #[.slice Ao23 t256.length co23, .slice Ao24 y259.length co24] rfl ags ?_; (with_reducible refine (weigh_Heavy.calls k _ _ t256 _ _ y259 t262 t263 _ ?side1 ?side2 ?side3 ?side4 A4.out).mono ?_); (case side1 => exact skC (Kd.R_reads' HO258.out).2.2); (case side2 => exact (Kd.R_reads' HO258.out).2.1); (case side3 => exact skC (Kd.R_reads' HO261.out).2.2); (case side4 => exact (Kd.R_reads' HO261.out).2.1); rintro e w25 ⟨v264, rfl, ho0, hb⟩; refine ⟨_, rfl, ?_⟩; have n0_ := Aside0.mk (Kd.R_elder' (skR HO251.out) (Kd.R_base ho0) hb); have n1_ := Aside0.mk (Kd.R_below (skR HO255.out) hb); have n2_ := Aside0.mk (Kd.R_elder' (skR HO258.out) (Kd.R_base ho0) hb); have n3_ := Aside0.mk (Kd.R_below (skR HO261.out) hb); have n4_ := Aside0.mk (Kd.R_lower (Kd.R_new' (Kd.R_new' ho0 (Kd.R_lt (skR HO251.out))) (Kd.R_lt (skR HO258.out))) (below_size (skB HB.out))); have n5_ := Aside0.mk (below_step (skB HB.out) hb); clear HO251; clear HO255; clear HO258; clear HO261; clear HB; have HO251 := n0_; have HO255 := n1_; have HO258 := n2_; have HO261 := n3_; have HO265 := n4_; have HB := n5_; clear n0_ n1_ n2_ n3_ n4_ n5_; (try clear hb); (try clear hb2); (try clear hk); (try clear hi); (try clear ho0); obtain ⟨Ao26, co26, eo26⟩ := Kd.R_slice HO265.out; subst eo26) | ((with_reducible refine gate_callee (f := 15) rfl ?_); refine goesL_ (some 24) rfl rfl Try.func15 (by kernel_rfl) rfl #[.slice Ao26 t262.length co26] rfl ags ?_; (with_reducible refine (weigh_Violations.calls k _ _ t262 t266 t267 _ ?side1 ?side2 A5.out).mono ?_); (case side1 => exact skC (Kd.R_reads' HO265.out).2.2); (case side2 => exact (Kd.R_reads' HO265.out).2.1); rintro e w27 ⟨rfl, hb⟩; refine ⟨_, rfl, ?_⟩; have n0_ := Aside0.mk (Kd.R_below (skR HO251.out) hb); have n1_ := Aside0.mk (Kd.R_below (skR HO255.out) hb); have n2_ := Aside0.mk (Kd.R_below (skR HO258.out) hb); have n3_ := Aside0.mk (Kd.R_below (skR HO261.out) hb); have n4_ := Aside0.mk (Kd.R_below (skR HO265.out) hb); have n5_ := Aside0.mk (below_step (skB HB.out) hb); clear HO251; clear HO255; clear HO258; clear HO261; clear HO265; clear HB; have HO251 := n0_; have HO255 := n1_; have HO258 := n2_; have HO261 := n3_; have HO265 := n4_; have HB := n5_; clear n0_ n1_ n2_ n3_ n4_ n5_; (try clear hb); (try clear hb2); (try clear hk); (try clear hi)) | ((with_reducible refine gate_callee (f := 17) rfl ?_); refine goesL_ (some 29) rfl rfl Try.func17 (by kernel_rfl) rfl #[.slice Ao26 t262.length co26, .int .i64 9] rfl ags ?_; (with_reducible refine (weigh_First.calls k _ _ t262 9 t268 t269 _ ?side1 ?side2 A6.out).mono ?_); (case side1 => exact skC (Kd.R_reads' HO265.out).2.2); (case side2 => exact (Kd.R_reads' HO265.out).2.1); rintro e w28 ⟨rfl, hb⟩; refine ⟨_, rfl, ?_⟩; have n0_ := Aside0.mk (Kd.R_below (skR HO251.out) hb); have n1_ := Aside0.mk (Kd.R_below (skR HO255.out) hb); have n2_ := Aside0.mk (Kd.R_below (skR HO258.out) hb); have n3_ := Aside0.mk (Kd.R_below (skR HO261.out) hb); have n4_ := Aside0.mk (Kd.R_below (skR HO265.out) hb); have n5_ := Aside0.mk (below_step (skB HB.out) hb); clear HO251; clear HO255; clear HO258; clear HO261; clear HO265; clear HB; have HO251 := n0_; have HO255 := n1_; have HO258 := n2_; have HO261 := n3_; have HO265 := n4_; have HB := n5_; clear n0_ n1_ n2_ n3_ n4_ n5_; (try clear hb); (try clear hb2); (try clear hk); (try clear hi)) | ((with_reducible refine gate_callee (f := 40) rfl ?_); refine goesL_ (some 33) rfl rfl Try.func40 (by kernel_rfl) rfl #[.int .i64 7] rfl ags ?_; (with_reducible refine (weigh_Bound.calls 7 t270 t271 _ A7.out).mono ?_); rintro e w' ⟨rfl, ⟨nd, rfl⟩⟩; refine ⟨_, rfl, ?_⟩) | ((with_reducible refine gate_dst (N := 40) rfl ?_); (try (refine gate_guard (by rfl) ?_; dsimp only)); refine Kd.R_lit (Kd.int .i64) _ 3 ?hg (N := 40) ?hd (xs := ([2, 2] : List Int)) (inner := [.int .i64 2, .int .i64 2]) (ok := fun _ => True) (okp := fun _ => True) ?hr ?hp (fun _ hk => hk) trivial (Below.refl _ _) (Nat.le_refl _) (by simp) ?_; (case hd => rfl); (case hg => rfl); (case hr => first | (go_simp; done) | (go_simp; rfl)); (case hp => exact (Reps.one (show Kd.M (Kd.int .i64) _ _ _ 2 [.int .i64 2] from rfl) (Reps.one (show Kd.M (Kd.int .i64) _ _ _ 2 [.int .i64 2] from rfl) (Reps.none _ _)))); intro v273 w29 ho30 hb hg_ hnew_; clear hg_ hnew_; (first | rw [← Ny272.out] at ho30 | (simp only [Int.reduceToNat] at ho30; rw [← Ny272.out] at ho30)); have n0_ := Aside0.mk (Kd.R_below (skR HO251.out) hb); have n1_ := Aside0.mk (Kd.R_elder' (skR HO255.out) (Kd.R_base ho30) hb); have n2_ := Aside0.mk (Kd.R_below (skR HO258.out) hb); have n3_ := Aside0.mk (Kd.R_elder' (skR HO261.out) (Kd.R_base ho30) hb); have n4_ := Aside0.mk (Kd.R_below (skR HO265.out) hb); have n5_ := Aside0.mk (Kd.R_lower (Kd.R_new' (Kd.R_new' ho30 (Kd.R_lt (skR HO255.out))) (Kd.R_lt (skR HO261.out))) (below_size (skB HB.out))); have n6_ := Aside0.mk (below_step (skB HB.out) hb); clear HO251; clear HO255; clear HO258; clear HO261; clear HO265; clear HB; have HO251 := n0_; have HO255 := n1_; have HO258 := n2_; have HO261 := n3_; have HO265 := n4_; have HO274 := n5_; have HB := n6_; clear n0_ n1_ n2_ n3_ n4_ n5_ n6_; clear hb ho30; obtain ⟨Ao31, co31, eo31⟩ := Kd.R_slice HO255.out; subst eo31; obtain ⟨Ao32, co32, eo32⟩ := Kd.R_slice HO274.out; subst eo32) | (go_at_call 12; (with_reducible refine (larchref17_SameInts.calls k _ _ t252 _ _ y272 true _ ?side1 ?side2 ?side3 ?side4 A9.out).mono ?_); (case side1 => exact skC (Kd.R_reads' HO255.out).2.2); (case side2 => exact (Kd.R_reads' HO255.out).2.1); (case side3 => exact skC (Kd.R_reads' HO274.out).2.2); (case side4 => exact (Kd.R_reads' HO274.out).2.1); rintro e w' ⟨rfl, ⟨nd, rfl⟩⟩))
         go_ret
         exact ⟨re, skB HB.out⟩
        ·
         rw [if_neg c16] at H
         exact absurd H (by simp)
       ·
        rw [if_neg c15] at H
        exact absurd H (by simp)
      ·
       rw [if_neg c14] at H
       exact absurd H (by simp)
     ·
      rw [if_neg c13] at H
      exact absurd H (by simp)
    ·
     rw [if_neg c12] at H
     exact absurd H (by simp)
   ·
    rw [if_neg c11] at H
    exact absurd H (by simp)
  ·
   replace c10 := Bool.eq_false_iff.mpr c10
   subst c10
   have H1 : (none) = some r := by rw [if_neg (show ¬ (false = true) by decide)] at H; exact H
   clear H
   have H := H1
   clear H1
   exact absurd H (by simp)
 ·
  rw [if_neg c8] at H
  exact absurd H (by simp)
end Go.Proofs.Ytmmjkebboonnkaa.P
/- F43 -/
namespace Go.Proofs.Ytmmjkebboonnkaa.P
open Go.RowKit Go.Proofs.YtmmjkebboonnkaaW.PrintWords Go.Proofs.YtmmjkebboonnkaaW.PrintLast Go.Proofs.YtmmjkebboonnkaaW.PrintMore
attribute [local go_sem] max2_int min2_int max_two min_two max_three min_three max_four min_four   -- for this text's walks alone
set_option linter.unusedVariables false
set_option linter.unusedSimpArgs false
mutual
def larchlaw17_WeighFaults.j0 : Nat → Bool → List (S49) → List Int → Int → Int → Option (Bool)
 | 0, _, _, _, _, _ => none
 | k + 1, x39, x462000, x462001, x462002, x462003 => if x39 = true then (none) else ((larchlaw17_copied.f x462000).bind fun t475 => ((weigh_Overs.f k t475).bind fun bt478 => ((larchref17_Overs.f k x462000).bind fun bt482 => (if bt478.2 = bt482.2 then ((larchref17_SameInts.f k bt478.1 bt482.1).bind fun t486 => (larchlaw17_WeighFaults.j1 k (!t486) x462000 x462001 x462002 x462003)) else (larchlaw17_WeighFaults.j1 k true x462000 x462001 x462002 x462003)))))
def larchlaw17_WeighFaults.j1 : Nat → Bool → List (S49) → List Int → Int → Int → Option (Bool)
 | 0, _, _, _, _, _ => none
 | k + 1, x61, x462000, x462001, x462002, x462003 => if x61 = true then (none) else ((larchlaw17_copied.f x462000).bind fun t487 => ((weigh_Violations.f k t487).bind fun bt490 => ((larchref17_Violations.f k x462000).bind fun bt492 => (if bt490.1 = bt492.1 then (larchlaw17_WeighFaults.j2 k bt490.1 (bt490.2 != bt492.2) x462000 x462001 x462002 x462003) else (larchlaw17_WeighFaults.j2 k bt490.1 true x462000 x462001 x462002 x462003)))))
def larchlaw17_WeighFaults.j2 : Nat → Int → Bool → List (S49) → List Int → Int → Int → Option (Bool)
 | 0, _, _, _, _, _, _ => none
 | k + 1, x7, x82, x462000, x462001, x462002, x462003 => if x82 = true then (none) else ((larchlaw17_copied.f x462000).bind fun t494 => ((weigh_First.f k t494 x462002).bind fun bt497 => ((larchref17_First.f k x462000 x462002).bind fun bt499 => (if bt497.1 = bt499.1 then (larchlaw17_WeighFaults.j3 k bt497.2 x7 (bt497.2 != bt499.2) x462000 x462001 x462002 x462003) else (larchlaw17_WeighFaults.j3 k bt497.2 x7 true x462000 x462001 x462002 x462003)))))
def larchlaw17_WeighFaults.j3 : Nat → Int → Int → Bool → List (S49) → List Int → Int → Int → Option (Bool)
 | 0, _, _, _, _, _, _, _ => none
 | k + 1, x4, x7, x107, x462000, x462001, x462002, x462003 => if x107 = true then (none) else (if x4 = 0 then (if (x462000.length : Int) > 4000 then (larchlaw17_WeighFaults.j4 k x7 true x462000 x462001 x462002 x462003) else ((larchref17_Ordered.f k x462000).bind fun t501 => (larchlaw17_WeighFaults.j4 k x7 (!t501) x462000 x462001 x462002 x462003))) else (larchlaw17_WeighFaults.j4 k x7 true x462000 x462001 x462002 x462003))
def larchlaw17_WeighFaults.j4 : Nat → Int → Bool → List (S49) → List Int → Int → Int → Option (Bool)
 | 0, _, _, _, _, _, _ => none
 | k + 1, x7, x121, x462000, x462001, x462002, x462003 => if x121 = true then (some true) else ((larchref17_Pairs.f k x462000).bind fun t502 => (larchlaw17_WeighFaults.l0 k x7 t502 false 0 x462000 x462001 x462002 x462003))
def larchlaw17_WeighFaults.l0 : Nat → Int → List (S39) → Bool → Int → List (S49) → List Int → Int → Int → Option (Bool)
 | 0, _, _, _, _, _, _, _, _ => none
 | k + 1, x7, x11, x12, x13, x462000, x462001, x462002, x462003 => if x13 < (x11.length : Int) then (larchlaw17_WeighFaults.j6 k x7 x11 x12 x13 (decide (x13 < 200)) x462000 x462001 x462002 x462003) else (larchlaw17_WeighFaults.j6 k x7 x11 x12 x13 false x462000 x462001 x462002 x462003)
def larchlaw17_WeighFaults.j6 : Nat → Int → List (S39) → Bool → Int → Bool → List (S49) → List Int → Int → Int → Option (Bool)
 | 0, _, _, _, _, _, _, _, _, _ => none
 | k + 1, x7, x11, x12, x13, x132, x462000, x462001, x462002, x462003 => if x132 = true then ((larchlaw17_copied.f x462000).bind fun t505 => (if 0 ≤ x13 then (if x13 < (x11.length : Int) then ((weigh_First.f k t505 ((rd_T39 x11 x13).f0)).bind fun bt509 => (if bt509.2 = 0 then (if x12 = true then (larchlaw17_WeighFaults.l0 k x7 x11 true (wrap64 (x13 + 1)) x462000 x462001 x462002 x462003) else (larchlaw17_WeighFaults.l0 k x7 x11 (decide (bt509.1 ≥ 0)) (wrap64 (x13 + 1)) x462000 x462001 x462002 x462003)) else (none))) else (none)) else (none))) else (if (x12 == (decide (x7 > 0))) = true then (some true) else (some (decide ((x11.length : Int) > 200))))
end
def larchlaw17_WeighFaults.f (k : Nat) (l0_0 : List (S49)) (l0_1 : List Int) (a0_2 : Int) (a0_3 : Int) : Option (Bool) := (larchlaw17_fixed.f k).bind fun t462 => (if t462 = true then ((larchlaw17_copied.f l0_0).bind fun t463 => ((weigh_Reds.f k t463).bind fun bt466 => ((larchref17_Reds.f k l0_0).bind fun bt470 => (if bt466.2 = bt470.2 then ((larchref17_SameInts.f k bt466.1 bt470.1).bind fun t474 => (larchlaw17_WeighFaults.j0 k (!t474) l0_0 l0_1 a0_2 a0_3)) else (larchlaw17_WeighFaults.j0 k true l0_0 l0_1 a0_2 a0_3))))) else (none))
def larchlaw17_WeighFaults.T15 : Bool × List (List Nat × List Nat) := (true, [([], []), ([0], [0]), ([1], [1]), ([], []), ([3], [3]), ([2, 4, 2], [2, 4]), ([5], [5]), ([6], [6]), ([6], [6]), ([7, 5, 0, 1, 2, 3, 4, 5, 6, 7], [7]), ([8, 9, 0, 1, 2, 3, 4, 5, 6, 7, 8, 9], [8])])
def larchlaw17_WeighFaults.B15 : List Nat := [0, 1, 3, 0, 8, 31, 63, 127, 127, 255, 1023]
theorem larchlaw17_WeighFaults.tab15 : rtab .any (opsOf Try.f3 15) = larchlaw17_WeighFaults.T15 := by kernel_rfl
theorem larchlaw17_WeighFaults.bits15 : waitsOk larchlaw17_WeighFaults.T15.2 larchlaw17_WeighFaults.B15 = true := by kernel_rfl
def larchlaw17_WeighFaults.T26 : Bool × List (List Nat × List Nat) := (true, [([], []), ([0], [0]), ([1], [1]), ([], []), ([], []), ([3, 4], [3, 4]), ([5], [5]), ([6], [6]), ([2, 7, 2], [2, 7]), ([8], [8]), ([9], [9]), ([9], [9]), ([10, 8, 0, 1, 2, 3, 4, 5, 6, 7, 8, 9, 10], [10]), ([11, 12, 0, 1, 2, 3, 4, 5, 6, 7, 8, 9, 10, 11, 12], [11])])
def larchlaw17_WeighFaults.B26 : List Nat := [0, 1, 3, 0, 0, 24, 56, 120, 255, 511, 1023, 1023, 2047, 8191]
theorem larchlaw17_WeighFaults.tab26 : rtab .any (opsOf Try.f3 26) = larchlaw17_WeighFaults.T26 := by kernel_rfl
theorem larchlaw17_WeighFaults.bits26 : waitsOk larchlaw17_WeighFaults.T26.2 larchlaw17_WeighFaults.B26 = true := by kernel_rfl
set_option maxHeartbeats 8000000 in
set_option maxRecDepth 100000 in
theorem larchlaw17_WeighFaults.calls (k : Nat) (A0_0 : Option Addr) (c0_0 : Nat) (l0_0 : List (S49)) (A0_1 : Option Addr) (c0_1 : Nat) (l0_1 : List Int) (a0_2 : Int) (a0_3 : Int) (r : Bool) (w : World) (hr0_0 : Kd.C k49 w A0_0 l0_0.length l0_0) (hc0_0 : l0_0.length ≤ c0_0) (hr0_1 : Kd.C (Kd.int .i64) w A0_1 l0_1.length l0_1) (hc0_1 : l0_1.length ≤ c0_1) (h : larchlaw17_WeighFaults.f k l0_0 l0_1 a0_2 a0_3 = some r) :
  Calls Try.prog 3 #[.agg #[.slice A0_0 l0_0.length c0_0, .slice A0_1 l0_1.length c0_1, .int .i64 a0_2, .int .i64 a0_3]] w fun e w' => e = .returned (.bool r) ∧ Below w.heap.size w w' := by
 have hu25 := Try.underlying25
 have HR0_0 := Aside0.mk hr0_0
 have HC0_0 := Aside0.mk hc0_0
 clear hr0_0 hc0_0
 have HR0_1 := Aside0.mk hr0_1
 have HC0_1 := Aside0.mk hc0_1
 clear hr0_1 hc0_1
 have HB := Aside0.mk (Below.refl w.heap.size w)
 have H : ((larchlaw17_fixed.f k).bind fun t462 => (if t462 = true then ((larchlaw17_copied.f l0_0).bind fun t463 => ((weigh_Reds.f k t463).bind fun bt466 => ((larchref17_Reds.f k l0_0).bind fun bt470 => (if bt466.2 = bt470.2 then ((larchref17_SameInts.f k bt466.1 bt470.1).bind fun t474 => (larchlaw17_WeighFaults.j0 k (!t474) l0_0 l0_1 a0_2 a0_3)) else (larchlaw17_WeighFaults.j0 k true l0_0 l0_1 a0_2 a0_3))))) else (none))) = some r := h
 clear h
 replace H := Option.bind_eq_some_iff.mp H
 obtain ⟨t462, A20, H⟩ := H
 replace H : (if t462 = true then ((larchlaw17_copied.f l0_0).bind fun t463 => ((weigh_Reds.f k t463).bind fun bt466 => ((larchref17_Reds.f k l0_0).bind fun bt470 => (if bt466.2 = bt470.2 then ((larchref17_SameInts.f k bt466.1 bt470.1).bind fun t474 => (larchlaw17_WeighFaults.j0 k (!t474) l0_0 l0_1 a0_2 a0_3)) else (larchlaw17_WeighFaults.j0 k true l0_0 l0_1 a0_2 a0_3))))) else (none)) = some r := H
 have A2 := Aside0.mk A20
 clear A20
 by_cases c3 : t462 = true
 ·
  subst c3
  have H1 : ((larchlaw17_copied.f l0_0).bind fun t463 => ((weigh_Reds.f k t463).bind fun bt466 => ((larchref17_Reds.f k l0_0).bind fun bt470 => (if bt466.2 = bt470.2 then ((larchref17_SameInts.f k bt466.1 bt470.1).bind fun t474 => (larchlaw17_WeighFaults.j0 k (!t474) l0_0 l0_1 a0_2 a0_3)) else (larchlaw17_WeighFaults.j0 k true l0_0 l0_1 a0_2 a0_3))))) = some r := by rw [if_pos rfl] at H; exact H
  clear H
  have H := H1
  clear H1
  replace H := Option.bind_eq_some_iff.mp H
  obtain ⟨t463, A40, H⟩ := H
  replace H : ((weigh_Reds.f k t463).bind fun bt466 => ((larchref17_Reds.f k l0_0).bind fun bt470 => (if bt466.2 = bt470.2 then ((larchref17_SameInts.f k bt466.1 bt470.1).bind fun t474 => (larchlaw17_WeighFaults.j0 k (!t474) l0_0 l0_1 a0_2 a0_3)) else (larchlaw17_WeighFaults.j0 k true l0_0 l0_1 a0_2 a0_3)))) = some r := H
  have A4 := Aside0.mk A40
  clear A40
  replace H := Option.bind_eq_some_iff.mp H
  obtain ⟨⟨t466, t467⟩, A50, H⟩ := H
  replace H : ((larchref17_Reds.f k l0_0).bind fun bt470 => (if t467 = bt470.2 then ((larchref17_SameInts.f k t466 bt470.1).bind fun t474 => (larchlaw17_WeighFaults.j0 k (!t474) l0_0 l0_1 a0_2 a0_3)) else (larchlaw17_WeighFaults.j0 k true l0_0 l0_1 a0_2 a0_3))) = some r := H
  have A5 := Aside0.mk A50
  clear A50
  replace H := Option.bind_eq_some_iff.mp H
  obtain ⟨⟨t470, t471⟩, A60, H⟩ := H
  replace H : (if t467 = t471 then ((larchref17_SameInts.f k t466 t470).bind fun t474 => (larchlaw17_WeighFaults.j0 k (!t474) l0_0 l0_1 a0_2 a0_3)) else (larchlaw17_WeighFaults.j0 k true l0_0 l0_1 a0_2 a0_3)) = some r := H
  have A6 := Aside0.mk A60
  clear A60
  have HC7 := Aside0.mk H
  clear H
  go_enter Try.func3, Try.ntmps3
  go_upto_region 5 with (first | ((with_reducible refine gate_dst (N := 1) rfl ?_); (try (refine gate_guard (by rfl) ?_; dsimp only)); refine box_event ?hg (N := 1) ?hd (cs := #[.slice A0_0 l0_0.length c0_0, .slice A0_1 l0_1.length c0_1, .int .i64 a0_2, .int .i64 a0_3]) (t := 25) ?hr ?_; (case hd => rfl); (case hg => rfl); (case hr => first | (go_simp; done) | (go_simp; rfl)); intro gb461 hg w8 hbox hb; have n0_ := Aside0.mk (below_step (skB HB.out) hb); have n1_ := Aside0.mk (hbox); have n2_ := Aside0.mk ((by rw [hg]; exact (below_size (skB HB.out)) : w.heap.size ≤ gb461)); have n3_ := Aside0.mk ((by rw [hg]; exact (below_size (skB HB.out)) : w.heap.size ≤ gb461)); clear HB; have HB := n0_; have BK461 := n1_; have GW461 := n2_; have GE461 := n3_; clear n0_ n1_ n2_ n3_; clear hb hbox hg) | ((with_reducible refine gate_callee (f := 8) rfl ?_); refine goesL_ (some 16) rfl rfl Try.func8 (by kernel_rfl) rfl #[] rfl ags ?_; (with_reducible refine (larchlaw17_fixed.calls k  true _ A2.out).mono ?_); rintro e w9 ⟨rfl, hb⟩; refine ⟨_, rfl, ?_⟩; have n0_ := Aside0.mk (blk_below (g := gb461) (o := .cells #[.slice A0_0 l0_0.length c0_0, .slice A0_1 l0_1.length c0_1, .int .i64 a0_2, .int .i64 a0_3] 25 (0, 0)) (skK BK461.out) hb); have n1_ := Aside0.mk (below_step (by repeat (first | (with_reducible first | exact HB.out | apply below_alloc | apply pw_below_drewN | apply below_drew1 | refine below_set ?_ GE461.out) | exact HB.out)) hb); clear BK461; clear HB; have BK461 := n0_; have HB := n1_; clear n0_ n1_; (try clear hb); (try clear hb2); (try clear hk); (try clear hi); obtain ⟨hcz10_0, hcz10_1, hcz10_2, hcz10_3, hfz10_0, hfz10_1, hfz10_2, hfz10_3⟩ := bk4 BK461.out) | ((with_reducible refine gate_callee (f := 10) rfl ?_); refine goesL_ (some 21) rfl rfl Try.func10 (by kernel_rfl) rfl #[.slice A0_0 l0_0.length c0_0] rfl ags ?_; (with_reducible refine (larchlaw17_copied.calls _ _ l0_0 t463 _ ?side1 ?side2 A4.out).mono ?_); (case side1 => exact skC (Kd.C_below HR0_0.out HB.out)); (case side2 => exact HC0_0.out); rintro e w11 ⟨v464, rfl, ho0, hb⟩; refine ⟨_, rfl, ?_⟩; have n0_ := Aside0.mk (Kd.R_lower ho0 (below_size (by repeat (first | (with_reducible first | exact HB.out | apply below_alloc | apply pw_below_drewN | apply below_drew1 | refine below_set ?_ GE461.out) | exact HB.out)))); have n1_ := Aside0.mk (blk_below (g := gb461) (o := .cells #[.slice A0_0 l0_0.length c0_0, .slice A0_1 l0_1.length c0_1, .int .i64 a0_2, .int .i64 a0_3] 25 (0, 0)) (skK BK461.out) hb); have n2_ := Aside0.mk (below_step (by repeat (first | (with_reducible first | exact HB.out | apply below_alloc | apply pw_below_drewN | apply below_drew1 | refine below_set ?_ GE461.out) | exact HB.out)) hb); clear BK461; clear HB; have HO465 := n0_; have BK461 := n1_; have HB := n2_; clear n0_ n1_ n2_; (try clear hb); (try clear hb2); (try clear hk); (try clear hi); (try clear ho0); obtain ⟨Ao12, co12, eo12⟩ := Kd.R_slice HO465.out; subst eo12) | ((with_reducible refine gate_callee (f := 9) rfl ?_); refine goesL_ (some 22) rfl rfl Try.func9 (by kernel_rfl) rfl #[.slice Ao12 t463.length co12] rfl ags ?_; (with_reducible refine (weigh_Reds.calls k _ _ t463 t466 t467 _ ?side1 ?side2 A5.out).mono ?_); (case side1 => exact skC (Kd.R_reads' HO465.out).2.2); (case side2 => exact (Kd.R_reads' HO465.out).2.1); rintro e w13 ⟨v468, rfl, ho0, hb⟩; refine ⟨_, rfl, ?_⟩; have n0_ := Aside0.mk (Kd.R_below (skR HO465.out) hb); have n1_ := Aside0.mk (Kd.R_lower ho0 (below_size (by repeat (first | (with_reducible first | exact HB.out | apply below_alloc | apply pw_below_drewN | apply below_drew1 | refine below_set ?_ GE461.out) | exact HB.out)))); have n2_ := Aside0.mk (blk_below (g := gb461) (o := .cells #[.slice A0_0 l0_0.length c0_0, .slice A0_1 l0_1.length c0_1, .int .i64 a0_2, .int .i64 a0_3] 25 (0, 0)) (skK BK461.out) hb); have n3_ := Aside0.mk (below_step (by repeat (first | (with_reducible first | exact HB.out | apply below_alloc | apply pw_below_drewN | apply below_drew1 | refine below_set ?_ GE461.out) | exact HB.out)) hb); clear HO465; clear BK461; clear HB; have HO465 := n0_; have HO469 := n1_; have BK461 := n2_; have HB := n3_; clear n0_ n1_ n2_ n3_; (try clear hb); (try clear hb2); (try clear hk); (try clear hi); (try clear ho0); obtain ⟨hcz14_0, hcz14_1, hcz14_2, hcz14_3, hfz14_0, hfz14_1, hfz14_2, hfz14_3⟩ := bk4 BK461.out) | ((with_reducible refine gate_callee (f := 11) rfl ?_); refine goesL_ (some 28) rfl rfl Try.func11 (by kernel_rfl) rfl #[.slice A0_0 l0_0.length c0_0] rfl ags ?_; (with_reducible refine (larchref17_Reds.calls k _ _ l0_0 t470 t471 _ ?side1 ?side2 A6.out).mono ?_); (case side1 => exact skC (Kd.C_below HR0_0.out HB.out)); (case side2 => exact HC0_0.out); rintro e w15 ⟨v472, rfl, ho0, hb⟩; refine ⟨_, rfl, ?_⟩; have n0_ := Aside0.mk (Kd.R_below (skR HO465.out) hb); have n1_ := Aside0.mk (Kd.R_elder' (skR HO469.out) (Kd.R_base ho0) hb); have n2_ := Aside0.mk (Kd.R_lower (Kd.R_new' ho0 (Kd.R_lt (skR HO469.out))) (below_size (by repeat (first | (with_reducible first | exact HB.out | apply below_alloc | apply pw_below_drewN | apply below_drew1 | refine below_set ?_ GE461.out) | exact HB.out)))); have n3_ := Aside0.mk (blk_below (g := gb461) (o := .cells #[.slice A0_0 l0_0.length c0_0, .slice A0_1 l0_1.length c0_1, .int .i64 a0_2, .int .i64 a0_3] 25 (0, 0)) (skK BK461.out) hb); have n4_ := Aside0.mk (below_step (by repeat (first | (with_reducible first | exact HB.out | apply below_alloc | apply pw_below_drewN | apply below_drew1 | refine below_set ?_ GE461.out) | exact HB.out)) hb); clear HO465; clear HO469; clear BK461; clear HB; have HO465 := n0_; have HO469 := n1_; have HO473 := n2_; have BK461 := n3_; have HB := n4_; clear n0_ n1_ n2_ n3_ n4_; (try clear hb); (try clear hb2); (try clear hk); (try clear hi); (try clear ho0)))
  (try simp only [Act.put, List.setIfInBounds_toArray, List.set_cons_zero, List.set_cons_succ])
  go_cut [39] (fun v39 wc => ∃ (kq : Nat) (x39_6 : Bool), v39 = .bool x39_6 ∧ Aside0 (larchlaw17_WeighFaults.j0 kq x39_6 l0_0 l0_1 a0_2 a0_3 = some r) ∧ Aside0 (kq ≤ k) ∧ Aside0 (wc.heap[gb461]? = some (.cells #[(.slice A0_0 l0_0.length c0_0), (.slice A0_1 l0_1.length c0_1), .int .i64 a0_2, .int .i64 a0_3] 25 (0, 0))) ∧ Aside0 (Below w.heap.size w wc))
  case first =>
   have H := HC7.out
   clear HC7
   by_cases c16 : t467 = t471
   ·
    rw [if_pos c16] at H
    have c16b0 : (t467 == t471) = true := beq_iff_eq.mpr c16
    have c16b1 : (t467 != t471) = false := bne_eq_false_iff_eq.mpr c16
    clear c16
    (first | rw [c16b0] | (simp only [i64_w, i32_w]; rw [c16b0]) | skip)
    replace H := Option.bind_eq_some_iff.mp H
    obtain ⟨t474, A170, H⟩ := H
    replace H : (larchlaw17_WeighFaults.j0 k (!t474) l0_0 l0_1 a0_2 a0_3) = some r := H
    have A17 := Aside0.mk A170
    clear A170
    have H' := Aside0.mk H
    clear H
    obtain ⟨Ao18, co18, eo18⟩ := Kd.R_slice HO469.out
    subst eo18
    obtain ⟨Ao19, co19, eo19⟩ := Kd.R_slice HO473.out
    subst eo19
    go_wp2_with (first | (go_at_call 12; (with_reducible refine (larchref17_SameInts.calls k _ _ t466 _ _ t470 t474 _ ?side1 ?side2 ?side3 ?side4 A17.out).mono ?_); (case side1 => exact skC (Kd.R_reads' HO469.out).2.2); (case side2 => exact (Kd.R_reads' HO469.out).2.1); (case side3 => exact skC (Kd.R_reads' HO473.out).2.2); (case side4 => exact (Kd.R_reads' HO473.out).2.1); rintro e w' ⟨rfl, ⟨nd, rfl⟩⟩))
    go_meet
    case rel => exact ⟨_, (!t474), rs, H', ⟨by first | omega | exact Nat.le_refl _⟩, ⟨skK BK461.out⟩, ⟨by repeat (first | (with_reducible first | exact HB.out | apply below_alloc | apply pw_below_drewN | apply below_drew1 | refine below_set ?_ GE461.out) | exact HB.out)⟩⟩
   ·
    rw [if_neg c16] at H
    have c16b0 : (t467 == t471) = false := beq_eq_false_iff_ne.mpr c16
    have c16b1 : (t467 != t471) = true := bne_iff_ne.mpr c16
    (first | rw [c16b0] | (simp only [i64_w, i32_w]; rw [c16b0]) | skip)
    have H' := Aside0.mk H
    clear H
    go_wp2
    go_meet
    case rel => exact ⟨_, (true), rs, H', ⟨by first | omega | exact Nat.le_refl _⟩, ⟨skK BK461.out⟩, ⟨by repeat (first | (with_reducible first | exact HB.out | apply below_alloc | apply pw_below_drewN | apply below_drew1 | refine below_set ?_ GE461.out) | exact HB.out)⟩⟩
  case rest =>
   clear HC7
   try clear c1
   try clear p2
   try clear c3
   try clear c8
   try clear c9
   try clear c10
   try clear c11
   try clear c16
   try clear c16b0
   try clear c16b1
   try clear hcz10_0
   try clear hcz10_1
   try clear hcz10_2
   try clear hcz10_3
   try clear hcz14_0
   try clear hcz14_1
   try clear hcz14_2
   try clear hcz14_3
   try clear hfz10_0
   try clear hfz10_1
   try clear hfz10_2
   try clear hfz10_3
   try clear hfz14_0
   try clear hfz14_1
   try clear hfz14_2
   try clear hfz14_3
   obtain ⟨kq, x39_6, rfl, HA, HJ6, BK461, HB⟩ := hcut
   cases kq with
   | zero => exact absurd HA.out (by simp [larchlaw17_WeighFaults.j0])
   | succ kj6 =>
    have H := HA.out
    clear HA
    simp only [larchlaw17_WeighFaults.j0] at H
    by_cases c20 : x39_6 = true
    ·
     subst c20
     have H1 : (none) = some r := by rw [if_pos rfl] at H; exact H
     clear H
     have H := H1
     clear H1
     exact absurd H (by simp)
    ·
     replace c20 := Bool.eq_false_iff.mpr c20
     subst c20
     have H1 : ((larchlaw17_copied.f l0_0).bind fun t475 => ((weigh_Overs.f kj6 t475).bind fun bt478 => ((larchref17_Overs.f kj6 l0_0).bind fun bt482 => (if bt478.2 = bt482.2 then ((larchref17_SameInts.f kj6 bt478.1 bt482.1).bind fun t486 => (larchlaw17_WeighFaults.j1 kj6 (!t486) l0_0 l0_1 a0_2 a0_3)) else (larchlaw17_WeighFaults.j1 kj6 true l0_0 l0_1 a0_2 a0_3))))) = some r := by rw [if_neg (show ¬ (false = true) by decide)] at H; exact H
     clear H
     have H := H1
     clear H1
     replace H := Option.bind_eq_some_iff.mp H
     obtain ⟨t475, A210, H⟩ := H
     replace H : ((weigh_Overs.f kj6 t475).bind fun bt478 => ((larchref17_Overs.f kj6 l0_0).bind fun bt482 => (if bt478.2 = bt482.2 then ((larchref17_SameInts.f kj6 bt478.1 bt482.1).bind fun t486 => (larchlaw17_WeighFaults.j1 kj6 (!t486) l0_0 l0_1 a0_2 a0_3)) else (larchlaw17_WeighFaults.j1 kj6 true l0_0 l0_1 a0_2 a0_3)))) = some r := H
     have A21 := Aside0.mk A210
     clear A210
     replace H := Option.bind_eq_some_iff.mp H
     obtain ⟨⟨t478, t479⟩, A220, H⟩ := H
     replace H : ((larchref17_Overs.f kj6 l0_0).bind fun bt482 => (if t479 = bt482.2 then ((larchref17_SameInts.f kj6 t478 bt482.1).bind fun t486 => (larchlaw17_WeighFaults.j1 kj6 (!t486) l0_0 l0_1 a0_2 a0_3)) else (larchlaw17_WeighFaults.j1 kj6 true l0_0 l0_1 a0_2 a0_3))) = some r := H
     have A22 := Aside0.mk A220
     clear A220
     replace H := Option.bind_eq_some_iff.mp H
     obtain ⟨⟨t482, t483⟩, A230, H⟩ := H
     replace H : (if t479 = t483 then ((larchref17_SameInts.f kj6 t478 t482).bind fun t486 => (larchlaw17_WeighFaults.j1 kj6 (!t486) l0_0 l0_1 a0_2 a0_3)) else (larchlaw17_WeighFaults.j1 kj6 true l0_0 l0_1 a0_2 a0_3)) = some r := H
     have A23 := Aside0.mk A230
     clear A230
     have HC24 := Aside0.mk H
     clear H
     obtain ⟨hcz25_0, hcz25_1, hcz25_2, hcz25_3, hfz25_0, hfz25_1, hfz25_2, hfz25_3⟩ := bk4 BK461.out
     go_upto_region 9 with (first | ((with_reducible refine gate_callee (f := 10) rfl ?_); refine goesL_ (some 43) rfl rfl Try.func10 (by kernel_rfl) rfl #[.slice A0_0 l0_0.length c0_0] rfl ags ?_; (with_reducible refine (larchlaw17_copied.calls _ _ l0_0 t475 _ ?side1 ?side2 A21.out).mono ?_); (case side1 => exact skC (Kd.C_below HR0_0.out HB.out)); (case side2 => exact HC0_0.out); rintro e w26 ⟨v476, rfl, ho0, hb⟩; refine ⟨_, rfl, ?_⟩; have n0_ := Aside0.mk (Kd.R_lower ho0 (below_size (by repeat (first | (with_reducible first | exact HB.out | apply below_alloc | apply pw_below_drewN | apply below_drew1 | refine below_set ?_ GE461.out) | exact HB.out)))); have n1_ := Aside0.mk (blk_below (g := gb461) (o := .cells #[.slice A0_0 l0_0.length c0_0, .slice A0_1 l0_1.length c0_1, .int .i64 a0_2, .int .i64 a0_3] 25 (0, 0)) (skK BK461.out) hb); have n2_ := Aside0.mk (below_step (by repeat (first | (with_reducible first | exact HB.out | apply below_alloc | apply pw_below_drewN | apply below_drew1 | refine below_set ?_ GE461.out) | exact HB.out)) hb); clear BK461; clear HB; have HO477 := n0_; have BK461 := n1_; have HB := n2_; clear n0_ n1_ n2_; (try clear hb); (try clear hb2); (try clear hk); (try clear hi); (try clear ho0); obtain ⟨Ao27, co27, eo27⟩ := Kd.R_slice HO477.out; subst eo27) | ((with_reducible refine gate_callee (f := 13) rfl ?_); refine goesL_ (some 44) rfl rfl Try.func13 (by kernel_rfl) rfl #[.slice Ao27 t475.length co27] rfl ags ?_; (with_reducible refine (weigh_Overs.calls kj6 _ _ t475 t478 t479 _ ?side1 ?side2 A22.out).mono ?_); (case side1 => exact skC (Kd.R_reads' HO477.out).2.2); (case side2 => exact (Kd.R_reads' HO477.out).2.1); rintro e w28 ⟨v480, rfl, ho0, hb⟩; refine ⟨_, rfl, ?_⟩; have n0_ := Aside0.mk (Kd.R_below (skR HO477.out) hb); have n1_ := Aside0.mk (Kd.R_lower ho0 (below_size (by repeat (first | (with_reducible first | exact HB.out | apply below_alloc | apply pw_below_drewN | apply below_drew1 | refine below_set ?_ GE461.out) | exact HB.out)))); have n2_ := Aside0.mk (blk_below (g := gb461) (o := .cells #[.slice A0_0 l0_0.length c0_0, .slice A0_1 l0_1.length c0_1, .int .i64 a0_2, .int .i64 a0_3] 25 (0, 0)) (skK BK461.out) hb); have n3_ := Aside0.mk (below_step (by repeat (first | (with_reducible first | exact HB.out | apply below_alloc | apply pw_below_drewN | apply below_drew1 | refine below_set ?_ GE461.out) | exact HB.out)) hb); clear HO477; clear BK461; clear HB; have HO477 := n0_; have HO481 := n1_; have BK461 := n2_; have HB := n3_; clear n0_ n1_ n2_ n3_; (try clear hb); (try clear hb2); (try clear hk); (try clear hi); (try clear ho0); obtain ⟨hcz29_0, hcz29_1, hcz29_2, hcz29_3, hfz29_0, hfz29_1, hfz29_2, hfz29_3⟩ := bk4 BK461.out) | ((with_reducible refine gate_callee (f := 14) rfl ?_); refine goesL_ (some 50) rfl rfl Try.func14 (by kernel_rfl) rfl #[.slice A0_0 l0_0.length c0_0] rfl ags ?_; (with_reducible refine (larchref17_Overs.calls kj6 _ _ l0_0 t482 t483 _ ?side1 ?side2 A23.out).mono ?_); (case side1 => exact skC (Kd.C_below HR0_0.out HB.out)); (case side2 => exact HC0_0.out); rintro e w30 ⟨v484, rfl, ho0, hb⟩; refine ⟨_, rfl, ?_⟩; have n0_ := Aside0.mk (Kd.R_below (skR HO477.out) hb); have n1_ := Aside0.mk (Kd.R_elder' (skR HO481.out) (Kd.R_base ho0) hb); have n2_ := Aside0.mk (Kd.R_lower (Kd.R_new' ho0 (Kd.R_lt (skR HO481.out))) (below_size (by repeat (first | (with_reducible first | exact HB.out | apply below_alloc | apply pw_below_drewN | apply below_drew1 | refine below_set ?_ GE461.out) | exact HB.out)))); have n3_ := Aside0.mk (blk_below (g := gb461) (o := .cells #[.slice A0_0 l0_0.length c0_0, .slice A0_1 l0_1.length c0_1, .int .i64 a0_2, .int .i64 a0_3] 25 (0, 0)) (skK BK461.out) hb); have n4_ := Aside0.mk (below_step (by repeat (first | (with_reducible first | exact HB.out | apply below_alloc | apply pw_below_drewN | apply below_drew1 | refine below_set ?_ GE461.out) | exact HB.out)) hb); clear HO477; clear HO481; clear BK461; clear HB; have HO477 := n0_; have HO481 := n1_; have HO485 := n2_; have BK461 := n3_; have HB := n4_; clear n0_ n1_ n2_ n3_ n4_; (try clear hb); (try clear hb2); (try clear hk); (try clear hi); (try clear ho0)))
     (try simp only [Act.put, List.setIfInBounds_toArray, List.set_cons_zero, List.set_cons_succ])
     go_cut [61] (fun v61 wc => ∃ (kq : Nat) (x61_23 : Bool), v61 = .bool x61_23 ∧ Aside0 (larchlaw17_WeighFaults.j1 kq x61_23 l0_0 l0_1 a0_2 a0_3 = some r) ∧ Aside0 (kq ≤ kj6) ∧ Aside0 (wc.heap[gb461]? = some (.cells #[(.slice A0_0 l0_0.length c0_0), (.slice A0_1 l0_1.length c0_1), .int .i64 a0_2, .int .i64 a0_3] 25 (0, 0))) ∧ Aside0 (Below w.heap.size w wc))
     case first =>
      have H := HC24.out
      clear HC24
      by_cases c31 : t479 = t483
      ·
       rw [if_pos c31] at H
       have c31b0 : (t479 == t483) = true := beq_iff_eq.mpr c31
       have c31b1 : (t479 != t483) = false := bne_eq_false_iff_eq.mpr c31
       clear c31
       (first | rw [c31b0] | (simp only [i64_w, i32_w]; rw [c31b0]) | skip)
       replace H := Option.bind_eq_some_iff.mp H
       obtain ⟨t486, A320, H⟩ := H
       replace H : (larchlaw17_WeighFaults.j1 kj6 (!t486) l0_0 l0_1 a0_2 a0_3) = some r := H
       have A32 := Aside0.mk A320
       clear A320
       have H' := Aside0.mk H
       clear H
       obtain ⟨Ao33, co33, eo33⟩ := Kd.R_slice HO481.out
       subst eo33
       obtain ⟨Ao34, co34, eo34⟩ := Kd.R_slice HO485.out
       subst eo34
       go_wp2_with (first | (go_at_call 12; (with_reducible refine (larchref17_SameInts.calls kj6 _ _ t478 _ _ t482 t486 _ ?side1 ?side2 ?side3 ?side4 A32.out).mono ?_); (case side1 => exact skC (Kd.R_reads' HO481.out).2.2); (case side2 => exact (Kd.R_reads' HO481.out).2.1); (case side3 => exact skC (Kd.R_reads' HO485.out).2.2); (case side4 => exact (Kd.R_reads' HO485.out).2.1); rintro e w' ⟨rfl, ⟨nd, rfl⟩⟩))
       go_meet
       case rel => exact ⟨_, (!t486), rs, H', ⟨by have := HJ6.out; first | omega | exact Nat.le_refl _⟩, ⟨skK BK461.out⟩, ⟨by repeat (first | (with_reducible first | exact HB.out | apply below_alloc | apply pw_below_drewN | apply below_drew1 | refine below_set ?_ GE461.out) | exact HB.out)⟩⟩
      ·
       rw [if_neg c31] at H
       have c31b0 : (t479 == t483) = false := beq_eq_false_iff_ne.mpr c31
       have c31b1 : (t479 != t483) = true := bne_iff_ne.mpr c31
       (first | rw [c31b0] | (simp only [i64_w, i32_w]; rw [c31b0]) | skip)
       have H' := Aside0.mk H
       clear H
       go_wp2
       go_meet
       case rel => exact ⟨_, (true), rs, H', ⟨by have := HJ6.out; first | omega | exact Nat.le_refl _⟩, ⟨skK BK461.out⟩, ⟨by repeat (first | (with_reducible first | exact HB.out | apply below_alloc | apply pw_below_drewN | apply below_drew1 | refine below_set ?_ GE461.out) | exact HB.out)⟩⟩
     case rest =>
      clear HC24
      try clear c1
      try clear c2
      try clear p2
      try clear c3
      try clear c8
      try clear c9
      try clear c10
      try clear c11
      try clear c13
      try clear c14
      try clear c16
      try clear c16b0
      try clear c16b1
      try clear c20
      try clear c31
      try clear c31b0
      try clear c31b1
      try clear hcz10_0
      try clear hcz10_1
      try clear hcz10_2
      try clear hcz10_3
      try clear hcz14_0
      try clear hcz14_1
      try clear hcz14_2
      try clear hcz14_3
      try clear hcz25_0
      try clear hcz25_1
      try clear hcz25_2
      try clear hcz25_3
      try clear hcz29_0
      try clear hcz29_1
      try clear hcz29_2
      try clear hcz29_3
      try clear hfz10_0
      try clear hfz10_1
      try clear hfz10_2
      try clear hfz10_3
      try clear hfz14_0
      try clear hfz14_1
      try clear hfz14_2
      try clear hfz14_3
      try clear hfz25_0
      try clear hfz25_1
      try clear hfz25_2
      try clear hfz25_3
      try clear hfz29_0
      try clear hfz29_1
      try clear hfz29_2
      try clear hfz29_3
      try clear p2
      obtain ⟨kq, x61_23, rfl, HA, HJ23, BK461, HB⟩ := hcut
      cases kq with
      | zero => exact absurd HA.out (by simp [larchlaw17_WeighFaults.j1])
      | succ kj23 =>
       have H := HA.out
       clear HA
       simp only [larchlaw17_WeighFaults.j1] at H
       by_cases c35 : x61_23 = true
       ·
        subst c35
        have H1 : (none) = some r := by rw [if_pos rfl] at H; exact H
        clear H
        have H := H1
        clear H1
        exact absurd H (by simp)
       ·
        replace c35 := Bool.eq_false_iff.mpr c35
        subst c35
        have H1 : ((larchlaw17_copied.f l0_0).bind fun t487 => ((weigh_Violations.f kj23 t487).bind fun bt490 => ((larchref17_Violations.f kj23 l0_0).bind fun bt492 => (if bt490.1 = bt492.1 then (larchlaw17_WeighFaults.j2 kj23 bt490.1 (bt490.2 != bt492.2) l0_0 l0_1 a0_2 a0_3) else (larchlaw17_WeighFaults.j2 kj23 bt490.1 true l0_0 l0_1 a0_2 a0_3))))) = some r := by rw [if_neg (show ¬ (false = true) by decide)] at H; exact H
        clear H
        have H := H1
        clear H1
        replace H := Option.bind_eq_some_iff.mp H
        obtain ⟨t487, A360, H⟩ := H
        replace H : ((weigh_Violations.f kj23 t487).bind fun bt490 => ((larchref17_Violations.f kj23 l0_0).bind fun bt492 => (if bt490.1 = bt492.1 then (larchlaw17_WeighFaults.j2 kj23 bt490.1 (bt490.2 != bt492.2) l0_0 l0_1 a0_2 a0_3) else (larchlaw17_WeighFaults.j2 kj23 bt490.1 true l0_0 l0_1 a0_2 a0_3)))) = some r := H
        have A36 := Aside0.mk A360
        clear A360
        replace H := Option.bind_eq_some_iff.mp H
        obtain ⟨⟨t490, t491⟩, A370, H⟩ := H
        replace H : ((larchref17_Violations.f kj23 l0_0).bind fun bt492 => (if t490 = bt492.1 then (larchlaw17_WeighFaults.j2 kj23 t490 (t491 != bt492.2) l0_0 l0_1 a0_2 a0_3) else (larchlaw17_WeighFaults.j2 kj23 t490 true l0_0 l0_1 a0_2 a0_3))) = some r := H
        have A37 := Aside0.mk A370
        clear A370
        replace H := Option.bind_eq_some_iff.mp H
        obtain ⟨⟨t492, t493⟩, A380, H⟩ := H
        replace H : (if t490 = t492 then (larchlaw17_WeighFaults.j2 kj23 t490 (t491 != t493) l0_0 l0_1 a0_2 a0_3) else (larchlaw17_WeighFaults.j2 kj23 t490 true l0_0 l0_1 a0_2 a0_3)) = some r := H
        have A38 := Aside0.mk A380
        clear A380
        have HC39 := Aside0.mk H
        clear H
        obtain ⟨hcz40_0, hcz40_1, hcz40_2, hcz40_3, hfz40_0, hfz40_1, hfz40_2, hfz40_3⟩ := bk4 BK461.out
        go_upto_region 13 with (first | ((with_reducible refine gate_callee (f := 10) rfl ?_); refine goesL_ (some 65) rfl rfl Try.func10 (by kernel_rfl) rfl #[.slice A0_0 l0_0.length c0_0] rfl ags ?_; (with_reducible refine (larchlaw17_copied.calls _ _ l0_0 t487 _ ?side1 ?side2 A36.out).mono ?_); (case side1 => exact skC (Kd.C_below HR0_0.out HB.out)); (case side2 => exact HC0_0.out); rintro e w41 ⟨v488, rfl, ho0, hb⟩; refine ⟨_, rfl, ?_⟩; have n0_ := Aside0.mk (Kd.R_lower ho0 (below_size (by repeat (first | (with_reducible first | exact HB.out | apply below_alloc | apply pw_below_drewN | apply below_drew1 | refine below_set ?_ GE461.out) | exact HB.out)))); have n1_ := Aside0.mk (blk_below (g := gb461) (o := .cells #[.slice A0_0 l0_0.length c0_0, .slice A0_1 l0_1.length c0_1, .int .i64 a0_2, .int .i64 a0_3] 25 (0, 0)) (skK BK461.out) hb); have n2_ := Aside0.mk (below_step (by repeat (first | (with_reducible first | exact HB.out | apply below_alloc | apply pw_below_drewN | apply below_drew1 | refine below_set ?_ GE461.out) | exact HB.out)) hb); clear BK461; clear HB; have HO489 := n0_; have BK461 := n1_; have HB := n2_; clear n0_ n1_ n2_; (try clear hb); (try clear hb2); (try clear hk); (try clear hi); (try clear ho0); obtain ⟨Ao42, co42, eo42⟩ := Kd.R_slice HO489.out; subst eo42) | ((with_reducible refine gate_callee (f := 15) rfl ?_); refine goesL_ (some 66) rfl rfl Try.func15 (by kernel_rfl) rfl #[.slice Ao42 t487.length co42] rfl ags ?_; (with_reducible refine (weigh_Violations.calls kj23 _ _ t487 t490 t491 _ ?side1 ?side2 A37.out).mono ?_); (case side1 => exact skC (Kd.R_reads' HO489.out).2.2); (case side2 => exact (Kd.R_reads' HO489.out).2.1); rintro e w43 ⟨rfl, hb⟩; refine ⟨_, rfl, ?_⟩; have n0_ := Aside0.mk (Kd.R_below (skR HO489.out) hb); have n1_ := Aside0.mk (blk_below (g := gb461) (o := .cells #[.slice A0_0 l0_0.length c0_0, .slice A0_1 l0_1.length c0_1, .int .i64 a0_2, .int .i64 a0_3] 25 (0, 0)) (skK BK461.out) hb); have n2_ := Aside0.mk (below_step (by repeat (first | (with_reducible first | exact HB.out | apply below_alloc | apply pw_below_drewN | apply below_drew1 | refine below_set ?_ GE461.out) | exact HB.out)) hb); clear HO489; clear BK461; clear HB; have HO489 := n0_; have BK461 := n1_; have HB := n2_; clear n0_ n1_ n2_; (try clear hb); (try clear hb2); (try clear hk); (try clear hi); obtain ⟨hcz44_0, hcz44_1, hcz44_2, hcz44_3, hfz44_0, hfz44_1, hfz44_2, hfz44_3⟩ := bk4 BK461.out) | ((with_reducible refine gate_callee (f := 16) rfl ?_); refine goesL_ (some 72) rfl rfl Try.func16 (by kernel_rfl) rfl #[.slice A0_0 l0_0.length c0_0] rfl ags ?_; (with_reducible refine (larchref17_Violations.calls kj23 _ _ l0_0 t492 t493 _ ?side1 ?side2 A38.out).mono ?_); (case side1 => exact skC (Kd.C_below HR0_0.out HB.out)); (case side2 => exact HC0_0.out); rintro e w45 ⟨rfl, hb⟩; refine ⟨_, rfl, ?_⟩; have n0_ := Aside0.mk (Kd.R_below (skR HO489.out) hb); have n1_ := Aside0.mk (blk_below (g := gb461) (o := .cells #[.slice A0_0 l0_0.length c0_0, .slice A0_1 l0_1.length c0_1, .int .i64 a0_2, .int .i64 a0_3] 25 (0, 0)) (skK BK461.out) hb); have n2_ := Aside0.mk (below_step (by repeat (first | (with_reducible first | exact HB.out | apply below_alloc | apply pw_below_drewN | apply below_drew1 | refine below_set ?_ GE461.out) | exact HB.out)) hb); clear HO489; clear BK461; clear HB; have HO489 := n0_; have BK461 := n1_; have HB := n2_; clear n0_ n1_ n2_; (try clear hb); (try clear hb2); (try clear hk); (try clear hi)))
        (try simp only [Act.put, List.setIfInBounds_toArray, List.set_cons_zero, List.set_cons_succ])
        go_cut [82] (fun v82 wc => ∃ (kq : Nat) (x82_38 : Bool), v82 = .bool x82_38 ∧ Aside0 (larchlaw17_WeighFaults.j2 kq t490 x82_38 l0_0 l0_1 a0_2 a0_3 = some r) ∧ Aside0 (kq ≤ kj23) ∧ Aside0 (wc.heap[gb461]? = some (.cells #[(.slice A0_0 l0_0.length c0_0), (.slice A0_1 l0_1.length c0_1), .int .i64 a0_2, .int .i64 a0_3] 25 (0, 0))) ∧ Aside0 (Below w.heap.size w wc))
        case first =>
         have H := HC39.out
         clear HC39
         by_cases c46 : t490 = t492
         ·
          rw [if_pos c46] at H
          have c46b0 : (t490 == t492) = true := beq_iff_eq.mpr c46
          have c46b1 : (t490 != t492) = false := bne_eq_false_iff_eq.mpr c46
          clear c46
          (first | rw [c46b0] | (simp only [i64_w, i32_w]; rw [c46b0]) | skip)
          have H' := Aside0.mk H
          clear H
          go_wp2
          go_meet
          case rel => exact ⟨_, ((t491 != t493)), rs, H', ⟨by have := HJ6.out; have := HJ23.out; first | omega | exact Nat.le_refl _⟩, ⟨skK BK461.out⟩, ⟨by repeat (first | (with_reducible first | exact HB.out | apply below_alloc | apply pw_below_drewN | apply below_drew1 | refine below_set ?_ GE461.out) | exact HB.out)⟩⟩
         ·
          rw [if_neg c46] at H
          have c46b0 : (t490 == t492) = false := beq_eq_false_iff_ne.mpr c46
          have c46b1 : (t490 != t492) = true := bne_iff_ne.mpr c46
          (first | rw [c46b0] | (simp only [i64_w, i32_w]; rw [c46b0]) | skip)
          have H' := Aside0.mk H
          clear H
          go_wp2
          go_meet
          case rel => exact ⟨_, (true), rs, H', ⟨by have := HJ6.out; have := HJ23.out; first | omega | exact Nat.le_refl _⟩, ⟨skK BK461.out⟩, ⟨by repeat (first | (with_reducible first | exact HB.out | apply below_alloc | apply pw_below_drewN | apply below_drew1 | refine below_set ?_ GE461.out) | exact HB.out)⟩⟩
        case rest =>
         clear HC39
         try clear c1
         try clear c2
         try clear p2
         try clear c3
         try clear c4
         try clear c8
         try clear c9
         try clear c10
         try clear c11
         try clear c13
         try clear c14
         try clear c15
         try clear c16
         try clear c16b0
         try clear c16b1
         try clear c20
         try clear c31
         try clear c31b0
         try clear c31b1
         try clear c35
         try clear c46
         try clear c46b0
         try clear c46b1
         try clear hcz10_0
         try clear hcz10_1
         try clear hcz10_2
         try clear hcz10_3
         try clear hcz14_0
         try clear hcz14_1
         try clear hcz14_2
         try clear hcz14_3
         try clear hcz25_0
         try clear hcz25_1
         try clear hcz25_2
         try clear hcz25_3
         try clear hcz29_0
         try clear hcz29_1
         try clear hcz29_2
         try clear hcz29_3
         try clear hcz40_0
         try clear hcz40_1
         try clear hcz40_2
         try clear hcz40_3
         try clear hcz44_0
         try clear hcz44_1
         try clear hcz44_2
         try clear hcz44_3
         try clear hfz10_0
         try clear hfz10_1
         try clear hfz10_2
         try clear hfz10_3
         try clear hfz14_0
         try clear hfz14_1
         try clear hfz14_2
         try clear hfz14_3
         try clear hfz25_0
         try clear hfz25_1
         try clear hfz25_2
         try clear hfz25_3
         try clear hfz29_0
         try clear hfz29_1
         try clear hfz29_2
         try clear hfz29_3
         try clear hfz40_0
         try clear hfz40_1
         try clear hfz40_2
         try clear hfz40_3
         try clear hfz44_0
         try clear hfz44_1
         try clear hfz44_2
         try clear hfz44_3
         try clear p2
         obtain ⟨kq, x82_38, rfl, HA, HJ38, BK461, HB⟩ := hcut
         cases kq with
         | zero => exact absurd HA.out (by simp [larchlaw17_WeighFaults.j2])
         | succ kj38 =>
          have H := HA.out
          clear HA
          simp only [larchlaw17_WeighFaults.j2] at H
          by_cases c47 : x82_38 = true
          ·
           subst c47
           have H1 : (none) = some r := by rw [if_pos rfl] at H; exact H
           clear H
           have H := H1
           clear H1
           exact absurd H (by simp)
          ·
           replace c47 := Bool.eq_false_iff.mpr c47
           subst c47
           have H1 : ((larchlaw17_copied.f l0_0).bind fun t494 => ((weigh_First.f kj38 t494 a0_2).bind fun bt497 => ((larchref17_First.f kj38 l0_0 a0_2).bind fun bt499 => (if bt497.1 = bt499.1 then (larchlaw17_WeighFaults.j3 kj38 bt497.2 t490 (bt497.2 != bt499.2) l0_0 l0_1 a0_2 a0_3) else (larchlaw17_WeighFaults.j3 kj38 bt497.2 t490 true l0_0 l0_1 a0_2 a0_3))))) = some r := by rw [if_neg (show ¬ (false = true) by decide)] at H; exact H
           clear H
           have H := H1
           clear H1
           replace H := Option.bind_eq_some_iff.mp H
           obtain ⟨t494, A480, H⟩ := H
           replace H : ((weigh_First.f kj38 t494 a0_2).bind fun bt497 => ((larchref17_First.f kj38 l0_0 a0_2).bind fun bt499 => (if bt497.1 = bt499.1 then (larchlaw17_WeighFaults.j3 kj38 bt497.2 t490 (bt497.2 != bt499.2) l0_0 l0_1 a0_2 a0_3) else (larchlaw17_WeighFaults.j3 kj38 bt497.2 t490 true l0_0 l0_1 a0_2 a0_3)))) = some r := H
           have A48 := Aside0.mk A480
           clear A480
           replace H := Option.bind_eq_some_iff.mp H
           obtain ⟨⟨t497, t498⟩, A490, H⟩ := H
           replace H : ((larchref17_First.f kj38 l0_0 a0_2).bind fun bt499 => (if t497 = bt499.1 then (larchlaw17_WeighFaults.j3 kj38 t498 t490 (t498 != bt499.2) l0_0 l0_1 a0_2 a0_3) else (larchlaw17_WeighFaults.j3 kj38 t498 t490 true l0_0 l0_1 a0_2 a0_3))) = some r := H
           have A49 := Aside0.mk A490
           clear A490
           replace H := Option.bind_eq_some_iff.mp H
           obtain ⟨⟨t499, t500⟩, A500, H⟩ := H
           replace H : (if t497 = t499 then (larchlaw17_WeighFaults.j3 kj38 t498 t490 (t498 != t500) l0_0 l0_1 a0_2 a0_3) else (larchlaw17_WeighFaults.j3 kj38 t498 t490 true l0_0 l0_1 a0_2 a0_3)) = some r := H
           have A50 := Aside0.mk A500
           clear A500
           have HC51 := Aside0.mk H
           clear H
           try go_wp2
           have n0_ := Aside0.mk (blk_drew BK461.out)
           have n1_ := Aside0.mk (below_drew1 HB.out)
           clear BK461
           clear HB
           have BK461 := n0_
           have HB := n1_
           clear n0_ n1_
           refine start_ (n := 11) (S := fun w' => w'.cell? ⟨gb461, 0, none⟩ = some (.slice A0_0 l0_0.length c0_0) ∧ w'.cell? ⟨gb461, 1, none⟩ = some (.slice A0_1 l0_1.length c0_1) ∧ w'.cell? ⟨gb461, 2, none⟩ = some (.int .i64 a0_2) ∧ w'.cell? ⟨gb461, 3, none⟩ = some (.int .i64 a0_3)) (ds := []) #[false, false, false, false, false, false, false, false, false, false, false] (by kernel_rfl) rfl rfl ⟨(blk_cell BK461.out 0).trans rfl, (blk_cell BK461.out 1).trans rfl, (blk_cell BK461.out 2).trans rfl, (blk_cell BK461.out 3).trans rfl⟩ (fun hHeld => ?_); refine with_tabW larchlaw17_WeighFaults.tab15 larchlaw17_WeighFaults.bits15 (fun HT_ HW_ => ?_)
           generalize wc.drew = w52 at BK461 HB hHeld ⊢
           refine pure_ (i := 0) (N := some 84) (v := ?_) (a' := ?_) #[true, false, false, false, false, false, false, false, false, false, false] rfl rfl (any_of HT_.out (by kernel_rfl)) (fun _ _ _ h => h) (Or.inl ⟨by rfl, ?_⟩) ?_ ?_
           rotate_left
           ·
            intro w'
            go_simp
            with_reducible rfl
           rotate_left
           ·
            simp only [Act.put, List.setIfInBounds_toArray, List.set_cons_zero, List.set_cons_succ, i64_w, i32_w]
            rfl
           refine pure_ (i := 3) (N := some 87) (v := ?_) (a' := ?_) #[true, false, false, true, false, false, false, false, false, false, false] rfl rfl (any_of HT_.out (by kernel_rfl)) (fun _ _ _ h => h) (Or.inl ⟨by rfl, ?_⟩) ?_ ?_
           rotate_left
           ·
            intro w'
            go_simp
            with_reducible rfl
           rotate_left
           ·
            simp only [Act.put, List.setIfInBounds_toArray, List.set_cons_zero, List.set_cons_succ, i64_w, i32_w]
            rfl
           refine take_ (i := 1) (N := some 85) (v := ?_) (a' := ?_) #[true, true, false, true, false, false, false, false, false, false, false] rfl rfl (take_ofW HT_.out HW_.out (by kernel_rfl)) (fun _ _ _ h => h) (Or.inl ⟨by rfl, ?_⟩) hHeld ?_ ?_
           rotate_left
           ·
            rintro w' ⟨s0, s1, s2, s3⟩
            go_simp
            with_reducible rfl
           rotate_left
           ·
            simp only [Act.put, List.setIfInBounds_toArray, List.set_cons_zero, List.set_cons_succ, i64_w, i32_w]
            rfl
           refine take_ (i := 4) (N := some 88) (v := ?_) (a' := ?_) #[true, true, false, true, true, false, false, false, false, false, false] rfl rfl (take_ofW HT_.out HW_.out (by kernel_rfl)) (fun _ _ _ h => h) (Or.inl ⟨by rfl, ?_⟩) hHeld ?_ ?_
           rotate_left
           ·
            rintro w' ⟨s0, s1, s2, s3⟩
            go_simp
            with_reducible rfl
           rotate_left
           ·
            simp only [Act.put, List.setIfInBounds_toArray, List.set_cons_zero, List.set_cons_succ, i64_w, i32_w]
            rfl
           refine one_ (i := 2) (N := some 86) #[true, true, true, true, true, false, false, false, false, false, false] rfl rfl (one_of HT_.out (by kernel_rfl)) (by decide) (fun K hK => ?_)
           refine goes_ Try.func10 (by kernel_rfl) rfl #[.slice A0_0 l0_0.length c0_0] (by rfl) rfl rfl ags ?_
           with_reducible refine (larchlaw17_copied.calls _ _ l0_0 t494 _ ?side1 ?side2 A48.out).mono ?_
           (case side1 => exact skC (Kd.C_below HR0_0.out HB.out))
           (case side2 => exact HC0_0.out)
           rintro e w53 ⟨v495, rfl, ho0, hb⟩
           refine ⟨_, rfl, ?_⟩
           have n0_ := Aside0.mk (Kd.R_lower ho0 (below_size (by repeat (first | (with_reducible first | exact HB.out | apply below_alloc | apply pw_below_drewN | apply below_drew1 | refine below_set ?_ GE461.out) | exact HB.out))))
           have n1_ := Aside0.mk (blk_below (g := gb461) (o := .cells #[.slice A0_0 l0_0.length c0_0, .slice A0_1 l0_1.length c0_1, .int .i64 a0_2, .int .i64 a0_3] 25 (0, 0)) (skK BK461.out) hb)
           have n2_ := Aside0.mk (below_step (by repeat (first | (with_reducible first | exact HB.out | apply below_alloc | apply pw_below_drewN | apply below_drew1 | refine below_set ?_ GE461.out) | exact HB.out)) hb)
           clear BK461
           clear HB
           have HO496 := n0_
           have BK461 := n1_
           have HB := n2_
           clear n0_ n1_ n2_
           (try clear hb)
           (try clear hb2)
           (try clear hk)
           (try clear hi)
           (try clear ho0)
           obtain ⟨Ao54, co54, eo54⟩ := Kd.R_slice HO496.out
           (first | subst eo54 | (injection eo54 with f1_ f2_ f3_; have f4_ := f1_.symm; have f5_ := f3_.symm; clear f1_ f2_ f3_; subst f4_; subst f5_))
           refine hK.out _ _ ⟨(blk_cell BK461.out 0).trans rfl, (blk_cell BK461.out 1).trans rfl, (blk_cell BK461.out 2).trans rfl, (blk_cell BK461.out 3).trans rfl⟩ (fun hHeld => ?_)
           clear hK K
           refine norm_ (a' := ?_) ?_ ?_
           rotate_left
           ·
            show Act.put _ (some 86) _ = _
            simp only [Act.put, List.setIfInBounds_toArray, List.set_cons_zero, List.set_cons_succ, i64_w, i32_w]
            rfl
           refine one_ (i := 5) (N := some 89) #[true, true, true, true, true, true, false, false, false, false, false] rfl rfl (one_of HT_.out (by kernel_rfl)) (by decide) (fun K hK => ?_)
           refine goes_ Try.func17 (by kernel_rfl) rfl #[.slice Ao54 t494.length co54, .int .i64 a0_2] (by rfl) rfl rfl ags ?_
           with_reducible refine (weigh_First.calls kj38 _ _ t494 a0_2 t497 t498 _ ?side1 ?side2 A49.out).mono ?_
           (case side1 => exact skC (Kd.R_reads' HO496.out).2.2)
           (case side2 => exact (Kd.R_reads' HO496.out).2.1)
           rintro e w55 ⟨rfl, hb⟩
           refine ⟨_, rfl, ?_⟩
           have n0_ := Aside0.mk (Kd.R_below (skR HO496.out) hb)
           have n1_ := Aside0.mk (blk_below (g := gb461) (o := .cells #[.slice A0_0 l0_0.length c0_0, .slice A0_1 l0_1.length c0_1, .int .i64 a0_2, .int .i64 a0_3] 25 (0, 0)) (skK BK461.out) hb)
           have n2_ := Aside0.mk (below_step (by repeat (first | (with_reducible first | exact HB.out | apply below_alloc | apply pw_below_drewN | apply below_drew1 | refine below_set ?_ GE461.out) | exact HB.out)) hb)
           clear HO496
           clear BK461
           clear HB
           have HO496 := n0_
           have BK461 := n1_
           have HB := n2_
           clear n0_ n1_ n2_
           (try clear hb)
           (try clear hb2)
           (try clear hk)
           (try clear hi)
           refine hK.out _ _ ⟨(blk_cell BK461.out 0).trans rfl, (blk_cell BK461.out 1).trans rfl, (blk_cell BK461.out 2).trans rfl, (blk_cell BK461.out 3).trans rfl⟩ (fun hHeld => ?_)
           clear hK K
           refine norm_ (a' := ?_) ?_ ?_
           rotate_left
           ·
            show Act.put _ (some 89) _ = _
            simp only [Act.put, List.setIfInBounds_toArray, List.set_cons_zero, List.set_cons_succ, i64_w, i32_w]
            rfl
           refine pure_ (i := 6) (N := some 83) (v := ?_) (a' := ?_) #[true, true, true, true, true, true, true, false, false, false, false] rfl rfl (any_of HT_.out (by kernel_rfl)) (fun _ _ _ h => h) (Or.inl ⟨by rfl, ?_⟩) ?_ ?_
           rotate_left
           ·
            intro w'
            go_simp
            with_reducible rfl
           rotate_left
           ·
            simp only [Act.put, List.setIfInBounds_toArray, List.set_cons_zero, List.set_cons_succ, i64_w, i32_w]
            rfl
           refine pure_ (i := 7) (N := some 90) (v := ?_) (a' := ?_) #[true, true, true, true, true, true, true, true, false, false, false] rfl rfl (any_of HT_.out (by kernel_rfl)) (fun _ _ _ h => h) (Or.inl ⟨by rfl, ?_⟩) ?_ ?_
           rotate_left
           ·
            intro w'
            go_simp
            with_reducible rfl
           rotate_left
           ·
            simp only [Act.put, List.setIfInBounds_toArray, List.set_cons_zero, List.set_cons_succ, i64_w, i32_w]
            rfl
           refine pure_ (i := 8) (N := some 91) (v := ?_) (a' := ?_) #[true, true, true, true, true, true, true, true, true, false, false] rfl rfl (any_of HT_.out (by kernel_rfl)) (fun _ _ _ h => h) (Or.inl ⟨by rfl, ?_⟩) ?_ ?_
           rotate_left
           ·
            intro w'
            go_simp
            with_reducible rfl
           rotate_left
           ·
            simp only [Act.put, List.setIfInBounds_toArray, List.set_cons_zero, List.set_cons_succ, i64_w, i32_w]
            rfl
           refine pure_ (i := 9) (N := some 9) (v := ?_) (a' := ?_) #[true, true, true, true, true, true, true, true, true, true, false] rfl rfl (any_of HT_.out (by kernel_rfl)) (fun _ _ _ h => h) (Or.inl ⟨by rfl, ?_⟩) ?_ ?_
           rotate_left
           ·
            intro w'
            go_simp
            with_reducible rfl
           rotate_left
           ·
            simp only [Act.put, List.setIfInBounds_toArray, List.set_cons_zero, List.set_cons_succ, i64_w, i32_w]
            rfl
           refine pure_ (i := 10) (N := some 4) (v := ?_) (a' := ?_) #[true, true, true, true, true, true, true, true, true, true, true] rfl rfl (any_of HT_.out (by kernel_rfl)) (fun _ _ _ h => h) (Or.inl ⟨by rfl, ?_⟩) ?_ ?_
           rotate_left
           ·
            intro w'
            go_simp
            with_reducible rfl
           rotate_left
           ·
            simp only [Act.put, List.setIfInBounds_toArray, List.set_cons_zero, List.set_cons_succ, i64_w, i32_w]
            rfl
           refine done_ (done_of HT_.out (by kernel_rfl)) ?_
           obtain ⟨hcz56_0, hcz56_1, hcz56_2, hcz56_3, hfz56_0, hfz56_1, hfz56_2, hfz56_3⟩ := bk4 BK461.out
           go_upto_region 17 with (first | ((with_reducible refine gate_callee (f := 18) rfl ?_); refine goesL_ (some 97) rfl rfl Try.func18 (by kernel_rfl) rfl #[.slice A0_0 l0_0.length c0_0, .int .i64 a0_2] rfl ags ?_; (with_reducible refine (larchref17_First.calls kj38 _ _ l0_0 a0_2 t499 t500 _ ?side1 ?side2 A50.out).mono ?_); (case side1 => exact skC (Kd.C_below HR0_0.out HB.out)); (case side2 => exact HC0_0.out); rintro e w57 ⟨rfl, hb⟩; refine ⟨_, rfl, ?_⟩; have n0_ := Aside0.mk (Kd.R_below (skR HO496.out) hb); have n1_ := Aside0.mk (blk_below (g := gb461) (o := .cells #[.slice A0_0 l0_0.length c0_0, .slice A0_1 l0_1.length c0_1, .int .i64 a0_2, .int .i64 a0_3] 25 (0, 0)) (skK BK461.out) hb); have n2_ := Aside0.mk (below_step (by repeat (first | (with_reducible first | exact HB.out | apply below_alloc | apply pw_below_drewN | apply below_drew1 | refine below_set ?_ GE461.out) | exact HB.out)) hb); clear HO496; clear BK461; clear HB; have HO496 := n0_; have BK461 := n1_; have HB := n2_; clear n0_ n1_ n2_; (try clear hb); (try clear hb2); (try clear hk); (try clear hi)))
           (try simp only [Act.put, List.setIfInBounds_toArray, List.set_cons_zero, List.set_cons_succ])
           go_cut [107] (fun v107 wc => ∃ (kq : Nat) (x107_50 : Bool), v107 = .bool x107_50 ∧ Aside0 (larchlaw17_WeighFaults.j3 kq t498 t490 x107_50 l0_0 l0_1 a0_2 a0_3 = some r) ∧ Aside0 (kq ≤ kj38) ∧ Aside0 (wc.heap[gb461]? = some (.cells #[(.slice A0_0 l0_0.length c0_0), (.slice A0_1 l0_1.length c0_1), .int .i64 a0_2, .int .i64 a0_3] 25 (0, 0))) ∧ Aside0 (Below w.heap.size w wc))
           case first =>
            have H := HC51.out
            clear HC51
            by_cases c58 : t497 = t499
            ·
             rw [if_pos c58] at H
             have c58b0 : (t497 == t499) = true := beq_iff_eq.mpr c58
             have c58b1 : (t497 != t499) = false := bne_eq_false_iff_eq.mpr c58
             clear c58
             (first | rw [c58b0] | (simp only [i64_w, i32_w]; rw [c58b0]) | skip)
             have H' := Aside0.mk H
             clear H
             go_wp2
             go_meet
             case rel => exact ⟨_, ((t498 != t500)), rs, H', ⟨by have := HJ6.out; have := HJ23.out; have := HJ38.out; first | omega | exact Nat.le_refl _⟩, ⟨skK BK461.out⟩, ⟨by repeat (first | (with_reducible first | exact HB.out | apply below_alloc | apply pw_below_drewN | apply below_drew1 | refine below_set ?_ GE461.out) | exact HB.out)⟩⟩
            ·
             rw [if_neg c58] at H
             have c58b0 : (t497 == t499) = false := beq_eq_false_iff_ne.mpr c58
             have c58b1 : (t497 != t499) = true := bne_iff_ne.mpr c58
             (first | rw [c58b0] | (simp only [i64_w, i32_w]; rw [c58b0]) | skip)
             have H' := Aside0.mk H
             clear H
             go_wp2
             go_meet
             case rel => exact ⟨_, (true), rs, H', ⟨by have := HJ6.out; have := HJ23.out; have := HJ38.out; first | omega | exact Nat.le_refl _⟩, ⟨skK BK461.out⟩, ⟨by repeat (first | (with_reducible first | exact HB.out | apply below_alloc | apply pw_below_drewN | apply below_drew1 | refine below_set ?_ GE461.out) | exact HB.out)⟩⟩
           case rest =>
            clear HC51
            try clear c1
            try clear c2
            try clear p2
            try clear c3
            try clear c4
            try clear c5
            try clear c8
            try clear c9
            try clear c10
            try clear c11
            try clear c13
            try clear c14
            try clear c15
            try clear c16
            try clear c16b0
            try clear c16b1
            try clear c17
            try clear c18
            try clear c20
            try clear c31
            try clear c31b0
            try clear c31b1
            try clear c35
            try clear c46
            try clear c46b0
            try clear c46b1
            try clear c47
            try clear c58
            try clear c58b0
            try clear c58b1
            try clear hcz10_0
            try clear hcz10_1
            try clear hcz10_2
            try clear hcz10_3
            try clear hcz14_0
            try clear hcz14_1
            try clear hcz14_2
            try clear hcz14_3
            try clear hcz25_0
            try clear hcz25_1
            try clear hcz25_2
            try clear hcz25_3
            try clear hcz29_0
            try clear hcz29_1
            try clear hcz29_2
            try clear hcz29_3
            try clear hcz40_0
            try clear hcz40_1
            try clear hcz40_2
            try clear hcz40_3
            try clear hcz44_0
            try clear hcz44_1
            try clear hcz44_2
            try clear hcz44_3
            try clear hcz56_0
            try clear hcz56_1
            try clear hcz56_2
            try clear hcz56_3
            try clear hfz10_0
            try clear hfz10_1
            try clear hfz10_2
            try clear hfz10_3
            try clear hfz14_0
            try clear hfz14_1
            try clear hfz14_2
            try clear hfz14_3
            try clear hfz25_0
            try clear hfz25_1
            try clear hfz25_2
            try clear hfz25_3
            try clear hfz29_0
            try clear hfz29_1
            try clear hfz29_2
            try clear hfz29_3
            try clear hfz40_0
            try clear hfz40_1
            try clear hfz40_2
            try clear hfz40_3
            try clear hfz44_0
            try clear hfz44_1
            try clear hfz44_2
            try clear hfz44_3
            try clear hfz56_0
            try clear hfz56_1
            try clear hfz56_2
            try clear hfz56_3
            try clear p2
            obtain ⟨kq, x107_50, rfl, HA, HJ50, BK461, HB⟩ := hcut
            cases kq with
            | zero => exact absurd HA.out (by simp [larchlaw17_WeighFaults.j3])
            | succ kj50 =>
             have H := HA.out
             clear HA
             simp only [larchlaw17_WeighFaults.j3] at H
             by_cases c59 : x107_50 = true
             ·
              subst c59
              have H1 : (none) = some r := by rw [if_pos rfl] at H; exact H
              clear H
              have H := H1
              clear H1
              exact absurd H (by simp)
             ·
              replace c59 := Bool.eq_false_iff.mpr c59
              subst c59
              have H1 : (if t498 = 0 then (if (l0_0.length : Int) > 4000 then (larchlaw17_WeighFaults.j4 kj50 t490 true l0_0 l0_1 a0_2 a0_3) else ((larchref17_Ordered.f kj50 l0_0).bind fun t501 => (larchlaw17_WeighFaults.j4 kj50 t490 (!t501) l0_0 l0_1 a0_2 a0_3))) else (larchlaw17_WeighFaults.j4 kj50 t490 true l0_0 l0_1 a0_2 a0_3)) = some r := by rw [if_neg (show ¬ (false = true) by decide)] at H; exact H
              clear H
              have H := H1
              clear H1
              have HC60 := Aside0.mk H
              clear H
              go_upto_region 19 with (fail)
              go_cut [121] (fun v121 wc => ∃ (kq : Nat) (x121_59 : Bool), v121 = .bool x121_59 ∧ Aside0 (larchlaw17_WeighFaults.j4 kq t490 x121_59 l0_0 l0_1 a0_2 a0_3 = some r) ∧ Aside0 (kq ≤ kj50) ∧ Aside0 (wc.heap[gb461]? = some (.cells #[(.slice A0_0 l0_0.length c0_0), (.slice A0_1 l0_1.length c0_1), .int .i64 a0_2, .int .i64 a0_3] 25 (0, 0))) ∧ Aside0 (Below w.heap.size w wc))
              case first =>
               have H := HC60.out
               clear HC60
               by_cases c61 : t498 = 0
               ·
                rw [if_pos c61] at H
                have c61b0 : (t498 == 0) = true := beq_iff_eq.mpr c61
                have c61b1 : (t498 != 0) = false := bne_eq_false_iff_eq.mpr c61
                clear c61
                (first | rw [c61b0] | (simp only [i64_w, i32_w]; rw [c61b0]) | skip)
                by_cases c62 : (l0_0.length : Int) > 4000
                ·
                 rw [if_pos c62] at H
                 have c62b0 : decide (4000 < (l0_0.length : Int)) = true := decide_eq_true c62
                 have c62b1 : decide (4000 < l0_0.length) = true := decide_eq_true (by omega)
                 clear c62
                 have H' := Aside0.mk H
                 clear H
                 obtain ⟨hcz63_0, hcz63_1, hcz63_2, hcz63_3, hfz63_0, hfz63_1, hfz63_2, hfz63_3⟩ := bk4 BK461.out
                 go_wp2
                 go_meet
                 case rel => exact ⟨_, (true), rs, H', ⟨by have := HJ6.out; have := HJ23.out; have := HJ38.out; have := HJ50.out; first | omega | exact Nat.le_refl _⟩, ⟨skK BK461.out⟩, ⟨by repeat (first | (with_reducible first | exact HB.out | apply below_alloc | apply pw_below_drewN | apply below_drew1 | refine below_set ?_ GE461.out) | exact HB.out)⟩⟩
                ·
                 rw [if_neg c62] at H
                 have c62b0 : decide (4000 < (l0_0.length : Int)) = false := decide_eq_false c62
                 have c62b1 : decide (4000 < l0_0.length) = false := decide_eq_false (by omega)
                 clear c62
                 replace H := Option.bind_eq_some_iff.mp H
                 obtain ⟨t501, A640, H⟩ := H
                 replace H : (larchlaw17_WeighFaults.j4 kj50 t490 (!t501) l0_0 l0_1 a0_2 a0_3) = some r := H
                 have A64 := Aside0.mk A640
                 clear A640
                 have H' := Aside0.mk H
                 clear H
                 obtain ⟨hcz65_0, hcz65_1, hcz65_2, hcz65_3, hfz65_0, hfz65_1, hfz65_2, hfz65_3⟩ := bk4 BK461.out
                 go_wp2_with (first | (go_at_call 19; (with_reducible refine (larchref17_Ordered.calls kj50 _ _ l0_0 t501 _ ?side1 ?side2 A64.out).mono ?_); (case side1 => exact skC (Kd.C_below HR0_0.out HB.out)); (case side2 => exact HC0_0.out); rintro e w66 ⟨rfl, hb⟩; have n0_ := Aside0.mk (blk_below (g := gb461) (o := .cells #[.slice A0_0 l0_0.length c0_0, .slice A0_1 l0_1.length c0_1, .int .i64 a0_2, .int .i64 a0_3] 25 (0, 0)) (skK BK461.out) hb); have n1_ := Aside0.mk (below_step (by repeat (first | (with_reducible first | exact HB.out | apply below_alloc | apply pw_below_drewN | apply below_drew1 | refine below_set ?_ GE461.out) | exact HB.out)) hb); clear BK461; clear HB; have BK461 := n0_; have HB := n1_; clear n0_ n1_; (try clear hb); (try clear hb2); (try clear hk); (try clear hi)))
                 go_meet
                 case rel => exact ⟨_, (!t501), rs, H', ⟨by have := HJ6.out; have := HJ23.out; have := HJ38.out; have := HJ50.out; first | omega | exact Nat.le_refl _⟩, ⟨skK BK461.out⟩, ⟨by repeat (first | (with_reducible first | exact HB.out | apply below_alloc | apply pw_below_drewN | apply below_drew1 | refine below_set ?_ GE461.out) | exact HB.out)⟩⟩
               ·
                rw [if_neg c61] at H
                have c61b0 : (t498 == 0) = false := beq_eq_false_iff_ne.mpr c61
                have c61b1 : (t498 != 0) = true := bne_iff_ne.mpr c61
                (first | rw [c61b0] | (simp only [i64_w, i32_w]; rw [c61b0]) | skip)
                have H' := Aside0.mk H
                clear H
                go_wp2
                go_meet
                case rel => exact ⟨_, (true), rs, H', ⟨by have := HJ6.out; have := HJ23.out; have := HJ38.out; have := HJ50.out; first | omega | exact Nat.le_refl _⟩, ⟨skK BK461.out⟩, ⟨by repeat (first | (with_reducible first | exact HB.out | apply below_alloc | apply pw_below_drewN | apply below_drew1 | refine below_set ?_ GE461.out) | exact HB.out)⟩⟩
              case rest =>
               clear HC60
               try clear c1
               try clear c2
               try clear p2
               try clear c3
               try clear c4
               try clear c5
               try clear c6
               try clear c8
               try clear c9
               try clear c10
               try clear c11
               try clear c13
               try clear c14
               try clear c15
               try clear c16
               try clear c16b0
               try clear c16b1
               try clear c17
               try clear c18
               try clear c20
               try clear c31
               try clear c31b0
               try clear c31b1
               try clear c35
               try clear c46
               try clear c46b0
               try clear c46b1
               try clear c47
               try clear c58
               try clear c58b0
               try clear c58b1
               try clear c59
               try clear c61
               try clear c61b0
               try clear c61b1
               try clear c62
               try clear c62b0
               try clear c62b1
               try clear hcz10_0
               try clear hcz10_1
               try clear hcz10_2
               try clear hcz10_3
               try clear hcz14_0
               try clear hcz14_1
               try clear hcz14_2
               try clear hcz14_3
               try clear hcz25_0
               try clear hcz25_1
               try clear hcz25_2
               try clear hcz25_3
               try clear hcz29_0
               try clear hcz29_1
               try clear hcz29_2
               try clear hcz29_3
               try clear hcz40_0
               try clear hcz40_1
               try clear hcz40_2
               try clear hcz40_3
               try clear hcz44_0
               try clear hcz44_1
               try clear hcz44_2
               try clear hcz44_3
               try clear hcz56_0
               try clear hcz56_1
               try clear hcz56_2
               try clear hcz56_3
               try clear hcz63_0
               try clear hcz63_1
               try clear hcz63_2
               try clear hcz63_3
               try clear hcz65_0
               try clear hcz65_1
               try clear hcz65_2
               try clear hcz65_3
               try clear hfz10_0
               try clear hfz10_1
               try clear hfz10_2
               try clear hfz10_3
               try clear hfz14_0
               try clear hfz14_1
               try clear hfz14_2
               try clear hfz14_3
               try clear hfz25_0
               try clear hfz25_1
               try clear hfz25_2
               try clear hfz25_3
               try clear hfz29_0
               try clear hfz29_1
               try clear hfz29_2
               try clear hfz29_3
               try clear hfz40_0
               try clear hfz40_1
               try clear hfz40_2
               try clear hfz40_3
               try clear hfz44_0
               try clear hfz44_1
               try clear hfz44_2
               try clear hfz44_3
               try clear hfz56_0
               try clear hfz56_1
               try clear hfz56_2
               try clear hfz56_3
               try clear hfz63_0
               try clear hfz63_1
               try clear hfz63_2
               try clear hfz63_3
               try clear hfz65_0
               try clear hfz65_1
               try clear hfz65_2
               try clear hfz65_3
               try clear p2
               obtain ⟨kq, x121_59, rfl, HA, HJ59, BK461, HB⟩ := hcut
               cases kq with
               | zero => exact absurd HA.out (by simp [larchlaw17_WeighFaults.j4])
               | succ kj59 =>
                have H := HA.out
                clear HA
                simp only [larchlaw17_WeighFaults.j4] at H
                by_cases c67 : x121_59 = true
                ·
                 subst c67
                 have H1 : (some true) = some r := by rw [if_pos rfl] at H; exact H
                 clear H
                 have H := H1
                 clear H1
                 obtain rfl := Option.some.inj H
                 go_wp2
                 go_ret
                 exact ⟨re, by repeat (first | (with_reducible first | exact HB.out | apply below_alloc | apply pw_below_drewN | apply below_drew1 | refine below_set ?_ GE461.out) | exact HB.out)⟩
                ·
                 replace c67 := Bool.eq_false_iff.mpr c67
                 subst c67
                 have H1 : ((larchref17_Pairs.f kj59 l0_0).bind fun t502 => (larchlaw17_WeighFaults.l0 kj59 t490 t502 false 0 l0_0 l0_1 a0_2 a0_3)) = some r := by rw [if_neg (show ¬ (false = true) by decide)] at H; exact H
                 clear H
                 have H := H1
                 clear H1
                 replace H := Option.bind_eq_some_iff.mp H
                 obtain ⟨t502, A680, H⟩ := H
                 replace H : (larchlaw17_WeighFaults.l0 kj59 t490 t502 false 0 l0_0 l0_1 a0_2 a0_3) = some r := H
                 have A68 := Aside0.mk A680
                 clear A680
                 have H' := Aside0.mk H
                 clear H
                 obtain ⟨hcz69_0, hcz69_1, hcz69_2, hcz69_3, hfz69_0, hfz69_1, hfz69_2, hfz69_3⟩ := bk4 BK461.out
                 go_wp2_with (first | ((with_reducible refine gate_callee (f := 20) rfl ?_); refine goesL_ (some 124) rfl rfl Try.func20 (by kernel_rfl) rfl #[.slice A0_0 l0_0.length c0_0] rfl ags ?_; (with_reducible refine (larchref17_Pairs.calls kj59 _ _ l0_0 t502 _ ?side1 ?side2 A68.out).mono ?_); (case side1 => exact skC (Kd.C_below HR0_0.out HB.out)); (case side2 => exact HC0_0.out); rintro e w70 ⟨v503, rfl, ho0, hb⟩; refine ⟨_, rfl, ?_⟩; have n0_ := Aside0.mk (Kd.R_lower ho0 (below_size (by repeat (first | (with_reducible first | exact HB.out | apply below_alloc | apply pw_below_drewN | apply below_drew1 | refine below_set ?_ GE461.out) | exact HB.out)))); have n1_ := Aside0.mk (blk_below (g := gb461) (o := .cells #[.slice A0_0 l0_0.length c0_0, .slice A0_1 l0_1.length c0_1, .int .i64 a0_2, .int .i64 a0_3] 25 (0, 0)) (skK BK461.out) hb); have n2_ := Aside0.mk (below_step (by repeat (first | (with_reducible first | exact HB.out | apply below_alloc | apply pw_below_drewN | apply below_drew1 | refine below_set ?_ GE461.out) | exact HB.out)) hb); clear BK461; clear HB; have HO504 := n0_; have BK461 := n1_; have HB := n2_; clear n0_ n1_ n2_; (try clear hb); (try clear hb2); (try clear hk); (try clear hi); (try clear ho0)))
                 go_loopg [12, 13] kj59 (fun kq v12 v13 w' => ∃ (x12_6 : Bool) (x13_6 : Int), v12 = .bool x12_6 ∧ v13 = .int .i64 x13_6 ∧ Aside0 (larchlaw17_WeighFaults.l0 kq t490 t502 x12_6 x13_6 l0_0 l0_1 a0_2 a0_3 = some r) ∧ Aside0 (kq ≤ kj59) ∧ Aside0 (Kd.R k39 39 w' w.heap.size (fun _ => True) v503 t502) ∧ Aside0 (w'.heap[gb461]? = some (.cells #[(.slice A0_0 l0_0.length c0_0), (.slice A0_1 l0_1.length c0_1), .int .i64 a0_2, .int .i64 a0_3] 25 (0, 0))) ∧ Aside0 (Below w.heap.size w w'))
                 case atStart => exact ⟨(false), (0), rs, rs, H', ⟨Nat.le_refl _⟩, ⟨skR HO504.out⟩, ⟨skK BK461.out⟩, ⟨by repeat (first | (with_reducible first | exact HB.out | apply below_alloc | apply pw_below_drewN | apply below_drew1 | refine below_set ?_ GE461.out) | exact HB.out)⟩⟩
                 case round =>
                  clear H'
                  try clear c1
                  try clear c2
                  try clear p2
                  try clear c3
                  try clear c4
                  try clear c5
                  try clear c6
                  try clear c8
                  try clear c9
                  try clear c10
                  try clear c11
                  try clear c13
                  try clear c14
                  try clear c15
                  try clear c16
                  try clear c16b0
                  try clear c16b1
                  try clear c17
                  try clear c18
                  try clear c20
                  try clear c31
                  try clear c31b0
                  try clear c31b1
                  try clear c35
                  try clear c46
                  try clear c46b0
                  try clear c46b1
                  try clear c47
                  try clear c58
                  try clear c58b0
                  try clear c58b1
                  try clear c59
                  try clear c61
                  try clear c61b0
                  try clear c61b1
                  try clear c62
                  try clear c62b0
                  try clear c62b1
                  try clear c67
                  try clear hcz10_0
                  try clear hcz10_1
                  try clear hcz10_2
                  try clear hcz10_3
                  try clear hcz14_0
                  try clear hcz14_1
                  try clear hcz14_2
                  try clear hcz14_3
                  try clear hcz25_0
                  try clear hcz25_1
                  try clear hcz25_2
                  try clear hcz25_3
                  try clear hcz29_0
                  try clear hcz29_1
                  try clear hcz29_2
                  try clear hcz29_3
                  try clear hcz40_0
                  try clear hcz40_1
                  try clear hcz40_2
                  try clear hcz40_3
                  try clear hcz44_0
                  try clear hcz44_1
                  try clear hcz44_2
                  try clear hcz44_3
                  try clear hcz56_0
                  try clear hcz56_1
                  try clear hcz56_2
                  try clear hcz56_3
                  try clear hcz63_0
                  try clear hcz63_1
                  try clear hcz63_2
                  try clear hcz63_3
                  try clear hcz65_0
                  try clear hcz65_1
                  try clear hcz65_2
                  try clear hcz65_3
                  try clear hcz69_0
                  try clear hcz69_1
                  try clear hcz69_2
                  try clear hcz69_3
                  try clear hfz10_0
                  try clear hfz10_1
                  try clear hfz10_2
                  try clear hfz10_3
                  try clear hfz14_0
                  try clear hfz14_1
                  try clear hfz14_2
                  try clear hfz14_3
                  try clear hfz25_0
                  try clear hfz25_1
                  try clear hfz25_2
                  try clear hfz25_3
                  try clear hfz29_0
                  try clear hfz29_1
                  try clear hfz29_2
                  try clear hfz29_3
                  try clear hfz40_0
                  try clear hfz40_1
                  try clear hfz40_2
                  try clear hfz40_3
                  try clear hfz44_0
                  try clear hfz44_1
                  try clear hfz44_2
                  try clear hfz44_3
                  try clear hfz56_0
                  try clear hfz56_1
                  try clear hfz56_2
                  try clear hfz56_3
                  try clear hfz63_0
                  try clear hfz63_1
                  try clear hfz63_2
                  try clear hfz63_3
                  try clear hfz65_0
                  try clear hfz65_1
                  try clear hfz65_2
                  try clear hfz65_3
                  try clear hfz69_0
                  try clear hfz69_1
                  try clear hfz69_2
                  try clear hfz69_3
                  try clear p2
                  obtain ⟨x12_6, x13_6, rfl, rfl, HA, HK6, HO_11, BK461, HB⟩ := hrel
                  cases gk with
                  | zero => exact absurd HA.out (by simp [larchlaw17_WeighFaults.l0])
                  | succ k6 =>
                   have H := HA.out
                   clear HA
                   simp only [larchlaw17_WeighFaults.l0] at H
                   have HC71 := Aside0.mk H
                   clear H
                   go_upto_region 24 with (fail)
                   go_cut [132] (fun v132 wc => ∃ (kq : Nat) (x132_70 : Bool), v132 = .bool x132_70 ∧ Aside0 (larchlaw17_WeighFaults.j6 kq t490 t502 x12_6 x13_6 x132_70 l0_0 l0_1 a0_2 a0_3 = some r) ∧ Aside0 (kq ≤ k6) ∧ Aside0 (Kd.R k39 39 wc w.heap.size (fun _ => True) v503 t502) ∧ Aside0 (wc.heap[gb461]? = some (.cells #[(.slice A0_0 l0_0.length c0_0), (.slice A0_1 l0_1.length c0_1), .int .i64 a0_2, .int .i64 a0_3] 25 (0, 0))) ∧ Aside0 (Below w.heap.size w wc))
                   case first =>
                    have H := HC71.out
                    clear HC71
                    by_cases c72 : x13_6 < (t502.length : Int)
                    ·
                     rw [if_pos c72] at H
                     have c72b0 : decide (x13_6 < (t502.length : Int)) = true := decide_eq_true c72
                     clear c72
                     (first | rw [c72b0] | (simp only [i64_w, i32_w]; rw [c72b0]) | skip)
                     have H' := Aside0.mk H
                     clear H
                     obtain ⟨Ao73, co73, eo73⟩ := Kd.R_slice HO_11.out
                     subst eo73
                     go_wp2
                     go_meet
                     case rel => exact ⟨_, (decide (x13_6 < 200)), rs, H', ⟨by have := HJ6.out; have := HJ23.out; have := HJ38.out; have := HJ50.out; have := HJ59.out; have := HK6.out; first | omega | exact Nat.le_refl _⟩, ⟨skR HO_11.out⟩, ⟨skK BK461.out⟩, ⟨by repeat (first | (with_reducible first | exact HB.out | apply below_alloc | apply pw_below_drewN | apply below_drew1 | refine below_set ?_ GE461.out) | exact HB.out)⟩⟩
                    ·
                     rw [if_neg c72] at H
                     have c72b0 : decide (x13_6 < (t502.length : Int)) = false := decide_eq_false c72
                     clear c72
                     (first | rw [c72b0] | (simp only [i64_w, i32_w]; rw [c72b0]) | skip)
                     have H' := Aside0.mk H
                     clear H
                     obtain ⟨Ao74, co74, eo74⟩ := Kd.R_slice HO_11.out
                     subst eo74
                     go_wp2
                     go_meet
                     case rel => exact ⟨_, (false), rs, H', ⟨by have := HJ6.out; have := HJ23.out; have := HJ38.out; have := HJ50.out; have := HJ59.out; have := HK6.out; first | omega | exact Nat.le_refl _⟩, ⟨skR HO_11.out⟩, ⟨skK BK461.out⟩, ⟨by repeat (first | (with_reducible first | exact HB.out | apply below_alloc | apply pw_below_drewN | apply below_drew1 | refine below_set ?_ GE461.out) | exact HB.out)⟩⟩
                   case rest =>
                    clear HC71
                    try clear c1
                    try clear c2
                    try clear p2
                    try clear c3
                    try clear c4
                    try clear c5
                    try clear c6
                    try clear c7
                    try clear c8
                    try clear c9
                    try clear c10
                    try clear c11
                    try clear c13
                    try clear c14
                    try clear c15
                    try clear c16
                    try clear c16b0
                    try clear c16b1
                    try clear c17
                    try clear c18
                    try clear c20
                    try clear c31
                    try clear c31b0
                    try clear c31b1
                    try clear c35
                    try clear c46
                    try clear c46b0
                    try clear c46b1
                    try clear c47
                    try clear c58
                    try clear c58b0
                    try clear c58b1
                    try clear c59
                    try clear c61
                    try clear c61b0
                    try clear c61b1
                    try clear c62
                    try clear c62b0
                    try clear c62b1
                    try clear c67
                    try clear c72
                    try clear c72b0
                    try clear hcz10_0
                    try clear hcz10_1
                    try clear hcz10_2
                    try clear hcz10_3
                    try clear hcz14_0
                    try clear hcz14_1
                    try clear hcz14_2
                    try clear hcz14_3
                    try clear hcz25_0
                    try clear hcz25_1
                    try clear hcz25_2
                    try clear hcz25_3
                    try clear hcz29_0
                    try clear hcz29_1
                    try clear hcz29_2
                    try clear hcz29_3
                    try clear hcz40_0
                    try clear hcz40_1
                    try clear hcz40_2
                    try clear hcz40_3
                    try clear hcz44_0
                    try clear hcz44_1
                    try clear hcz44_2
                    try clear hcz44_3
                    try clear hcz56_0
                    try clear hcz56_1
                    try clear hcz56_2
                    try clear hcz56_3
                    try clear hcz63_0
                    try clear hcz63_1
                    try clear hcz63_2
                    try clear hcz63_3
                    try clear hcz65_0
                    try clear hcz65_1
                    try clear hcz65_2
                    try clear hcz65_3
                    try clear hcz69_0
                    try clear hcz69_1
                    try clear hcz69_2
                    try clear hcz69_3
                    try clear hfz10_0
                    try clear hfz10_1
                    try clear hfz10_2
                    try clear hfz10_3
                    try clear hfz14_0
                    try clear hfz14_1
                    try clear hfz14_2
                    try clear hfz14_3
                    try clear hfz25_0
                    try clear hfz25_1
                    try clear hfz25_2
                    try clear hfz25_3
                    try clear hfz29_0
                    try clear hfz29_1
                    try clear hfz29_2
                    try clear hfz29_3
                    try clear hfz40_0
                    try clear hfz40_1
                    try clear hfz40_2
                    try clear hfz40_3
                    try clear hfz44_0
                    try clear hfz44_1
                    try clear hfz44_2
                    try clear hfz44_3
                    try clear hfz56_0
                    try clear hfz56_1
                    try clear hfz56_2
                    try clear hfz56_3
                    try clear hfz63_0
                    try clear hfz63_1
                    try clear hfz63_2
                    try clear hfz63_3
                    try clear hfz65_0
                    try clear hfz65_1
                    try clear hfz65_2
                    try clear hfz65_3
                    try clear hfz69_0
                    try clear hfz69_1
                    try clear hfz69_2
                    try clear hfz69_3
                    try clear p2
                    obtain ⟨kq, x132_70, rfl, HA, HJ70, HO_11, BK461, HB⟩ := hcut
                    cases kq with
                    | zero => exact absurd HA.out (by simp [larchlaw17_WeighFaults.j6])
                    | succ kj70 =>
                     have H := HA.out
                     clear HA
                     simp only [larchlaw17_WeighFaults.j6] at H
                     by_cases c75 : x132_70 = true
                     ·
                      subst c75
                      have H1 : ((larchlaw17_copied.f l0_0).bind fun t505 => (if 0 ≤ x13_6 then (if x13_6 < (t502.length : Int) then ((weigh_First.f kj70 t505 ((rd_T39 t502 x13_6).f0)).bind fun bt509 => (if bt509.2 = 0 then (if x12_6 = true then (larchlaw17_WeighFaults.l0 kj70 t490 t502 true (wrap64 (x13_6 + 1)) l0_0 l0_1 a0_2 a0_3) else (larchlaw17_WeighFaults.l0 kj70 t490 t502 (decide (bt509.1 ≥ 0)) (wrap64 (x13_6 + 1)) l0_0 l0_1 a0_2 a0_3)) else (none))) else (none)) else (none))) = some r := by rw [if_pos rfl] at H; exact H
                      clear H
                      have H := H1
                      clear H1
                      replace H := Option.bind_eq_some_iff.mp H
                      obtain ⟨t505, A760, H⟩ := H
                      replace H : (if 0 ≤ x13_6 then (if x13_6 < (t502.length : Int) then ((weigh_First.f kj70 t505 ((rd_T39 t502 x13_6).f0)).bind fun bt509 => (if bt509.2 = 0 then (if x12_6 = true then (larchlaw17_WeighFaults.l0 kj70 t490 t502 true (wrap64 (x13_6 + 1)) l0_0 l0_1 a0_2 a0_3) else (larchlaw17_WeighFaults.l0 kj70 t490 t502 (decide (bt509.1 ≥ 0)) (wrap64 (x13_6 + 1)) l0_0 l0_1 a0_2 a0_3)) else (none))) else (none)) else (none)) = some r := H
                      have A76 := Aside0.mk A760
                      clear A760
                      by_cases c77 : 0 ≤ x13_6
                      ·
                       rw [if_pos c77] at H
                       have c77b0 : decide (0 ≤ x13_6) = true := decide_eq_true c77
                       clear c77
                       by_cases c78 : x13_6 < (t502.length : Int)
                       ·
                        rw [if_pos c78] at H
                        have c78b0 : decide (x13_6 < (t502.length : Int)) = true := decide_eq_true c78
                        clear c78
                        replace H := Option.bind_eq_some_iff.mp H
                        obtain ⟨⟨t509, t510⟩, A790, H⟩ := H
                        replace H : (if t510 = 0 then (if x12_6 = true then (larchlaw17_WeighFaults.l0 kj70 t490 t502 true (wrap64 (x13_6 + 1)) l0_0 l0_1 a0_2 a0_3) else (larchlaw17_WeighFaults.l0 kj70 t490 t502 (decide (t509 ≥ 0)) (wrap64 (x13_6 + 1)) l0_0 l0_1 a0_2 a0_3)) else (none)) = some r := H
                        have A79 := Aside0.mk A790
                        clear A790
                        by_cases c80 : t510 = 0
                        ·
                         rw [if_pos c80] at H
                         have c80b0 : (t510 == 0) = true := beq_iff_eq.mpr c80
                         have c80b1 : (t510 != 0) = false := bne_eq_false_iff_eq.mpr c80
                         clear c80
                         by_cases c81 : x12_6 = true
                         ·
                          subst c81
                          have H1 : (larchlaw17_WeighFaults.l0 kj70 t490 t502 true (wrap64 (x13_6 + 1)) l0_0 l0_1 a0_2 a0_3) = some r := by rw [if_pos rfl] at H; exact H
                          clear H
                          have H := H1
                          clear H1
                          have H' := Aside0.mk H
                          clear H
                          try go_wp2
                          have n0_ := Aside0.mk (Kd.R_drew HO_11.out)
                          have n1_ := Aside0.mk (blk_drew BK461.out)
                          have n2_ := Aside0.mk (below_drew1 HB.out)
                          clear HO_11
                          clear BK461
                          clear HB
                          have HO_11 := n0_
                          have BK461 := n1_
                          have HB := n2_
                          clear n0_ n1_ n2_
                          obtain ⟨Ao83, co83, eo83⟩ := Kd.R_slice HO_11.out
                          (first | subst eo83 | (injection eo83 with f1_ f2_ f3_; have f4_ := f1_.symm; have f5_ := f3_.symm; clear f1_ f2_ f3_; subst f4_; subst f5_))
                          have p508 : 0 ≤ (x13_6 : Int) := dt
                          have q508 : x13_6 < (t502.length : Int) := dt
                          obtain ⟨ad508, e508, hx508_0, hx508_1⟩ := at_T39 (Kd.R_reads' HO_11.out).2.2 x13_6 p508 q508
                          cases e508
                          replace p508 := eq_true p508
                          replace q508 := eq_true q508
                          refine start_ (n := 14) (S := fun w' => w'.cell? ⟨gb461, 0, none⟩ = some (.slice A0_0 l0_0.length c0_0) ∧ w'.cell? ⟨gb461, 1, none⟩ = some (.slice A0_1 l0_1.length c0_1) ∧ w'.cell? ⟨gb461, 2, none⟩ = some (.int .i64 a0_2) ∧ w'.cell? ⟨gb461, 3, none⟩ = some (.int .i64 a0_3) ∧ w'.cell? (ad508.add ((x13_6).toNat * 2)) = some (.int .i64 ((rd_T39 t502 x13_6).f0)) ∧ w'.cell? ⟨(ad508.add ((x13_6).toNat * 2)).block, (ad508.add ((x13_6).toNat * 2)).off + 1, none⟩ = some (.int .i64 ((rd_T39 t502 x13_6).f1))) (ds := []) #[false, false, false, false, false, false, false, false, false, false, false, false, false, false] (by kernel_rfl) rfl rfl ⟨(blk_cell BK461.out 0).trans rfl, (blk_cell BK461.out 1).trans rfl, (blk_cell BK461.out 2).trans rfl, (blk_cell BK461.out 3).trans rfl, hx508_0, hx508_1⟩ (fun hHeld => ?_); refine with_tabW larchlaw17_WeighFaults.tab26 larchlaw17_WeighFaults.bits26 (fun HT_ HW_ => ?_)
                          generalize wc.drew = w82 at HO_11 BK461 HB hx508_0 hx508_1 hHeld ⊢
                          refine pure_ (i := 0) (N := some 136) (v := ?_) (a' := ?_) #[true, false, false, false, false, false, false, false, false, false, false, false, false, false] rfl rfl (any_of HT_.out (by kernel_rfl)) (fun _ _ _ h => h) (Or.inl ⟨by rfl, ?_⟩) ?_ ?_
                          rotate_left
                          ·
                           intro w'
                           go_simp
                           with_reducible rfl
                          rotate_left
                          ·
                           simp only [Act.put, List.setIfInBounds_toArray, List.set_cons_zero, List.set_cons_succ, i64_w, i32_w]
                           rfl
                          refine pure_ (i := 3) (N := some 139) (v := ?_) (a' := ?_) #[true, false, false, true, false, false, false, false, false, false, false, false, false, false] rfl rfl (any_of HT_.out (by kernel_rfl)) (fun _ _ _ h => h) (Or.inl ⟨by rfl, ?_⟩) ?_ ?_
                          rotate_left
                          ·
                           intro w'
                           go_simp
                           with_reducible rfl
                          rotate_left
                          ·
                           simp only [Act.put, List.setIfInBounds_toArray, List.set_cons_zero, List.set_cons_succ, i64_w, i32_w]
                           rfl
                          refine pure_ (i := 4) (N := some 140) (v := ?_) (a' := ?_) #[true, false, false, true, true, false, false, false, false, false, false, false, false, false] rfl rfl (any_of HT_.out (by kernel_rfl)) (fun _ _ _ h => h) (Or.inl ⟨by rfl, ?_⟩) ?_ ?_
                          rotate_left
                          ·
                           intro w'
                           go_simp
                           with_reducible rfl
                          rotate_left
                          ·
                           simp only [Act.put, List.setIfInBounds_toArray, List.set_cons_zero, List.set_cons_succ, i64_w, i32_w]
                           rfl
                          refine pure_ (i := 5) (N := some 141) (v := ?_) (a' := ?_) #[true, false, false, true, true, true, false, false, false, false, false, false, false, false] rfl rfl (any_of HT_.out (by kernel_rfl)) (fun _ _ _ h => h) (Or.inl ⟨by rfl, ?_⟩) ?_ ?_
                          rotate_left
                          ·
                           intro w'
                           go_simp
                           with_reducible rfl
                          rotate_left
                          ·
                           simp only [Act.put, List.setIfInBounds_toArray, List.set_cons_zero, List.set_cons_succ, i64_w, i32_w]
                           rfl
                          refine pure_ (i := 6) (N := some 142) (v := ?_) (a' := ?_) #[true, false, false, true, true, true, true, false, false, false, false, false, false, false] rfl rfl (any_of HT_.out (by kernel_rfl)) (fun _ _ _ h => h) (Or.inl ⟨by rfl, ?_⟩) ?_ ?_
                          rotate_left
                          ·
                           intro w'
                           go_simp
                           with_reducible rfl
                          rotate_left
                          ·
                           simp only [Act.put, List.setIfInBounds_toArray, List.set_cons_zero, List.set_cons_succ, i64_w, i32_w]
                           rfl
                          refine take_ (i := 1) (N := some 137) (v := ?_) (a' := ?_) #[true, true, false, true, true, true, true, false, false, false, false, false, false, false] rfl rfl (take_ofW HT_.out HW_.out (by kernel_rfl)) (fun _ _ _ h => h) (Or.inl ⟨by rfl, ?_⟩) hHeld ?_ ?_
                          rotate_left
                          ·
                           rintro w' ⟨s0, s1, s2, s3, s4, s5⟩
                           go_simp
                           with_reducible rfl
                          rotate_left
                          ·
                           simp only [Act.put, List.setIfInBounds_toArray, List.set_cons_zero, List.set_cons_succ, i64_w, i32_w]
                           rfl
                          refine take_ (i := 7) (N := some 143) (v := ?_) (a' := ?_) #[true, true, false, true, true, true, true, true, false, false, false, false, false, false] rfl rfl (take_ofW HT_.out HW_.out (by kernel_rfl)) (fun _ _ _ h => h) (Or.inl ⟨by rfl, ?_⟩) hHeld ?_ ?_
                          rotate_left
                          ·
                           rintro w' ⟨s0, s1, s2, s3, s4, s5⟩
                           go_simp
                           with_reducible rfl
                          rotate_left
                          ·
                           simp only [Act.put, List.setIfInBounds_toArray, List.set_cons_zero, List.set_cons_succ, i64_w, i32_w]
                           rfl
                          refine one_ (i := 2) (N := some 138) #[true, true, true, true, true, true, true, true, false, false, false, false, false, false] rfl rfl (one_of HT_.out (by kernel_rfl)) (by decide) (fun K hK => ?_)
                          refine goes_ Try.func10 (by kernel_rfl) rfl #[.slice A0_0 l0_0.length c0_0] (by rfl) rfl rfl ags ?_
                          with_reducible refine (larchlaw17_copied.calls _ _ l0_0 t505 _ ?side1 ?side2 A76.out).mono ?_
                          (case side1 => exact skC (Kd.C_below HR0_0.out HB.out))
                          (case side2 => exact HC0_0.out)
                          rintro e w84 ⟨v506, rfl, ho0, hb⟩
                          have HS4_ := (hb.cell (World.block_lt_of_cell? _ _ (hHeld.2.2.2.2.1))).trans (hHeld.2.2.2.2.1)
                          have HS5_ := (hb.cell (World.block_lt_of_cell? _ _ (hHeld.2.2.2.2.2))).trans (hHeld.2.2.2.2.2)
                          refine ⟨_, rfl, ?_⟩
                          have n0_ := Aside0.mk (Kd.R_below (skR HO_11.out) hb)
                          have n1_ := Aside0.mk (Kd.R_lower ho0 (below_size (by repeat (first | (with_reducible first | exact HB.out | apply below_alloc | apply pw_below_drewN | apply below_drew1 | refine below_set ?_ GE461.out) | exact HB.out))))
                          have n2_ := Aside0.mk (blk_below (g := gb461) (o := .cells #[.slice A0_0 l0_0.length c0_0, .slice A0_1 l0_1.length c0_1, .int .i64 a0_2, .int .i64 a0_3] 25 (0, 0)) (skK BK461.out) hb)
                          have n3_ := Aside0.mk (below_step (by repeat (first | (with_reducible first | exact HB.out | apply below_alloc | apply pw_below_drewN | apply below_drew1 | refine below_set ?_ GE461.out) | exact HB.out)) hb)
                          clear HO_11
                          clear BK461
                          clear HB
                          have HO_11 := n0_
                          have HO507 := n1_
                          have BK461 := n2_
                          have HB := n3_
                          clear n0_ n1_ n2_ n3_
                          (try clear hb)
                          (try clear hb2)
                          (try clear hk)
                          (try clear hi)
                          (try clear ho0)
                          obtain ⟨Ao85, co85, eo85⟩ := Kd.R_slice HO507.out
                          (first | subst eo85 | (injection eo85 with f1_ f2_ f3_; have f4_ := f1_.symm; have f5_ := f3_.symm; clear f1_ f2_ f3_; subst f4_; subst f5_))
                          refine hK.out _ _ ⟨(blk_cell BK461.out 0).trans rfl, (blk_cell BK461.out 1).trans rfl, (blk_cell BK461.out 2).trans rfl, (blk_cell BK461.out 3).trans rfl, HS4_, HS5_⟩ (fun hHeld => ?_)
                          clear hK K
                          refine norm_ (a' := ?_) ?_ ?_
                          rotate_left
                          ·
                           show Act.put _ (some 138) _ = _
                           simp only [Act.put, List.setIfInBounds_toArray, List.set_cons_zero, List.set_cons_succ, i64_w, i32_w]
                           rfl
                          refine one_ (i := 8) (N := some 144) #[true, true, true, true, true, true, true, true, true, false, false, false, false, false] rfl rfl (one_of HT_.out (by kernel_rfl)) (by decide) (fun K hK => ?_)
                          refine goes_ Try.func17 (by kernel_rfl) rfl #[.slice Ao85 t505.length co85, .int .i64 ((rd_T39 t502 x13_6).f0)] (by rfl) rfl rfl ags ?_
                          with_reducible refine (weigh_First.calls kj70 _ _ t505 ((rd_T39 t502 x13_6).f0) t509 t510 _ ?side1 ?side2 A79.out).mono ?_
                          (case side1 => exact skC (Kd.R_reads' HO507.out).2.2)
                          (case side2 => exact (Kd.R_reads' HO507.out).2.1)
                          rintro e w86 ⟨rfl, hb⟩
                          have HS4_ := (hb.cell (World.block_lt_of_cell? _ _ (hHeld.2.2.2.2.1))).trans (hHeld.2.2.2.2.1)
                          have HS5_ := (hb.cell (World.block_lt_of_cell? _ _ (hHeld.2.2.2.2.2))).trans (hHeld.2.2.2.2.2)
                          refine ⟨_, rfl, ?_⟩
                          have n0_ := Aside0.mk (Kd.R_below (skR HO_11.out) hb)
                          have n1_ := Aside0.mk (Kd.R_below (skR HO507.out) hb)
                          have n2_ := Aside0.mk (blk_below (g := gb461) (o := .cells #[.slice A0_0 l0_0.length c0_0, .slice A0_1 l0_1.length c0_1, .int .i64 a0_2, .int .i64 a0_3] 25 (0, 0)) (skK BK461.out) hb)
                          have n3_ := Aside0.mk (below_step (by repeat (first | (with_reducible first | exact HB.out | apply below_alloc | apply pw_below_drewN | apply below_drew1 | refine below_set ?_ GE461.out) | exact HB.out)) hb)
                          clear HO_11
                          clear HO507
                          clear BK461
                          clear HB
                          have HO_11 := n0_
                          have HO507 := n1_
                          have BK461 := n2_
                          have HB := n3_
                          clear n0_ n1_ n2_ n3_
                          (try clear hb)
                          (try clear hb2)
                          (try clear hk)
                          (try clear hi)
                          refine hK.out _ _ ⟨(blk_cell BK461.out 0).trans rfl, (blk_cell BK461.out 1).trans rfl, (blk_cell BK461.out 2).trans rfl, (blk_cell BK461.out 3).trans rfl, HS4_, HS5_⟩ (fun hHeld => ?_)
                          clear hK K
                          refine norm_ (a' := ?_) ?_ ?_
                          rotate_left
                          ·
                           show Act.put _ (some 144) _ = _
                           simp only [Act.put, List.setIfInBounds_toArray, List.set_cons_zero, List.set_cons_succ, i64_w, i32_w]
                           rfl
                          refine pure_ (i := 9) (N := some 135) (v := ?_) (a' := ?_) #[true, true, true, true, true, true, true, true, true, true, false, false, false, false] rfl rfl (any_of HT_.out (by kernel_rfl)) (fun _ _ _ h => h) (Or.inl ⟨by rfl, ?_⟩) ?_ ?_
                          rotate_left
                          ·
                           intro w'
                           go_simp
                           with_reducible rfl
                          rotate_left
                          ·
                           simp only [Act.put, List.setIfInBounds_toArray, List.set_cons_zero, List.set_cons_succ, i64_w, i32_w]
                           rfl
                          refine pure_ (i := 10) (N := some 145) (v := ?_) (a' := ?_) #[true, true, true, true, true, true, true, true, true, true, true, false, false, false] rfl rfl (any_of HT_.out (by kernel_rfl)) (fun _ _ _ h => h) (Or.inl ⟨by rfl, ?_⟩) ?_ ?_
                          rotate_left
                          ·
                           intro w'
                           go_simp
                           with_reducible rfl
                          rotate_left
                          ·
                           simp only [Act.put, List.setIfInBounds_toArray, List.set_cons_zero, List.set_cons_succ, i64_w, i32_w]
                           rfl
                          refine pure_ (i := 11) (N := some 146) (v := ?_) (a' := ?_) #[true, true, true, true, true, true, true, true, true, true, true, true, false, false] rfl rfl (any_of HT_.out (by kernel_rfl)) (fun _ _ _ h => h) (Or.inl ⟨by rfl, ?_⟩) ?_ ?_
                          rotate_left
                          ·
                           intro w'
                           go_simp
                           with_reducible rfl
                          rotate_left
                          ·
                           simp only [Act.put, List.setIfInBounds_toArray, List.set_cons_zero, List.set_cons_succ, i64_w, i32_w]
                           rfl
                          refine pure_ (i := 12) (N := some 14) (v := ?_) (a' := ?_) #[true, true, true, true, true, true, true, true, true, true, true, true, true, false] rfl rfl (any_of HT_.out (by kernel_rfl)) (fun _ _ _ h => h) (Or.inl ⟨by rfl, ?_⟩) ?_ ?_
                          rotate_left
                          ·
                           intro w'
                           go_simp
                           with_reducible rfl
                          rotate_left
                          ·
                           simp only [Act.put, List.setIfInBounds_toArray, List.set_cons_zero, List.set_cons_succ, i64_w, i32_w]
                           rfl
                          refine pure_ (i := 13) (N := some 15) (v := ?_) (a' := ?_) #[true, true, true, true, true, true, true, true, true, true, true, true, true, true] rfl rfl (any_of HT_.out (by kernel_rfl)) (fun _ _ _ h => h) (Or.inl ⟨by rfl, ?_⟩) ?_ ?_
                          rotate_left
                          ·
                           intro w'
                           go_simp
                           with_reducible rfl
                          rotate_left
                          ·
                           simp only [Act.put, List.setIfInBounds_toArray, List.set_cons_zero, List.set_cons_succ, i64_w, i32_w]
                           rfl
                          refine done_ (done_of HT_.out (by kernel_rfl)) ?_
                          try go_wp2
                          go_roundg kj70
                          case measure => have := HJ6.out; have := HJ23.out; have := HJ38.out; have := HJ50.out; have := HJ59.out; have := HK6.out; have := HJ70.out; omega
                          case rel => exact ⟨(true), (wrap64 (x13_6 + 1)), rs, rs, H', ⟨by have := HJ6.out; have := HJ23.out; have := HJ38.out; have := HJ50.out; have := HJ59.out; have := HK6.out; have := HJ70.out; omega⟩, ⟨skR HO_11.out⟩, ⟨skK BK461.out⟩, ⟨by repeat (first | (with_reducible first | exact HB.out | apply below_alloc | apply pw_below_drewN | apply below_drew1 | refine below_set ?_ GE461.out) | exact HB.out)⟩⟩
                         ·
                          replace c81 := Bool.eq_false_iff.mpr c81
                          subst c81
                          have H1 : (larchlaw17_WeighFaults.l0 kj70 t490 t502 (decide (t509 ≥ 0)) (wrap64 (x13_6 + 1)) l0_0 l0_1 a0_2 a0_3) = some r := by rw [if_neg (show ¬ (false = true) by decide)] at H; exact H
                          clear H
                          have H := H1
                          clear H1
                          have H' := Aside0.mk H
                          clear H
                          try go_wp2
                          have n0_ := Aside0.mk (Kd.R_drew HO_11.out)
                          have n1_ := Aside0.mk (blk_drew BK461.out)
                          have n2_ := Aside0.mk (below_drew1 HB.out)
                          clear HO_11
                          clear BK461
                          clear HB
                          have HO_11 := n0_
                          have BK461 := n1_
                          have HB := n2_
                          clear n0_ n1_ n2_
                          obtain ⟨Ao88, co88, eo88⟩ := Kd.R_slice HO_11.out
                          (first | subst eo88 | (injection eo88 with f1_ f2_ f3_; have f4_ := f1_.symm; have f5_ := f3_.symm; clear f1_ f2_ f3_; subst f4_; subst f5_))
                          have p508 : 0 ≤ (x13_6 : Int) := dt
                          have q508 : x13_6 < (t502.length : Int) := dt
                          obtain ⟨ad508, e508, hx508_0, hx508_1⟩ := at_T39 (Kd.R_reads' HO_11.out).2.2 x13_6 p508 q508
                          cases e508
                          replace p508 := eq_true p508
                          replace q508 := eq_true q508
                          refine start_ (n := 14) (S := fun w' => w'.cell? ⟨gb461, 0, none⟩ = some (.slice A0_0 l0_0.length c0_0) ∧ w'.cell? ⟨gb461, 1, none⟩ = some (.slice A0_1 l0_1.length c0_1) ∧ w'.cell? ⟨gb461, 2, none⟩ = some (.int .i64 a0_2) ∧ w'.cell? ⟨gb461, 3, none⟩ = some (.int .i64 a0_3) ∧ w'.cell? (ad508.add ((x13_6).toNat * 2)) = some (.int .i64 ((rd_T39 t502 x13_6).f0)) ∧ w'.cell? ⟨(ad508.add ((x13_6).toNat * 2)).block, (ad508.add ((x13_6).toNat * 2)).off + 1, none⟩ = some (.int .i64 ((rd_T39 t502 x13_6).f1))) (ds := []) #[false, false, false, false, false, false, false, false, false, false, false, false, false, false] (by kernel_rfl) rfl rfl ⟨(blk_cell BK461.out 0).trans rfl, (blk_cell BK461.out 1).trans rfl, (blk_cell BK461.out 2).trans rfl, (blk_cell BK461.out 3).trans rfl, hx508_0, hx508_1⟩ (fun hHeld => ?_); refine with_tabW larchlaw17_WeighFaults.tab26 larchlaw17_WeighFaults.bits26 (fun HT_ HW_ => ?_)
                          generalize wc.drew = w87 at HO_11 BK461 HB hx508_0 hx508_1 hHeld ⊢
                          refine pure_ (i := 0) (N := some 136) (v := ?_) (a' := ?_) #[true, false, false, false, false, false, false, false, false, false, false, false, false, false] rfl rfl (any_of HT_.out (by kernel_rfl)) (fun _ _ _ h => h) (Or.inl ⟨by rfl, ?_⟩) ?_ ?_
                          rotate_left
                          ·
                           intro w'
                           go_simp
                           with_reducible rfl
                          rotate_left
                          ·
                           simp only [Act.put, List.setIfInBounds_toArray, List.set_cons_zero, List.set_cons_succ, i64_w, i32_w]
                           rfl
                          refine pure_ (i := 3) (N := some 139) (v := ?_) (a' := ?_) #[true, false, false, true, false, false, false, false, false, false, false, false, false, false] rfl rfl (any_of HT_.out (by kernel_rfl)) (fun _ _ _ h => h) (Or.inl ⟨by rfl, ?_⟩) ?_ ?_
                          rotate_left
                          ·
                           intro w'
                           go_simp
                           with_reducible rfl
                          rotate_left
                          ·
                           simp only [Act.put, List.setIfInBounds_toArray, List.set_cons_zero, List.set_cons_succ, i64_w, i32_w]
                           rfl
                          refine pure_ (i := 4) (N := some 140) (v := ?_) (a' := ?_) #[true, false, false, true, true, false, false, false, false, false, false, false, false, false] rfl rfl (any_of HT_.out (by kernel_rfl)) (fun _ _ _ h => h) (Or.inl ⟨by rfl, ?_⟩) ?_ ?_
                          rotate_left
                          ·
                           intro w'
                           go_simp
                           with_reducible rfl
                          rotate_left
                          ·
                           simp only [Act.put, List.setIfInBounds_toArray, List.set_cons_zero, List.set_cons_succ, i64_w, i32_w]
                           rfl
                          refine pure_ (i := 5) (N := some 141) (v := ?_) (a' := ?_) #[true, false, false, true, true, true, false, false, false, false, false, false, false, false] rfl rfl (any_of HT_.out (by kernel_rfl)) (fun _ _ _ h => h) (Or.inl ⟨by rfl, ?_⟩) ?_ ?_
                          rotate_left
                          ·
                           intro w'
                           go_simp
                           with_reducible rfl
                          rotate_left
                          ·
                           simp only [Act.put, List.setIfInBounds_toArray, List.set_cons_zero, List.set_cons_succ, i64_w, i32_w]
                           rfl
                          refine pure_ (i := 6) (N := some 142) (v := ?_) (a' := ?_) #[true, false, false, true, true, true, true, false, false, false, false, false, false, false] rfl rfl (any_of HT_.out (by kernel_rfl)) (fun _ _ _ h => h) (Or.inl ⟨by rfl, ?_⟩) ?_ ?_
                          rotate_left
                          ·
                           intro w'
                           go_simp
                           with_reducible rfl
                          rotate_left
                          ·
                           simp only [Act.put, List.setIfInBounds_toArray, List.set_cons_zero, List.set_cons_succ, i64_w, i32_w]
                           rfl
                          refine take_ (i := 1) (N := some 137) (v := ?_) (a' := ?_) #[true, true, false, true, true, true, true, false, false, false, false, false, false, false] rfl rfl (take_ofW HT_.out HW_.out (by kernel_rfl)) (fun _ _ _ h => h) (Or.inl ⟨by rfl, ?_⟩) hHeld ?_ ?_
                          rotate_left
                          ·
                           rintro w' ⟨s0, s1, s2, s3, s4, s5⟩
                           go_simp
                           with_reducible rfl
                          rotate_left
                          ·
                           simp only [Act.put, List.setIfInBounds_toArray, List.set_cons_zero, List.set_cons_succ, i64_w, i32_w]
                           rfl
                          refine take_ (i := 7) (N := some 143) (v := ?_) (a' := ?_) #[true, true, false, true, true, true, true, true, false, false, false, false, false, false] rfl rfl (take_ofW HT_.out HW_.out (by kernel_rfl)) (fun _ _ _ h => h) (Or.inl ⟨by rfl, ?_⟩) hHeld ?_ ?_
                          rotate_left
                          ·
                           rintro w' ⟨s0, s1, s2, s3, s4, s5⟩
                           go_simp
                           with_reducible rfl
                          rotate_left
                          ·
                           simp only [Act.put, List.setIfInBounds_toArray, List.set_cons_zero, List.set_cons_succ, i64_w, i32_w]
                           rfl
                          refine one_ (i := 2) (N := some 138) #[true, true, true, true, true, true, true, true, false, false, false, false, false, false] rfl rfl (one_of HT_.out (by kernel_rfl)) (by decide) (fun K hK => ?_)
                          refine goes_ Try.func10 (by kernel_rfl) rfl #[.slice A0_0 l0_0.length c0_0] (by rfl) rfl rfl ags ?_
                          with_reducible refine (larchlaw17_copied.calls _ _ l0_0 t505 _ ?side1 ?side2 A76.out).mono ?_
                          (case side1 => exact skC (Kd.C_below HR0_0.out HB.out))
                          (case side2 => exact HC0_0.out)
                          rintro e w89 ⟨v506, rfl, ho0, hb⟩
                          have HS4_ := (hb.cell (World.block_lt_of_cell? _ _ (hHeld.2.2.2.2.1))).trans (hHeld.2.2.2.2.1)
                          have HS5_ := (hb.cell (World.block_lt_of_cell? _ _ (hHeld.2.2.2.2.2))).trans (hHeld.2.2.2.2.2)
                          refine ⟨_, rfl, ?_⟩
                          have n0_ := Aside0.mk (Kd.R_below (skR HO_11.out) hb)
                          have n1_ := Aside0.mk (Kd.R_lower ho0 (below_size (by repeat (first | (with_reducible first | exact HB.out | apply below_alloc | apply pw_below_drewN | apply below_drew1 | refine below_set ?_ GE461.out) | exact HB.out))))
                          have n2_ := Aside0.mk (blk_below (g := gb461) (o := .cells #[.slice A0_0 l0_0.length c0_0, .slice A0_1 l0_1.length c0_1, .int .i64 a0_2, .int .i64 a0_3] 25 (0, 0)) (skK BK461.out) hb)
                          have n3_ := Aside0.mk (below_step (by repeat (first | (with_reducible first | exact HB.out | apply below_alloc | apply pw_below_drewN | apply below_drew1 | refine below_set ?_ GE461.out) | exact HB.out)) hb)
                          clear HO_11
                          clear BK461
                          clear HB
                          have HO_11 := n0_
                          have HO507 := n1_
                          have BK461 := n2_
                          have HB := n3_
                          clear n0_ n1_ n2_ n3_
                          (try clear hb)
                          (try clear hb2)
                          (try clear hk)
                          (try clear hi)
                          (try clear ho0)
                          obtain ⟨Ao90, co90, eo90⟩ := Kd.R_slice HO507.out
                          (first | subst eo90 | (injection eo90 with f1_ f2_ f3_; have f4_ := f1_.symm; have f5_ := f3_.symm; clear f1_ f2_ f3_; subst f4_; subst f5_))
                          refine hK.out _ _ ⟨(blk_cell BK461.out 0).trans rfl, (blk_cell BK461.out 1).trans rfl, (blk_cell BK461.out 2).trans rfl, (blk_cell BK461.out 3).trans rfl, HS4_, HS5_⟩ (fun hHeld => ?_)
                          clear hK K
                          refine norm_ (a' := ?_) ?_ ?_
                          rotate_left
                          ·
                           show Act.put _ (some 138) _ = _
                           simp only [Act.put, List.setIfInBounds_toArray, List.set_cons_zero, List.set_cons_succ, i64_w, i32_w]
                           rfl
                          refine one_ (i := 8) (N := some 144) #[true, true, true, true, true, true, true, true, true, false, false, false, false, false] rfl rfl (one_of HT_.out (by kernel_rfl)) (by decide) (fun K hK => ?_)
                          refine goes_ Try.func17 (by kernel_rfl) rfl #[.slice Ao90 t505.length co90, .int .i64 ((rd_T39 t502 x13_6).f0)] (by rfl) rfl rfl ags ?_
                          with_reducible refine (weigh_First.calls kj70 _ _ t505 ((rd_T39 t502 x13_6).f0) t509 t510 _ ?side1 ?side2 A79.out).mono ?_
                          (case side1 => exact skC (Kd.R_reads' HO507.out).2.2)
                          (case side2 => exact (Kd.R_reads' HO507.out).2.1)
                          rintro e w91 ⟨rfl, hb⟩
                          have HS4_ := (hb.cell (World.block_lt_of_cell? _ _ (hHeld.2.2.2.2.1))).trans (hHeld.2.2.2.2.1)
                          have HS5_ := (hb.cell (World.block_lt_of_cell? _ _ (hHeld.2.2.2.2.2))).trans (hHeld.2.2.2.2.2)
                          refine ⟨_, rfl, ?_⟩
                          have n0_ := Aside0.mk (Kd.R_below (skR HO_11.out) hb)
                          have n1_ := Aside0.mk (Kd.R_below (skR HO507.out) hb)
                          have n2_ := Aside0.mk (blk_below (g := gb461) (o := .cells #[.slice A0_0 l0_0.length c0_0, .slice A0_1 l0_1.length c0_1, .int .i64 a0_2, .int .i64 a0_3] 25 (0, 0)) (skK BK461.out) hb)
                          have n3_ := Aside0.mk (below_step (by repeat (first | (with_reducible first | exact HB.out | apply below_alloc | apply pw_below_drewN | apply below_drew1 | refine below_set ?_ GE461.out) | exact HB.out)) hb)
                          clear HO_11
                          clear HO507
                          clear BK461
                          clear HB
                          have HO_11 := n0_
                          have HO507 := n1_
                          have BK461 := n2_
                          have HB := n3_
                          clear n0_ n1_ n2_ n3_
                          (try clear hb)
                          (try clear hb2)
                          (try clear hk)
                          (try clear hi)
                          refine hK.out _ _ ⟨(blk_cell BK461.out 0).trans rfl, (blk_cell BK461.out 1).trans rfl, (blk_cell BK461.out 2).trans rfl, (blk_cell BK461.out 3).trans rfl, HS4_, HS5_⟩ (fun hHeld => ?_)
                          clear hK K
                          refine norm_ (a' := ?_) ?_ ?_
                          rotate_left
                          ·
                           show Act.put _ (some 144) _ = _
                           simp only [Act.put, List.setIfInBounds_toArray, List.set_cons_zero, List.set_cons_succ, i64_w, i32_w]
                           rfl
                          refine pure_ (i := 9) (N := some 135) (v := ?_) (a' := ?_) #[true, true, true, true, true, true, true, true, true, true, false, false, false, false] rfl rfl (any_of HT_.out (by kernel_rfl)) (fun _ _ _ h => h) (Or.inl ⟨by rfl, ?_⟩) ?_ ?_
                          rotate_left
                          ·
                           intro w'
                           go_simp
                           with_reducible rfl
                          rotate_left
                          ·
                           simp only [Act.put, List.setIfInBounds_toArray, List.set_cons_zero, List.set_cons_succ, i64_w, i32_w]
                           rfl
                          refine pure_ (i := 10) (N := some 145) (v := ?_) (a' := ?_) #[true, true, true, true, true, true, true, true, true, true, true, false, false, false] rfl rfl (any_of HT_.out (by kernel_rfl)) (fun _ _ _ h => h) (Or.inl ⟨by rfl, ?_⟩) ?_ ?_
                          rotate_left
                          ·
                           intro w'
                           go_simp
                           with_reducible rfl
                          rotate_left
                          ·
                           simp only [Act.put, List.setIfInBounds_toArray, List.set_cons_zero, List.set_cons_succ, i64_w, i32_w]
                           rfl
                          refine pure_ (i := 11) (N := some 146) (v := ?_) (a' := ?_) #[true, true, true, true, true, true, true, true, true, true, true, true, false, false] rfl rfl (any_of HT_.out (by kernel_rfl)) (fun _ _ _ h => h) (Or.inl ⟨by rfl, ?_⟩) ?_ ?_
                          rotate_left
                          ·
                           intro w'
                           go_simp
                           with_reducible rfl
                          rotate_left
                          ·
                           simp only [Act.put, List.setIfInBounds_toArray, List.set_cons_zero, List.set_cons_succ, i64_w, i32_w]
                           rfl
                          refine pure_ (i := 12) (N := some 14) (v := ?_) (a' := ?_) #[true, true, true, true, true, true, true, true, true, true, true, true, true, false] rfl rfl (any_of HT_.out (by kernel_rfl)) (fun _ _ _ h => h) (Or.inl ⟨by rfl, ?_⟩) ?_ ?_
                          rotate_left
                          ·
                           intro w'
                           go_simp
                           with_reducible rfl
                          rotate_left
                          ·
                           simp only [Act.put, List.setIfInBounds_toArray, List.set_cons_zero, List.set_cons_succ, i64_w, i32_w]
                           rfl
                          refine pure_ (i := 13) (N := some 15) (v := ?_) (a' := ?_) #[true, true, true, true, true, true, true, true, true, true, true, true, true, true] rfl rfl (any_of HT_.out (by kernel_rfl)) (fun _ _ _ h => h) (Or.inl ⟨by rfl, ?_⟩) ?_ ?_
                          rotate_left
                          ·
                           intro w'
                           go_simp
                           with_reducible rfl
                          rotate_left
                          ·
                           simp only [Act.put, List.setIfInBounds_toArray, List.set_cons_zero, List.set_cons_succ, i64_w, i32_w]
                           rfl
                          refine done_ (done_of HT_.out (by kernel_rfl)) ?_
                          try go_wp2
                          go_roundg kj70
                          case measure => have := HJ6.out; have := HJ23.out; have := HJ38.out; have := HJ50.out; have := HJ59.out; have := HK6.out; have := HJ70.out; omega
                          case rel => exact ⟨(decide (t509 ≥ 0)), (wrap64 (x13_6 + 1)), rs, rs, H', ⟨by have := HJ6.out; have := HJ23.out; have := HJ38.out; have := HJ50.out; have := HJ59.out; have := HK6.out; have := HJ70.out; omega⟩, ⟨skR HO_11.out⟩, ⟨skK BK461.out⟩, ⟨by repeat (first | (with_reducible first | exact HB.out | apply below_alloc | apply pw_below_drewN | apply below_drew1 | refine below_set ?_ GE461.out) | exact HB.out)⟩⟩
                        ·
                         rw [if_neg c80] at H
                         exact absurd H (by simp)
                       ·
                        rw [if_neg c78] at H
                        exact absurd H (by simp)
                      ·
                       rw [if_neg c77] at H
                       exact absurd H (by simp)
                     ·
                      replace c75 := Bool.eq_false_iff.mpr c75
                      subst c75
                      have H1 : (if (x12_6 == (decide (t490 > 0))) = true then (some true) else (some (decide ((t502.length : Int) > 200)))) = some r := by rw [if_neg (show ¬ (false = true) by decide)] at H; exact H
                      clear H
                      have H := H1
                      clear H1
                      by_cases c92 : (x12_6 == (decide (t490 > 0))) = true
                      ·
                       rw [if_pos c92] at H
                       have c92b0 : (x12_6 == (decide (t490 > 0))) = true := c92
                       (try (have c92b1 : decide (x12_6 = (decide (t490 > 0))) = true := by simpa using c92))
                       (try (have c92b2 : (x12_6 == (decide (t490 > 0))) = true := by simpa using c92))
                       clear c92
                       obtain rfl := Option.some.inj H
                       go_wp2
                       go_ret
                       exact ⟨re, by repeat (first | (with_reducible first | exact HB.out | apply below_alloc | apply pw_below_drewN | apply below_drew1 | refine below_set ?_ GE461.out) | exact HB.out)⟩
                      ·
                       rw [if_neg c92] at H
                       have c92b0 : (x12_6 == (decide (t490 > 0))) = false := by simpa using c92
                       (try (have c92b1 : decide (x12_6 = (decide (t490 > 0))) = false := by simpa using c92))
                       (try (have c92b2 : (x12_6 == (decide (t490 > 0))) = false := by simpa using c92))
                       (try (have c92b3 : ¬ (x12_6 = (decide (t490 > 0))) := by simpa using c92))
                       clear c92
                       obtain rfl := Option.some.inj H
                       obtain ⟨Ao93, co93, eo93⟩ := Kd.R_slice HO_11.out
                       subst eo93
                       go_wp2
                       go_ret
                       exact ⟨re, by repeat (first | (with_reducible first | exact HB.out | apply below_alloc | apply pw_below_drewN | apply below_drew1 | refine below_set ?_ GE461.out) | exact HB.out)⟩
 ·
  replace c3 := Bool.eq_false_iff.mpr c3
  subst c3
  have H1 : (none) = some r := by rw [if_neg (show ¬ (false = true) by decide)] at H; exact H
  clear H
  have H := H1
  clear H1
  exact absurd H (by simp)
end Go.Proofs.Ytmmjkebboonnkaa.P
