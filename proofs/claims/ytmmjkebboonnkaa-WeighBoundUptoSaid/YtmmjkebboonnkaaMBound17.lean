/- P.weighBound_holds, part 18 of 22: the contracts of the Go functions that the law calls, its own walk, and its plain law, for every input that the statement speaks of. -/
import Derived.Test.YtmmjkebboonnkaaMBound2
import Derived.Test.YtmmjkebboonnkaaMBound14
import Derived.Test.YtmmjkebboonnkaaMBound1
import Derived.Test.YtmmjkebboonnkaaMBound11
import Derived.Test.YtmmjkebboonnkaaMBound9
import Derived.Test.YtmmjkebboonnkaaMBound15
import Derived.Test.YtmmjkebboonnkaaMBound16
import Derived.Test.YtmmjkebboonnkaaMBound8
set_option linter.unusedVariables false
set_option linter.unusedSimpArgs false
/- F15 -/
namespace Go.Proofs.Ytmmjkebboonnkaa.P
open Go.RowKit Go.Proofs.YtmmjkebboonnkaaW.PrintWords Go.Proofs.YtmmjkebboonnkaaW.PrintLast Go.Proofs.YtmmjkebboonnkaaW.PrintMore
attribute [local go_sem] max2_int min2_int max_two min_two max_three min_three max_four min_four   -- for this text's walks alone
set_option linter.unusedVariables false
set_option linter.unusedSimpArgs false
def weigh_Violations.l0 : Nat → List (S49) → Int → List Int → Int → Int → Option (Int × Int)
 | 0, _, _, _, _, _ => none
 | k + 1, x0, x6, x26, x27, x28 => if x28 < x27 then (if 0 ≤ x28 then (if x28 < (x26.length : Int) then (if 0 ≤ (rd x26 x28) then (if (rd x26 x28) < (x0.length : Int) then (weigh_Violations.l0 k x0 (wrap64 (x6 + (wrap64 (((J49 x0 (rd x26 x28)).f2) - 1)))) x26 x27 (wrap64 (x28 + 1))) else (none)) else (none)) else (none)) else (none)) else (some (x6, 0))
def weigh_Violations.f (k : Nat) (l0 : List (S49)) : Option (Int × Int) := (weigh_Reds.f k l0).bind fun bt188 => (if bt188.2 = 0 then ((weigh_Overs.f k l0).bind fun bt192 => (weigh_Violations.l0 k l0 (bt188.1.length : Int) bt192.1 (bt192.1.length : Int) 0)) else (some (0, bt188.2)))
theorem weigh_Violations.mono_l : ∀ k, (∀ y0 y1 y2 y3 y4, LeO (weigh_Violations.l0 k y0 y1 y2 y3 y4) (weigh_Violations.l0 (k + 1) y0 y1 y2 y3 y4))
 | 0 => fun _ _ _ _ _ r h => by simp [weigh_Violations.l0] at h
 | k + 1 => by
  have ih0 := weigh_Violations.mono_l k
  ·
   intro y0 y1 y2 y3 y4
   unfold weigh_Violations.l0
   repeat' first
   | (with_reducible exact ih0 _ _ _ _ _)
   | (with_reducible exact weigh_Overs.mono _ _)
   | (with_reducible exact weigh_Reds.mono _ _)
   | (with_reducible exact LeO.refl _)
   | (with_reducible exact LeO.none _)
   | (with_reducible refine LeO.ite ?_ ?_)
   | (with_reducible refine LeO.bind ?_ (fun _ => ?_))
   | exact ih0 _ _ _ _ _
   | exact weigh_Overs.mono _ _
   | exact weigh_Reds.mono _ _
   | exact LeO.none _
   | refine LeO.ite ?_ ?_
   | refine LeO.bind ?_ (fun _ => ?_)
theorem weigh_Violations.mono : ∀ a0 k, LeO (weigh_Violations.f k a0) (weigh_Violations.f (k + 1) a0) := by
 intro a0 k
 have ih0 := weigh_Violations.mono_l k
 unfold weigh_Violations.f
 repeat' first
   | (with_reducible exact ih0 _ _ _ _ _)
   | (with_reducible exact weigh_Overs.mono _ _)
   | (with_reducible exact weigh_Reds.mono _ _)
   | (with_reducible exact LeO.refl _)
   | (with_reducible exact LeO.none _)
   | (with_reducible refine LeO.ite ?_ ?_)
   | (with_reducible refine LeO.bind ?_ (fun _ => ?_))
   | exact ih0 _ _ _ _ _
   | exact weigh_Overs.mono _ _
   | exact weigh_Reds.mono _ _
   | exact LeO.none _
   | refine LeO.ite ?_ ?_
   | refine LeO.bind ?_ (fun _ => ?_)
set_option maxHeartbeats 8000000 in
set_option maxRecDepth 100000 in
theorem weigh_Violations.calls (k : Nat) (A0 : Option Addr) (c0 : Nat) (l0 : List (S49)) (r1 : Int) (r2 : Int) (w : World) (hr0 : Kd.C k49 w A0 l0.length l0) (hc0 : l0.length ≤ c0) (h : weigh_Violations.f k l0 = some (r1, r2)) :
  Calls Try.prog 15 #[.slice A0 l0.length c0] w fun e w' => e = .returned (.tuple #[.int .i64 r1, .int .i64 r2]) ∧ Below w.heap.size w w' := by
 have HR0 := asd hr0
 have HC0 := asd hc0
 clear hr0 hc0
 have HB := asd (Below.refl w.heap.size w)
 have H : ((weigh_Reds.f k l0).bind fun bt188 => (if bt188.2 = 0 then ((weigh_Overs.f k l0).bind fun bt192 => (weigh_Violations.l0 k l0 (bt188.1.length : Int) bt192.1 (bt192.1.length : Int) 0)) else (some (0, bt188.2)))) = some (r1, r2) := h
 clear h
 replace H := Option.bind_eq_some_iff.mp H
 obtain ⟨⟨t188, t189⟩, A20, H⟩ := H
 replace H : (if t189 = 0 then ((weigh_Overs.f k l0).bind fun bt192 => (weigh_Violations.l0 k l0 (t188.length : Int) bt192.1 (bt192.1.length : Int) 0)) else (some (0, t189))) = some (r1, r2) := H
 have A2 := asd A20
 clear A20
 by_cases c3 : t189 = 0
 ·
  rw [if_pos c3] at H
  have c3b0 : (t189 == 0) = true := beq_iff_eq.mpr c3
  have c3b1 : (t189 != 0) = false := bne_eq_false_iff_eq.mpr c3
  clear c3
  replace H := Option.bind_eq_some_iff.mp H
  obtain ⟨⟨t192, t193⟩, A40, H⟩ := H
  replace H : (weigh_Violations.l0 k l0 (t188.length : Int) t192 (t192.length : Int) 0) = some (r1, r2) := H
  have A4 := asd A40
  clear A40
  have H' := asd H
  clear H
  go_enter Try.func15, Try.ntmps15
  go_wp2_with (first | ((with_reducible refine gate_callee (f := 9) rfl ?_); refine goesL_ (some 13) rfl rfl Try.func9 (by kernel_rfl) rfl #[.slice A0 l0.length c0] rfl ags ?_; (with_reducible refine (weigh_Reds.calls k _ _ l0 t188 t189 _ ?side1 ?side2 A2.out).mono ?_); (case side1 => exact skC HR0.out); (case side2 => exact HC0.out); rintro e w5 ⟨v190, rfl, ho0, hb⟩; refine ⟨_, rfl, ?_⟩; have n0_ := asd (Kd.R_lower ho0 (below_size (skB HB.out))); have n1_ := asd (below_step (skB HB.out) hb); clear HB; have HO191 := n0_; have HB := n1_; clear n0_ n1_; (try clear hb); (try clear hb2); (try clear hk); (try clear hi); (try clear ho0); obtain ⟨Ao6, co6, eo6⟩ := Kd.R_slice HO191.out; subst eo6) | ((with_reducible refine gate_callee (f := 13) rfl ?_); refine goesL_ (some 23) rfl rfl Try.func13 (by kernel_rfl) rfl #[.slice A0 l0.length c0] rfl ags ?_; (with_reducible refine (weigh_Overs.calls k _ _ l0 t192 t193 _ ?side1 ?side2 A4.out).mono ?_); (case side1 => exact skC (Kd.C_below HR0.out HB.out)); (case side2 => exact HC0.out); rintro e w7 ⟨v194, rfl, ho0, hb⟩; refine ⟨_, rfl, ?_⟩; have n0_ := asd (Kd.R_elder' (skR HO191.out) (Kd.R_base ho0) hb); have n1_ := asd (Kd.R_lower (Kd.R_new' ho0 (Kd.R_lt (skR HO191.out))) (below_size (skB HB.out))); have n2_ := asd (below_step (skB HB.out) hb); clear HO191; clear HB; have HO191 := n0_; have HO195 := n1_; have HB := n2_; clear n0_ n1_ n2_; (try clear hb); (try clear hb2); (try clear hk); (try clear hi); (try clear ho0); obtain ⟨Ao8, co8, eo8⟩ := Kd.R_slice HO195.out; subst eo8))
  go_loopg [6, 28] k (fun kq v6 v28 w' => ∃ (x6_1 : Int) (x28_1 : Int), v6 = .int .i64 x6_1 ∧ v28 = .int .i64 x28_1 ∧ Aside0 (weigh_Violations.l0 kq l0 x6_1 t192 (t192.length : Int) x28_1 = some (r1, r2)) ∧ Aside0 (kq ≤ k) ∧ Aside0 (Kd.R (Kd.int .i64) 3 w' w.heap.size (fun _ => True) (.slice Ao8 t192.length co8) t192) ∧ Aside0 (Below w.heap.size w w'))
  case atStart => exact ⟨((t188.length : Int)), (0), rs, rs, H', ⟨Nat.le_refl _⟩, ⟨skR (Kd.R_mono HO195.out (fun _ hk => trivial))⟩, ⟨skB HB.out⟩⟩
  case round =>
   clear H'
   try clear c1
   try clear p2
   try clear c3
   try clear c3b0
   try clear c3b1
   obtain ⟨x6_1, x28_1, rfl, rfl, HA, HK1, HO_26, HB⟩ := hrel
   cases gk with
   | zero => exact absurd HA.out (by simp [weigh_Violations.l0])
   | succ k1 =>
    have H := HA.out
    clear HA
    simp only [weigh_Violations.l0] at H
    by_cases c9 : x28_1 < (t192.length : Int)
    ·
     rw [if_pos c9] at H
     have c9b0 : decide (x28_1 < (t192.length : Int)) = true := decide_eq_true c9
     clear c9
     by_cases c10 : 0 ≤ x28_1
     ·
      rw [if_pos c10] at H
      have c10b0 : decide (0 ≤ x28_1) = true := decide_eq_true c10
      clear c10
      by_cases c11 : x28_1 < (t192.length : Int)
      ·
       rw [if_pos c11] at H
       have c11b0 : decide (x28_1 < (t192.length : Int)) = true := decide_eq_true c11
       clear c11
       by_cases c12 : 0 ≤ (rd t192 x28_1)
       ·
        rw [if_pos c12] at H
        have c12b0 : decide (0 ≤ (rd t192 x28_1)) = true := decide_eq_true c12
        clear c12
        by_cases c13 : (rd t192 x28_1) < (l0.length : Int)
        ·
         rw [if_pos c13] at H
         have c13b0 : decide ((rd t192 x28_1) < (l0.length : Int)) = true := decide_eq_true c13
         clear c13
         have H' := asd H
         clear H
         have p196 : 0 ≤ (x28_1 : Int) := dt
         have q196 : x28_1 < (t192.length : Int) := dt
         obtain ⟨ad196, e196, hx196_0⟩ := Kd.at_int (Kd.R_reads' HO_26.out).2.2 x28_1 p196 q196
         cases e196
         replace p196 := eq_true p196
         replace q196 := eq_true q196
         have p197 : 0 ≤ ((rd t192 x28_1) : Int) := dt
         have q197 : (rd t192 x28_1) < (l0.length : Int) := dt
         obtain ⟨ad197, e197, hx197_0, hx197_1, hx197_2, hx197_3, hx197_4, hx197_5⟩ := at_T49 HR0.out (rd t192 x28_1) p197 q197
         cases e197
         replace hx197_0 := skc HB.out hx197_0
         replace hx197_1 := skc HB.out hx197_1
         replace hx197_2 := skc HB.out hx197_2
         replace hx197_3 := skc HB.out hx197_3
         replace hx197_4 := skc HB.out hx197_4
         replace hx197_5 := skc HB.out hx197_5
         replace p197 := eq_true p197
         replace q197 := eq_true q197
         go_wp2
         go_roundg k1
         case measure => have := HK1.out; omega
         case rel => exact ⟨(wrap64 (x6_1 + (wrap64 (((J49 l0 (rd t192 x28_1)).f2) - 1)))), (wrap64 (x28_1 + 1)), rs, rs, H', ⟨by have := HK1.out; omega⟩, ⟨skR HO_26.out⟩, ⟨skB HB.out⟩⟩
        ·
         rw [if_neg c13] at H
         exact absurd H (by simp)
       ·
        rw [if_neg c12] at H
        exact absurd H (by simp)
      ·
       rw [if_neg c11] at H
       exact absurd H (by simp)
     ·
      rw [if_neg c10] at H
      exact absurd H (by simp)
    ·
     rw [if_neg c9] at H
     have c9b0 : decide (x28_1 < (t192.length : Int)) = false := decide_eq_false c9
     clear c9
     simp only [Option.some.injEq, Prod.mk.injEq] at H
     obtain ⟨rfl, rfl⟩ := H
     go_wp2
     go_ret2
     exact ⟨re, skB HB.out⟩
 ·
  rw [if_neg c3] at H
  have c3b0 : (t189 == 0) = false := beq_eq_false_iff_ne.mpr c3
  have c3b1 : (t189 != 0) = true := bne_iff_ne.mpr c3
  simp only [Option.some.injEq, Prod.mk.injEq] at H
  obtain ⟨rfl, rfl⟩ := H
  go_enter Try.func15, Try.ntmps15
  go_wp2_with (first | ((with_reducible refine gate_callee (f := 9) rfl ?_); refine goesL_ (some 13) rfl rfl Try.func9 (by kernel_rfl) rfl #[.slice A0 l0.length c0] rfl ags ?_; (with_reducible refine (weigh_Reds.calls k _ _ l0 t188 t189 _ ?side1 ?side2 A2.out).mono ?_); (case side1 => exact skC HR0.out); (case side2 => exact HC0.out); rintro e w14 ⟨v190, rfl, ho0, hb⟩; refine ⟨_, rfl, ?_⟩; have n0_ := asd (Kd.R_lower ho0 (below_size (skB HB.out))); have n1_ := asd (below_step (skB HB.out) hb); clear HB; have HO191 := n0_; have HB := n1_; clear n0_ n1_; (try clear hb); (try clear hb2); (try clear hk); (try clear hi); (try clear ho0)))
  go_ret2
  exact ⟨re, skB HB.out⟩
end Go.Proofs.Ytmmjkebboonnkaa.P
/- F26 -/
namespace Go.Proofs.Ytmmjkebboonnkaa.P
open Go.RowKit Go.Proofs.YtmmjkebboonnkaaW.PrintWords Go.Proofs.YtmmjkebboonnkaaW.PrintLast Go.Proofs.YtmmjkebboonnkaaW.PrintMore
attribute [local go_sem] max2_int min2_int max_two min_two max_three min_three max_four min_four   -- for this text's walks alone
set_option linter.unusedVariables false
set_option linter.unusedSimpArgs false
def larchlaw17_fixed.f (k : Nat)  : Option (Bool) := (larchlaw17_a.f).bind fun t249 => ((weigh_Sums.f k t249).bind fun bt252 => ((larchlaw17_a.f).bind fun t256 => ((weigh_Heavy.f k t256 (([0, 0, 3] : List Int))).bind fun bt262 => ((weigh_Violations.f k bt262.1).bind fun bt266 => ((weigh_First.f k bt262.1 9).bind fun bt268 => ((weigh_Bound.f 7).bind fun bt270 => (if bt252.2 = 0 then ((larchref17_SameInts.f k bt252.1 (([2, 2] : List Int))).bind fun t275 => (if t275 = true then (if bt262.2 = 0 then (if bt266.2 = 0 then (if bt266.1 = 3 then (if bt268.2 = 0 then (if bt268.1 = 4 then (if bt270.2 = 0 then (some (bt270.1 == 12)) else (none)) else (none)) else (none)) else (none)) else (none)) else (none)) else (none))) else (none))))))))
theorem larchlaw17_fixed.mono : ∀ k, LeO (larchlaw17_fixed.f k ) (larchlaw17_fixed.f (k + 1) ) := by
 intro  k
 unfold larchlaw17_fixed.f
 repeat' first
   | (with_reducible exact larchref17_SameInts.mono _ _ _)
   | (with_reducible exact weigh_First.mono _ _ _)
   | (with_reducible exact weigh_Heavy.mono _ _ _)
   | (with_reducible exact weigh_Sums.mono _ _)
   | (with_reducible exact weigh_Violations.mono _ _)
   | (with_reducible exact LeO.refl _)
   | (with_reducible exact LeO.none _)
   | (with_reducible refine LeO.ite ?_ ?_)
   | (with_reducible refine LeO.bind ?_ (fun _ => ?_))
   | exact larchref17_SameInts.mono _ _ _
   | exact weigh_First.mono _ _ _
   | exact weigh_Heavy.mono _ _ _
   | exact weigh_Sums.mono _ _
   | exact weigh_Violations.mono _ _
   | exact LeO.none _
   | refine LeO.ite ?_ ?_
   | refine LeO.bind ?_ (fun _ => ?_)
set_option maxHeartbeats 8000000 in
set_option maxRecDepth 100000 in
theorem larchlaw17_fixed.calls (k : Nat)  (r : Bool) (w : World) (h : larchlaw17_fixed.f k  = some r) :
  Calls Try.prog 8 #[] w fun e w' => e = .returned (.bool r) ∧ Below w.heap.size w w' := by
 have HB := asd (Below.refl w.heap.size w)
 have H : ((larchlaw17_a.f).bind fun t249 => ((weigh_Sums.f k t249).bind fun bt252 => ((larchlaw17_a.f).bind fun t256 => ((weigh_Heavy.f k t256 (([0, 0, 3] : List Int))).bind fun bt262 => ((weigh_Violations.f k bt262.1).bind fun bt266 => ((weigh_First.f k bt262.1 9).bind fun bt268 => ((weigh_Bound.f 7).bind fun bt270 => (if bt252.2 = 0 then ((larchref17_SameInts.f k bt252.1 (([2, 2] : List Int))).bind fun t275 => (if t275 = true then (if bt262.2 = 0 then (if bt266.2 = 0 then (if bt266.1 = 3 then (if bt268.2 = 0 then (if bt268.1 = 4 then (if bt270.2 = 0 then (some (bt270.1 == 12)) else (none)) else (none)) else (none)) else (none)) else (none)) else (none)) else (none))) else (none))))))))) = some r := h
 clear h
 replace H := Option.bind_eq_some_iff.mp H
 obtain ⟨t249, A10, H⟩ := H
 replace H : ((weigh_Sums.f k t249).bind fun bt252 => ((larchlaw17_a.f).bind fun t256 => ((weigh_Heavy.f k t256 (([0, 0, 3] : List Int))).bind fun bt262 => ((weigh_Violations.f k bt262.1).bind fun bt266 => ((weigh_First.f k bt262.1 9).bind fun bt268 => ((weigh_Bound.f 7).bind fun bt270 => (if bt252.2 = 0 then ((larchref17_SameInts.f k bt252.1 (([2, 2] : List Int))).bind fun t275 => (if t275 = true then (if bt262.2 = 0 then (if bt266.2 = 0 then (if bt266.1 = 3 then (if bt268.2 = 0 then (if bt268.1 = 4 then (if bt270.2 = 0 then (some (bt270.1 == 12)) else (none)) else (none)) else (none)) else (none)) else (none)) else (none)) else (none))) else (none)))))))) = some r := H
 have A1 := asd A10
 clear A10
 replace H := Option.bind_eq_some_iff.mp H
 obtain ⟨⟨t252, t253⟩, A20, H⟩ := H
 replace H : ((larchlaw17_a.f).bind fun t256 => ((weigh_Heavy.f k t256 (([0, 0, 3] : List Int))).bind fun bt262 => ((weigh_Violations.f k bt262.1).bind fun bt266 => ((weigh_First.f k bt262.1 9).bind fun bt268 => ((weigh_Bound.f 7).bind fun bt270 => (if t253 = 0 then ((larchref17_SameInts.f k t252 (([2, 2] : List Int))).bind fun t275 => (if t275 = true then (if bt262.2 = 0 then (if bt266.2 = 0 then (if bt266.1 = 3 then (if bt268.2 = 0 then (if bt268.1 = 4 then (if bt270.2 = 0 then (some (bt270.1 == 12)) else (none)) else (none)) else (none)) else (none)) else (none)) else (none)) else (none))) else (none))))))) = some r := H
 have A2 := asd A20
 clear A20
 replace H := Option.bind_eq_some_iff.mp H
 obtain ⟨t256, A30, H⟩ := H
 replace H : ((weigh_Heavy.f k t256 (([0, 0, 3] : List Int))).bind fun bt262 => ((weigh_Violations.f k bt262.1).bind fun bt266 => ((weigh_First.f k bt262.1 9).bind fun bt268 => ((weigh_Bound.f 7).bind fun bt270 => (if t253 = 0 then ((larchref17_SameInts.f k t252 (([2, 2] : List Int))).bind fun t275 => (if t275 = true then (if bt262.2 = 0 then (if bt266.2 = 0 then (if bt266.1 = 3 then (if bt268.2 = 0 then (if bt268.1 = 4 then (if bt270.2 = 0 then (some (bt270.1 == 12)) else (none)) else (none)) else (none)) else (none)) else (none)) else (none)) else (none))) else (none)))))) = some r := H
 have A3 := asd A30
 clear A30
 obtain ⟨y259, hy259⟩ : ∃ y_ : List Int, y_ = (([0, 0, 3] : List Int)) := ⟨_, rfl⟩
 replace H : ((weigh_Heavy.f k t256 y259).bind fun bt262 => ((weigh_Violations.f k bt262.1).bind fun bt266 => ((weigh_First.f k bt262.1 9).bind fun bt268 => ((weigh_Bound.f 7).bind fun bt270 => (if t253 = 0 then ((larchref17_SameInts.f k t252 (([2, 2] : List Int))).bind fun t275 => (if t275 = true then (if bt262.2 = 0 then (if bt266.2 = 0 then (if bt266.1 = 3 then (if bt268.2 = 0 then (if bt268.1 = 4 then (if bt270.2 = 0 then (some (bt270.1 == 12)) else (none)) else (none)) else (none)) else (none)) else (none)) else (none)) else (none))) else (none)))))) = some r := by first | (rw [hy259]; with_reducible exact H) | (have H2_ := (Option.bind_some _ _).symm.trans H; rw [hy259]; with_reducible exact H2_) | (have H2_ := (Option.bind_some _ _).symm.trans H; with_reducible exact H2_) | with_reducible exact H | (rw [hy259]; exact H) | exact H
 have Ny259 := asd hy259
 clear hy259
 replace H := Option.bind_eq_some_iff.mp H
 obtain ⟨⟨t262, t263⟩, A40, H⟩ := H
 replace H : ((weigh_Violations.f k t262).bind fun bt266 => ((weigh_First.f k t262 9).bind fun bt268 => ((weigh_Bound.f 7).bind fun bt270 => (if t253 = 0 then ((larchref17_SameInts.f k t252 (([2, 2] : List Int))).bind fun t275 => (if t275 = true then (if t263 = 0 then (if bt266.2 = 0 then (if bt266.1 = 3 then (if bt268.2 = 0 then (if bt268.1 = 4 then (if bt270.2 = 0 then (some (bt270.1 == 12)) else (none)) else (none)) else (none)) else (none)) else (none)) else (none)) else (none))) else (none))))) = some r := H
 have A4 := asd A40
 clear A40
 replace H := Option.bind_eq_some_iff.mp H
 obtain ⟨⟨t266, t267⟩, A50, H⟩ := H
 replace H : ((weigh_First.f k t262 9).bind fun bt268 => ((weigh_Bound.f 7).bind fun bt270 => (if t253 = 0 then ((larchref17_SameInts.f k t252 (([2, 2] : List Int))).bind fun t275 => (if t275 = true then (if t263 = 0 then (if t267 = 0 then (if t266 = 3 then (if bt268.2 = 0 then (if bt268.1 = 4 then (if bt270.2 = 0 then (some (bt270.1 == 12)) else (none)) else (none)) else (none)) else (none)) else (none)) else (none)) else (none))) else (none)))) = some r := H
 have A5 := asd A50
 clear A50
 replace H := Option.bind_eq_some_iff.mp H
 obtain ⟨⟨t268, t269⟩, A60, H⟩ := H
 replace H : ((weigh_Bound.f 7).bind fun bt270 => (if t253 = 0 then ((larchref17_SameInts.f k t252 (([2, 2] : List Int))).bind fun t275 => (if t275 = true then (if t263 = 0 then (if t267 = 0 then (if t266 = 3 then (if t269 = 0 then (if t268 = 4 then (if bt270.2 = 0 then (some (bt270.1 == 12)) else (none)) else (none)) else (none)) else (none)) else (none)) else (none)) else (none))) else (none))) = some r := H
 have A6 := asd A60
 clear A60
 replace H := Option.bind_eq_some_iff.mp H
 obtain ⟨⟨t270, t271⟩, A70, H⟩ := H
 replace H : (if t253 = 0 then ((larchref17_SameInts.f k t252 (([2, 2] : List Int))).bind fun t275 => (if t275 = true then (if t263 = 0 then (if t267 = 0 then (if t266 = 3 then (if t269 = 0 then (if t268 = 4 then (if t271 = 0 then (some (t270 == 12)) else (none)) else (none)) else (none)) else (none)) else (none)) else (none)) else (none))) else (none)) = some r := H
 have A7 := asd A70
 clear A70
 by_cases c8 : t253 = 0
 ·
  rw [if_pos c8] at H
  have c8b0 : (t253 == 0) = true := beq_iff_eq.mpr c8
  have c8b1 : (t253 != 0) = false := bne_eq_false_iff_eq.mpr c8
  clear c8
  obtain ⟨y272, hy272⟩ : ∃ y_ : List Int, y_ = (([2, 2] : List Int)) := ⟨_, rfl⟩
  replace H : ((larchref17_SameInts.f k t252 y272).bind fun t275 => (if t275 = true then (if t263 = 0 then (if t267 = 0 then (if t266 = 3 then (if t269 = 0 then (if t268 = 4 then (if t271 = 0 then (some (t270 == 12)) else (none)) else (none)) else (none)) else (none)) else (none)) else (none)) else (none))) = some r := by first | (rw [hy272]; with_reducible exact H) | (have H2_ := (Option.bind_some _ _).symm.trans H; rw [hy272]; with_reducible exact H2_) | (have H2_ := (Option.bind_some _ _).symm.trans H; with_reducible exact H2_) | with_reducible exact H | (rw [hy272]; exact H) | exact H
  have Ny272 := asd hy272
  clear hy272
  replace H := Option.bind_eq_some_iff.mp H
  obtain ⟨t275, A90, H⟩ := H
  replace H : (if t275 = true then (if t263 = 0 then (if t267 = 0 then (if t266 = 3 then (if t269 = 0 then (if t268 = 4 then (if t271 = 0 then (some (t270 == 12)) else (none)) else (none)) else (none)) else (none)) else (none)) else (none)) else (none)) = some r := H
  have A9 := asd A90
  clear A90
  by_cases c10 : t275 = true
  ·
   subst c10
   have H1 : (if t263 = 0 then (if t267 = 0 then (if t266 = 3 then (if t269 = 0 then (if t268 = 4 then (if t271 = 0 then (some (t270 == 12)) else (none)) else (none)) else (none)) else (none)) else (none)) else (none)) = some r := by rw [if_pos rfl] at H; exact H
   clear H
   have H := H1
   clear H1
   by_cases c11 : t263 = 0
   ·
    rw [if_pos c11] at H
    have c11b0 : (t263 == 0) = true := beq_iff_eq.mpr c11
    have c11b1 : (t263 != 0) = false := bne_eq_false_iff_eq.mpr c11
    clear c11
    by_cases c12 : t267 = 0
    ·
     rw [if_pos c12] at H
     have c12b0 : (t267 == 0) = true := beq_iff_eq.mpr c12
     have c12b1 : (t267 != 0) = false := bne_eq_false_iff_eq.mpr c12
     clear c12
     by_cases c13 : t266 = 3
     ·
      rw [if_pos c13] at H
      have c13b0 : (t266 == 3) = true := beq_iff_eq.mpr c13
      have c13b1 : (t266 != 3) = false := bne_eq_false_iff_eq.mpr c13
      clear c13
      by_cases c14 : t269 = 0
      ·
       rw [if_pos c14] at H
       have c14b0 : (t269 == 0) = true := beq_iff_eq.mpr c14
       have c14b1 : (t269 != 0) = false := bne_eq_false_iff_eq.mpr c14
       clear c14
       by_cases c15 : t268 = 4
       ·
        rw [if_pos c15] at H
        have c15b0 : (t268 == 4) = true := beq_iff_eq.mpr c15
        have c15b1 : (t268 != 4) = false := bne_eq_false_iff_eq.mpr c15
        clear c15
        by_cases c16 : t271 = 0
        ·
         rw [if_pos c16] at H
         have c16b0 : (t271 == 0) = true := beq_iff_eq.mpr c16
         have c16b1 : (t271 != 0) = false := bne_eq_false_iff_eq.mpr c16
         clear c16
         obtain rfl := Option.some.inj H
         go_enter Try.func8, Try.ntmps8
         go_wp2_with (first | ((with_reducible refine gate_callee (f := 43) rfl ?_); refine goesL_ (some 12) rfl rfl Try.func43 (by kernel_rfl) rfl #[] rfl ags ?_; (with_reducible refine (larchlaw17_a.calls  t249 _ A1.out).mono ?_); rintro e w17 ⟨v250, rfl, ho0, hb⟩; refine ⟨_, rfl, ?_⟩; have n0_ := asd (Kd.R_lower ho0 (below_size (skB HB.out))); have n1_ := asd (below_step (skB HB.out) hb); clear HB; have HO251 := n0_; have HB := n1_; clear n0_ n1_; (try clear hb); (try clear hb2); (try clear hk); (try clear hi); (try clear ho0); obtain ⟨Ao18, co18, eo18⟩ := Kd.R_slice HO251.out; subst eo18) | ((with_reducible refine gate_callee (f := 25) rfl ?_); refine goesL_ (some 13) rfl rfl Try.func25 (by kernel_rfl) rfl #[.slice Ao18 t249.length co18] rfl ags ?_; (with_reducible refine (weigh_Sums.calls k _ _ t249 t252 t253 _ ?side1 ?side2 A2.out).mono ?_); (case side1 => exact skC (Kd.R_reads' HO251.out).2.2); (case side2 => exact (Kd.R_reads' HO251.out).2.1); rintro e w19 ⟨v254, rfl, ho0, hb⟩; refine ⟨_, rfl, ?_⟩; have n0_ := asd (Kd.R_below (skR HO251.out) hb); have n1_ := asd (Kd.R_lower ho0 (below_size (skB HB.out))); have n2_ := asd (below_step (skB HB.out) hb); clear HO251; clear HB; have HO251 := n0_; have HO255 := n1_; have HB := n2_; clear n0_ n1_ n2_; (try clear hb); (try clear hb2); (try clear hk); (try clear hi); (try clear ho0)) | ((with_reducible refine gate_callee (f := 43) rfl ?_); refine goesL_ (some 17) rfl rfl Try.func43 (by kernel_rfl) rfl #[] rfl ags ?_; (with_reducible refine (larchlaw17_a.calls  t256 _ A3.out).mono ?_); rintro e w20 ⟨v257, rfl, ho0, hb⟩; refine ⟨_, rfl, ?_⟩; have n0_ := asd (Kd.R_elder' (skR HO251.out) (Kd.R_base ho0) hb); have n1_ := asd (Kd.R_below (skR HO255.out) hb); have n2_ := asd (Kd.R_lower (Kd.R_new' ho0 (Kd.R_lt (skR HO251.out))) (below_size (skB HB.out))); have n3_ := asd (below_step (skB HB.out) hb); clear HO251; clear HO255; clear HB; have HO251 := n0_; have HO255 := n1_; have HO258 := n2_; have HB := n3_; clear n0_ n1_ n2_ n3_; (try clear hb); (try clear hb2); (try clear hk); (try clear hi); (try clear ho0)) | ((with_reducible refine gate_dst (N := 18) rfl ?_); (try (refine gate_guard (by rfl) ?_; dsimp only)); refine Kd.R_lit (Kd.int .i64) _ 3 ?hg (N := 18) ?hd (xs := ([0, 0, 3] : List Int)) (inner := [.int .i64 0, .int .i64 0, .int .i64 3]) (ok := fun _ => True) (okp := fun _ => True) ?hr ?hp (fun _ hk => hk) trivial (Below.refl _ _) (Nat.le_refl _) (by simp) ?_; (case hd => rfl); (case hg => rfl); (case hr => first | (go_simp; done) | (go_simp; rfl)); (case hp => exact (Reps.one (show Kd.M (Kd.int .i64) _ _ _ 0 [.int .i64 0] from rfl) (Reps.one (show Kd.M (Kd.int .i64) _ _ _ 0 [.int .i64 0] from rfl) (Reps.one (show Kd.M (Kd.int .i64) _ _ _ 3 [.int .i64 3] from rfl) (Reps.none _ _))))); intro v260 w21 ho22 hb hg_ hnew_; clear hg_ hnew_; (first | rw [← Ny259.out] at ho22 | (simp only [Int.reduceToNat] at ho22; rw [← Ny259.out] at ho22)); have n0_ := asd (Kd.R_below (skR HO251.out) hb); have n1_ := asd (Kd.R_elder' (skR HO255.out) (Kd.R_base ho22) hb); have n2_ := asd (Kd.R_below (skR HO258.out) hb); have n3_ := asd (Kd.R_lower (Kd.R_new' ho22 (Kd.R_lt (skR HO255.out))) (below_size (skB HB.out))); have n4_ := asd (below_step (skB HB.out) hb); clear HO251; clear HO255; clear HO258; clear HB; have HO251 := n0_; have HO255 := n1_; have HO258 := n2_; have HO261 := n3_; have HB := n4_; clear n0_ n1_ n2_ n3_ n4_; clear hb ho22; obtain ⟨Ao23, co23, eo23⟩ := Kd.R_slice HO258.out; subst eo23; obtain ⟨Ao24, co24, eo24⟩ := Kd.R_slice HO261.out; subst eo24) | ((with_reducible refine gate_callee (f := 21) rfl ?_); refine goesL_ (some 19) rfl rfl Try.func21 (by kernel_rfl) rfl #[.slice Ao23 t256.length co23, .slice Ao24 y259.length co24] rfl ags ?_; (with_reducible refine (weigh_Heavy.calls k _ _ t256 _ _ y259 t262 t263 _ ?side1 ?side2 ?side3 ?side4 A4.out).mono ?_); (case side1 => exact skC (Kd.R_reads' HO258.out).2.2); (case side2 => exact (Kd.R_reads' HO258.out).2.1); (case side3 => exact skC (Kd.R_reads' HO261.out).2.2); (case side4 => exact (Kd.R_reads' HO261.out).2.1); rintro e w25 ⟨v264, rfl, ho0, hb⟩; refine ⟨_, rfl, ?_⟩; have n0_ := asd (Kd.R_elder' (skR HO251.out) (Kd.R_base ho0) hb); have n1_ := asd (Kd.R_below (skR HO255.out) hb); have n2_ := asd (Kd.R_elder' (skR HO258.out) (Kd.R_base ho0) hb); have n3_ := asd (Kd.R_below (skR HO261.out) hb); have n4_ := asd (Kd.R_lower (Kd.R_new' (Kd.R_new' ho0 (Kd.R_lt (skR HO251.out))) (Kd.R_lt (skR HO258.out))) (below_size (skB HB.out))); have n5_ := asd (below_step (skB HB.out) hb); clear HO251; clear HO255; clear HO258; clear HO261; clear HB; have HO251 := n0_; have HO255 := n1_; have HO258 := n2_; have HO261 := n3_; have HO265 := n4_; have HB := n5_; clear n0_ n1_ n2_ n3_ n4_ n5_; (try clear hb); (try clear hb2); (try clear hk); (try clear hi); (try clear ho0); obtain ⟨Ao26, co26, eo26⟩ := Kd.R_slice HO265.out; subst eo26) | ((with_reducible refine gate_callee (f := 15) rfl ?_); refine goesL_ (some 24) rfl rfl Try.func15 (by kernel_rfl) rfl #[.slice Ao26 t262.length co26] rfl ags ?_; (with_reducible refine (weigh_Violations.calls k _ _ t262 t266 t267 _ ?side1 ?side2 A5.out).mono ?_); (case side1 => exact skC (Kd.R_reads' HO265.out).2.2); (case side2 => exact (Kd.R_reads' HO265.out).2.1); rintro e w27 ⟨rfl, hb⟩; refine ⟨_, rfl, ?_⟩; have n0_ := asd (Kd.R_below (skR HO251.out) hb); have n1_ := asd (Kd.R_below (skR HO255.out) hb); have n2_ := asd (Kd.R_below (skR HO258.out) hb); have n3_ := asd (Kd.R_below (skR HO261.out) hb); have n4_ := asd (Kd.R_below (skR HO265.out) hb); have n5_ := asd (below_step (skB HB.out) hb); clear HO251; clear HO255; clear HO258; clear HO261; clear HO265; clear HB; have HO251 := n0_; have HO255 := n1_; have HO258 := n2_; have HO261 := n3_; have HO265 := n4_; have HB := n5_; clear n0_ n1_ n2_ n3_ n4_ n5_; (try clear hb); (try clear hb2); (try clear hk); (try clear hi)) | ((with_reducible refine gate_callee (f := 17) rfl ?_); refine goesL_ (some 29) rfl rfl Try.func17 (by kernel_rfl) rfl #[.slice Ao26 t262.length co26, .int .i64 9] rfl ags ?_; (with_reducible refine (weigh_First.calls k _ _ t262 9 t268 t269 _ ?side1 ?side2 A6.out).mono ?_); (case side1 => exact skC (Kd.R_reads' HO265.out).2.2); (case side2 => exact (Kd.R_reads' HO265.out).2.1); rintro e w28 ⟨rfl, hb⟩; refine ⟨_, rfl, ?_⟩; have n0_ := asd (Kd.R_below (skR HO251.out) hb); have n1_ := asd (Kd.R_below (skR HO255.out) hb); have n2_ := asd (Kd.R_below (skR HO258.out) hb); have n3_ := asd (Kd.R_below (skR HO261.out) hb); have n4_ := asd (Kd.R_below (skR HO265.out) hb); have n5_ := asd (below_step (skB HB.out) hb); clear HO251; clear HO255; clear HO258; clear HO261; clear HO265; clear HB; have HO251 := n0_; have HO255 := n1_; have HO258 := n2_; have HO261 := n3_; have HO265 := n4_; have HB := n5_; clear n0_ n1_ n2_ n3_ n4_ n5_; (try clear hb); (try clear hb2); (try clear hk); (try clear hi)) | ((with_reducible refine gate_callee (f := 40) rfl ?_); refine goesL_ (some 33) rfl rfl Try.func40 (by kernel_rfl) rfl #[.int .i64 7] rfl ags ?_; (with_reducible refine (weigh_Bound.calls 7 t270 t271 _ A7.out).mono ?_); rintro e w' ⟨rfl, ⟨nd, rfl⟩⟩; refine ⟨_, rfl, ?_⟩) | ((with_reducible refine gate_dst (N := 40) rfl ?_); (try (refine gate_guard (by rfl) ?_; dsimp only)); refine Kd.R_lit (Kd.int .i64) _ 3 ?hg (N := 40) ?hd (xs := ([2, 2] : List Int)) (inner := [.int .i64 2, .int .i64 2]) (ok := fun _ => True) (okp := fun _ => True) ?hr ?hp (fun _ hk => hk) trivial (Below.refl _ _) (Nat.le_refl _) (by simp) ?_; (case hd => rfl); (case hg => rfl); (case hr => first | (go_simp; done) | (go_simp; rfl)); (case hp => exact (Reps.one (show Kd.M (Kd.int .i64) _ _ _ 2 [.int .i64 2] from rfl) (Reps.one (show Kd.M (Kd.int .i64) _ _ _ 2 [.int .i64 2] from rfl) (Reps.none _ _)))); intro v273 w29 ho30 hb hg_ hnew_; clear hg_ hnew_; (first | rw [← Ny272.out] at ho30 | (simp only [Int.reduceToNat] at ho30; rw [← Ny272.out] at ho30)); have n0_ := asd (Kd.R_below (skR HO251.out) hb); have n1_ := asd (Kd.R_elder' (skR HO255.out) (Kd.R_base ho30) hb); have n2_ := asd (Kd.R_below (skR HO258.out) hb); have n3_ := asd (Kd.R_elder' (skR HO261.out) (Kd.R_base ho30) hb); have n4_ := asd (Kd.R_below (skR HO265.out) hb); have n5_ := asd (Kd.R_lower (Kd.R_new' (Kd.R_new' ho30 (Kd.R_lt (skR HO255.out))) (Kd.R_lt (skR HO261.out))) (below_size (skB HB.out))); have n6_ := asd (below_step (skB HB.out) hb); clear HO251; clear HO255; clear HO258; clear HO261; clear HO265; clear HB; have HO251 := n0_; have HO255 := n1_; have HO258 := n2_; have HO261 := n3_; have HO265 := n4_; have HO274 := n5_; have HB := n6_; clear n0_ n1_ n2_ n3_ n4_ n5_ n6_; clear hb ho30; obtain ⟨Ao31, co31, eo31⟩ := Kd.R_slice HO255.out; subst eo31; obtain ⟨Ao32, co32, eo32⟩ := Kd.R_slice HO274.out; subst eo32) | (go_at_call 12; (with_reducible refine (larchref17_SameInts.calls k _ _ t252 _ _ y272 true _ ?side1 ?side2 ?side3 ?side4 A9.out).mono ?_); (case side1 => exact skC (Kd.R_reads' HO255.out).2.2); (case side2 => exact (Kd.R_reads' HO255.out).2.1); (case side3 => exact skC (Kd.R_reads' HO274.out).2.2); (case side4 => exact (Kd.R_reads' HO274.out).2.1); rintro e w' ⟨rfl, ⟨nd, rfl⟩⟩))
         go_ret
         exact ⟨re, skB HB.out⟩
        ·
         rw [if_neg c16] at H
         exact absurd H (by simp)
       ·
        rw [if_neg c15] at H
        exact absurd H (by simp)
      ·
       rw [if_neg c14] at H
       exact absurd H (by simp)
     ·
      rw [if_neg c13] at H
      exact absurd H (by simp)
    ·
     rw [if_neg c12] at H
     exact absurd H (by simp)
   ·
    rw [if_neg c11] at H
    exact absurd H (by simp)
  ·
   replace c10 := Bool.eq_false_iff.mpr c10
   subst c10
   have H1 : (none) = some r := by rw [if_neg (show ¬ (false = true) by decide)] at H; exact H
   clear H
   have H := H1
   clear H1
   exact absurd H (by simp)
 ·
  rw [if_neg c8] at H
  exact absurd H (by simp)
end Go.Proofs.Ytmmjkebboonnkaa.P
/- F43 -/
namespace Go.Proofs.Ytmmjkebboonnkaa.P
open Go.RowKit Go.Proofs.YtmmjkebboonnkaaW.PrintWords Go.Proofs.YtmmjkebboonnkaaW.PrintLast Go.Proofs.YtmmjkebboonnkaaW.PrintMore
attribute [local go_sem] max2_int min2_int max_two min_two max_three min_three max_four min_four   -- for this text's walks alone
set_option linter.unusedVariables false
set_option linter.unusedSimpArgs false
end Go.Proofs.Ytmmjkebboonnkaa.P
/- F52 -/
namespace Go.Proofs.Ytmmjkebboonnkaa.P
open Go.RowKit Go.Proofs.YtmmjkebboonnkaaW.PrintWords Go.Proofs.YtmmjkebboonnkaaW.PrintLast Go.Proofs.YtmmjkebboonnkaaW.PrintMore
attribute [local go_sem] max2_int min2_int max_two min_two max_three min_three max_four min_four   -- for this text's walks alone
set_option linter.unusedVariables false
set_option linter.unusedSimpArgs false
def weigh_Even.l0 : Nat → List Int → List Int → Int → Int → Option (Int × Bool × Int)
 | 0, _, _, _, _ => none
 | k + 1, x5, x20, x21, x22 => if x22 < x21 then (if 0 ≤ x22 then (if x22 < (x20.length : Int) then (if 0 < (x5.length : Int) then (if (rd x20 x22) = (rd x5 0) then (weigh_Even.l0 k x5 x20 x21 (wrap64 (x22 + 1))) else (some (0, false, 0))) else (none)) else (none)) else (none)) else (if 0 < (x5.length : Int) then (some (rd x5 0, true, 0)) else (none))
def weigh_Even.f (k : Nat) (l0 : List (S49)) : Option (Int × Bool × Int) := (weigh_Sums.f k l0).bind fun bt626 => (if bt626.2 = 0 then (if (bt626.1.length : Int) = 0 then (some (0, true, 0)) else (weigh_Even.l0 k bt626.1 bt626.1 (bt626.1.length : Int) 0)) else (some (0, false, bt626.2)))
set_option maxHeartbeats 8000000 in
set_option maxRecDepth 100000 in
theorem weigh_Even.calls (k : Nat) (A0 : Option Addr) (c0 : Nat) (l0 : List (S49)) (r1 : Int) (r2 : Bool) (r3 : Int) (w : World) (hr0 : Kd.C k49 w A0 l0.length l0) (hc0 : l0.length ≤ c0) (h : weigh_Even.f k l0 = some (r1, r2, r3)) :
  Calls Try.prog 32 #[.slice A0 l0.length c0] w fun e w' => e = .returned (.tuple #[.int .i64 r1, .bool r2, .int .i64 r3]) ∧ Below w.heap.size w w' := by
 have HR0 := asd hr0
 have HC0 := asd hc0
 clear hr0 hc0
 have HB := asd (Below.refl w.heap.size w)
 have H : ((weigh_Sums.f k l0).bind fun bt626 => (if bt626.2 = 0 then (if (bt626.1.length : Int) = 0 then (some (0, true, 0)) else (weigh_Even.l0 k bt626.1 bt626.1 (bt626.1.length : Int) 0)) else (some (0, false, bt626.2)))) = some (r1, r2, r3) := h
 clear h
 replace H := Option.bind_eq_some_iff.mp H
 obtain ⟨⟨t626, t627⟩, A20, H⟩ := H
 replace H : (if t627 = 0 then (if (t626.length : Int) = 0 then (some (0, true, 0)) else (weigh_Even.l0 k t626 t626 (t626.length : Int) 0)) else (some (0, false, t627))) = some (r1, r2, r3) := H
 have A2 := asd A20
 clear A20
 by_cases c3 : t627 = 0
 ·
  rw [if_pos c3] at H
  have c3b0 : (t627 == 0) = true := beq_iff_eq.mpr c3
  have c3b1 : (t627 != 0) = false := bne_eq_false_iff_eq.mpr c3
  clear c3
  by_cases c4 : (t626.length : Int) = 0
  ·
   rw [if_pos c4] at H
   have c4b0 : ((t626.length : Int) == 0) = true := beq_iff_eq.mpr c4
   have c4b1 : ((t626.length : Int) != 0) = false := bne_eq_false_iff_eq.mpr c4
   clear c4
   simp only [Option.some.injEq, Prod.mk.injEq] at H
   obtain ⟨rfl, rfl, rfl⟩ := H
   go_enter Try.func32, Try.ntmps32
   go_wp2_with (first | ((with_reducible refine gate_callee (f := 25) rfl ?_); refine goesL_ (some 11) rfl rfl Try.func25 (by kernel_rfl) rfl #[.slice A0 l0.length c0] rfl ags ?_; (with_reducible refine (weigh_Sums.calls k _ _ l0 t626 t627 _ ?side1 ?side2 A2.out).mono ?_); (case side1 => exact skC HR0.out); (case side2 => exact HC0.out); rintro e w5 ⟨v628, rfl, ho0, hb⟩; refine ⟨_, rfl, ?_⟩; have n0_ := asd (Kd.R_lower ho0 (below_size (skB HB.out))); have n1_ := asd (below_step (skB HB.out) hb); clear HB; have HO629 := n0_; have HB := n1_; clear n0_ n1_; (try clear hb); (try clear hb2); (try clear hk); (try clear hi); (try clear ho0); obtain ⟨Ao6, co6, eo6⟩ := Kd.R_slice HO629.out; subst eo6))
   go_ret3
   exact ⟨re, skB HB.out⟩
  ·
   rw [if_neg c4] at H
   have c4b0 : ((t626.length : Int) == 0) = false := beq_eq_false_iff_ne.mpr c4
   have c4b1 : ((t626.length : Int) != 0) = true := bne_iff_ne.mpr c4
   have c4b2 : ¬ (t626 = []) := fun h_ => c4 (by rw [h_]; rfl)
   have H' := asd H
   clear H
   go_enter Try.func32, Try.ntmps32
   go_wp2_with (first | ((with_reducible refine gate_callee (f := 25) rfl ?_); refine goesL_ (some 11) rfl rfl Try.func25 (by kernel_rfl) rfl #[.slice A0 l0.length c0] rfl ags ?_; (with_reducible refine (weigh_Sums.calls k _ _ l0 t626 t627 _ ?side1 ?side2 A2.out).mono ?_); (case side1 => exact skC HR0.out); (case side2 => exact HC0.out); rintro e w7 ⟨v628, rfl, ho0, hb⟩; refine ⟨_, rfl, ?_⟩; have n0_ := asd (Kd.R_lower ho0 (below_size (skB HB.out))); have n1_ := asd (below_step (skB HB.out) hb); clear HB; have HO629 := n0_; have HB := n1_; clear n0_ n1_; (try clear hb); (try clear hb2); (try clear hk); (try clear hi); (try clear ho0); obtain ⟨Ao8, co8, eo8⟩ := Kd.R_slice HO629.out; subst eo8))
   go_loopg [22] k (fun kq v22 w' => ∃ (x22_1 : Int), v22 = .int .i64 x22_1 ∧ Aside0 (weigh_Even.l0 kq t626 t626 (t626.length : Int) x22_1 = some (r1, r2, r3)) ∧ Aside0 (kq ≤ k) ∧ Aside0 (Kd.R (Kd.int .i64) 3 w' w.heap.size (fun _ => True) (.slice Ao8 t626.length co8) t626) ∧ Aside0 (Kd.R (Kd.int .i64) 3 w' w.heap.size (fun _ => True) (.slice Ao8 t626.length co8) t626) ∧ Aside0 (Below w.heap.size w w'))
   case atStart => exact ⟨(0), rs, H', ⟨Nat.le_refl _⟩, ⟨skR HO629.out⟩, ⟨skR HO629.out⟩, ⟨skB HB.out⟩⟩
   case round =>
    clear H'
    try clear c2
    try clear p2
    try clear c3
    try clear c3b0
    try clear c3b1
    try clear c4
    try clear c4b0
    try clear c4b1
    try clear c4b2
    obtain ⟨x22_1, rfl, HA, HK1, HO_5, HO_20, HB⟩ := hrel
    cases gk with
    | zero => exact absurd HA.out (by simp [weigh_Even.l0])
    | succ k1 =>
     have H := HA.out
     clear HA
     simp only [weigh_Even.l0] at H
     by_cases c9 : x22_1 < (t626.length : Int)
     ·
      rw [if_pos c9] at H
      have c9b0 : decide (x22_1 < (t626.length : Int)) = true := decide_eq_true c9
      clear c9
      by_cases c10 : 0 ≤ x22_1
      ·
       rw [if_pos c10] at H
       have c10b0 : decide (0 ≤ x22_1) = true := decide_eq_true c10
       clear c10
       by_cases c11 : x22_1 < (t626.length : Int)
       ·
        rw [if_pos c11] at H
        have c11b0 : decide (x22_1 < (t626.length : Int)) = true := decide_eq_true c11
        clear c11
        by_cases c12 : 0 < (t626.length : Int)
        ·
         rw [if_pos c12] at H
         have c12b0 : decide (0 < (t626.length : Int)) = true := decide_eq_true c12
         have c12b1 : decide (0 < t626.length) = true := decide_eq_true (by omega)
         clear c12
         by_cases c13 : (rd t626 x22_1) = (rd t626 0)
         ·
          rw [if_pos c13] at H
          have c13b0 : ((rd t626 x22_1) == (rd t626 0)) = true := beq_iff_eq.mpr c13
          have c13b1 : ((rd t626 x22_1) != (rd t626 0)) = false := bne_eq_false_iff_eq.mpr c13
          clear c13
          have H' := asd H
          clear H
          have p630 : 0 ≤ (x22_1 : Int) := dt
          have q630 : x22_1 < (t626.length : Int) := dt
          obtain ⟨ad630, e630, hx630_0⟩ := Kd.at_int (Kd.R_reads' HO_20.out).2.2 x22_1 p630 q630
          cases e630
          replace p630 := eq_true p630
          replace q630 := eq_true q630
          have p631 : 0 ≤ (0 : Int) := (by omega)
          have q631 : 0 < (t626.length : Int) := dt
          obtain ⟨ad631, e631, hx631_0⟩ := Kd.at_int (Kd.R_reads' HO_5.out).2.2 0 p631 q631
          obtain rfl : ad630 = ad631 := (by injection e631)
          have qi631 : (0 < t626.length) = True := eq_true (by omega)
          (try rw [show ((0 : Int)).toNat = 0 from rfl] at hx631_0)
          (try rw [Addr.add_zero'] at hx631_0)
          replace p631 := eq_true p631
          replace q631 := eq_true q631
          go_wp2
          go_roundg k1
          case measure => have := HK1.out; omega
          case rel => exact ⟨(wrap64 (x22_1 + 1)), rs, H', ⟨by have := HK1.out; omega⟩, ⟨skR HO_5.out⟩, ⟨skR HO_20.out⟩, ⟨skB HB.out⟩⟩
         ·
          rw [if_neg c13] at H
          have c13b0 : ((rd t626 x22_1) == (rd t626 0)) = false := beq_eq_false_iff_ne.mpr c13
          have c13b1 : ((rd t626 x22_1) != (rd t626 0)) = true := bne_iff_ne.mpr c13
          simp only [Option.some.injEq, Prod.mk.injEq] at H
          obtain ⟨rfl, rfl, rfl⟩ := H
          have p630 : 0 ≤ (x22_1 : Int) := dt
          have q630 : x22_1 < (t626.length : Int) := dt
          obtain ⟨ad630, e630, hx630_0⟩ := Kd.at_int (Kd.R_reads' HO_20.out).2.2 x22_1 p630 q630
          cases e630
          replace p630 := eq_true p630
          replace q630 := eq_true q630
          have p631 : 0 ≤ (0 : Int) := (by omega)
          have q631 : 0 < (t626.length : Int) := dt
          obtain ⟨ad631, e631, hx631_0⟩ := Kd.at_int (Kd.R_reads' HO_5.out).2.2 0 p631 q631
          obtain rfl : ad630 = ad631 := (by injection e631)
          have qi631 : (0 < t626.length) = True := eq_true (by omega)
          (try rw [show ((0 : Int)).toNat = 0 from rfl] at hx631_0)
          (try rw [Addr.add_zero'] at hx631_0)
          replace p631 := eq_true p631
          replace q631 := eq_true q631
          go_wp2
          go_ret3
          exact ⟨re, skB HB.out⟩
        ·
         rw [if_neg c12] at H
         exact absurd H (by simp)
       ·
        rw [if_neg c11] at H
        exact absurd H (by simp)
      ·
       rw [if_neg c10] at H
       exact absurd H (by simp)
     ·
      rw [if_neg c9] at H
      have c9b0 : decide (x22_1 < (t626.length : Int)) = false := decide_eq_false c9
      clear c9
      by_cases c14 : 0 < (t626.length : Int)
      ·
       rw [if_pos c14] at H
       have c14b0 : decide (0 < (t626.length : Int)) = true := decide_eq_true c14
       have c14b1 : decide (0 < t626.length) = true := decide_eq_true (by omega)
       clear c14
       simp only [Option.some.injEq, Prod.mk.injEq] at H
       obtain ⟨rfl, rfl, rfl⟩ := H
       have p632 : 0 ≤ (0 : Int) := (by omega)
       have q632 : 0 < (t626.length : Int) := dt
       obtain ⟨ad632, e632, hx632_0⟩ := Kd.at_int (Kd.R_reads' HO_5.out).2.2 0 p632 q632
       cases e632
       have qi632 : (0 < t626.length) = True := eq_true (by omega)
       (try rw [show ((0 : Int)).toNat = 0 from rfl] at hx632_0)
       (try rw [Addr.add_zero'] at hx632_0)
       replace p632 := eq_true p632
       replace q632 := eq_true q632
       go_wp2
       go_ret3
       exact ⟨re, skB HB.out⟩
      ·
       rw [if_neg c14] at H
       exact absurd H (by simp)
 ·
  rw [if_neg c3] at H
  have c3b0 : (t627 == 0) = false := beq_eq_false_iff_ne.mpr c3
  have c3b1 : (t627 != 0) = true := bne_iff_ne.mpr c3
  simp only [Option.some.injEq, Prod.mk.injEq] at H
  obtain ⟨rfl, rfl, rfl⟩ := H
  go_enter Try.func32, Try.ntmps32
  go_wp2_with (first | ((with_reducible refine gate_callee (f := 25) rfl ?_); refine goesL_ (some 11) rfl rfl Try.func25 (by kernel_rfl) rfl #[.slice A0 l0.length c0] rfl ags ?_; (with_reducible refine (weigh_Sums.calls k _ _ l0 t626 t627 _ ?side1 ?side2 A2.out).mono ?_); (case side1 => exact skC HR0.out); (case side2 => exact HC0.out); rintro e w15 ⟨v628, rfl, ho0, hb⟩; refine ⟨_, rfl, ?_⟩; have n0_ := asd (Kd.R_lower ho0 (below_size (skB HB.out))); have n1_ := asd (below_step (skB HB.out) hb); clear HB; have HO629 := n0_; have HB := n1_; clear n0_ n1_; (try clear hb); (try clear hb2); (try clear hk); (try clear hi); (try clear ho0)))
  go_ret3
  exact ⟨re, skB HB.out⟩
end Go.Proofs.Ytmmjkebboonnkaa.P
/- F53 -/
namespace Go.Proofs.Ytmmjkebboonnkaa.P
open Go.RowKit Go.Proofs.YtmmjkebboonnkaaW.PrintWords Go.Proofs.YtmmjkebboonnkaaW.PrintLast Go.Proofs.YtmmjkebboonnkaaW.PrintMore
attribute [local go_sem] max2_int min2_int max_two min_two max_three min_three max_four min_four   -- for this text's walks alone
set_option linter.unusedVariables false
set_option linter.unusedSimpArgs false
def weigh_Sound.l0 : Nat → List (S49) → Bool → List Int → Int → Int → Option (Bool × Int)
 | 0, _, _, _, _, _ => none
 | k + 1, x0, x5, x27, x28, x29 => if x29 < x28 then (if 0 ≤ x29 then (if x29 < (x27.length : Int) then (if x29 = 0 then (if 0 ≤ (rd x27 x29) then (if (rd x27 x29) < (x0.length : Int) then (if ((J49 x0 (rd x27 x29)).f2) = 1 then (if ((J49 x0 (rd x27 x29)).f4) < 0 then (if ((J49 x0 (rd x27 x29)).f2) = 0 then (some (false, 0)) else (weigh_Sound.l0 k x0 x5 x27 x28 (wrap64 (x29 + 1)))) else (weigh_Sound.l0 k x0 x5 x27 x28 (wrap64 (x29 + 1)))) else (some (false, 0))) else (none)) else (none)) else (if 0 ≤ (rd x27 x29) then (if (rd x27 x29) < (x0.length : Int) then (if ((J49 x0 (rd x27 x29)).f4) < 0 then (if ((J49 x0 (rd x27 x29)).f2) = 0 then (some (false, 0)) else (weigh_Sound.l0 k x0 x5 x27 x28 (wrap64 (x29 + 1)))) else (weigh_Sound.l0 k x0 x5 x27 x28 (wrap64 (x29 + 1)))) else (none)) else (none))) else (none)) else (none)) else (some (x5, 0))
def weigh_Sound.f (k : Nat) (l0 : List (S49)) : Option (Bool × Int) := (weigh_Even.f k l0).bind fun bt633 => (if bt633.2.2 = 0 then ((weigh_keys.f k l0).bind fun bt636 => (weigh_Sound.l0 k l0 bt633.2.1 bt636.1 (bt636.1.length : Int) 0)) else (some (false, bt633.2.2)))
set_option maxHeartbeats 8000000 in
set_option maxRecDepth 100000 in
theorem weigh_Sound.calls (k : Nat) (A0 : Option Addr) (c0 : Nat) (l0 : List (S49)) (r1 : Bool) (r2 : Int) (w : World) (hr0 : Kd.C k49 w A0 l0.length l0) (hc0 : l0.length ≤ c0) (h : weigh_Sound.f k l0 = some (r1, r2)) :
  Calls Try.prog 30 #[.slice A0 l0.length c0] w fun e w' => e = .returned (.tuple #[.bool r1, .int .i64 r2]) ∧ Below w.heap.size w w' := by
 have HR0 := asd hr0
 have HC0 := asd hc0
 clear hr0 hc0
 have HB := asd (Below.refl w.heap.size w)
 have H : ((weigh_Even.f k l0).bind fun bt633 => (if bt633.2.2 = 0 then ((weigh_keys.f k l0).bind fun bt636 => (weigh_Sound.l0 k l0 bt633.2.1 bt636.1 (bt636.1.length : Int) 0)) else (some (false, bt633.2.2)))) = some (r1, r2) := h
 clear h
 replace H := Option.bind_eq_some_iff.mp H
 obtain ⟨⟨t633, t634, t635⟩, A20, H⟩ := H
 replace H : (if t635 = 0 then ((weigh_keys.f k l0).bind fun bt636 => (weigh_Sound.l0 k l0 t634 bt636.1 (bt636.1.length : Int) 0)) else (some (false, t635))) = some (r1, r2) := H
 have A2 := asd A20
 clear A20
 by_cases c3 : t635 = 0
 ·
  rw [if_pos c3] at H
  have c3b0 : (t635 == 0) = true := beq_iff_eq.mpr c3
  have c3b1 : (t635 != 0) = false := bne_eq_false_iff_eq.mpr c3
  clear c3
  replace H := Option.bind_eq_some_iff.mp H
  obtain ⟨⟨t636, t637, t638⟩, A40, H⟩ := H
  replace H : (weigh_Sound.l0 k l0 t634 t636 (t636.length : Int) 0) = some (r1, r2) := H
  have A4 := asd A40
  clear A40
  have H' := asd H
  clear H
  go_enter Try.func30, Try.ntmps30
  go_wp2_with (first | ((with_reducible refine gate_callee (f := 32) rfl ?_); refine goesL_ (some 14) rfl rfl Try.func32 (by kernel_rfl) rfl #[.slice A0 l0.length c0] rfl ags ?_; (with_reducible refine (weigh_Even.calls k _ _ l0 t633 t634 t635 _ ?side1 ?side2 A2.out).mono ?_); (case side1 => exact skC HR0.out); (case side2 => exact HC0.out); rintro e w5 ⟨rfl, hb⟩; refine ⟨_, rfl, ?_⟩; have n0_ := asd (below_step (skB HB.out) hb); clear HB; have HB := n0_; clear n0_; (try clear hb); (try clear hb2); (try clear hk); (try clear hi)) | ((with_reducible refine gate_callee (f := 51) rfl ?_); refine goesL_ (some 23) rfl rfl Try.func51 (by kernel_rfl) rfl #[.slice A0 l0.length c0] rfl ags ?_; (with_reducible refine (weigh_keys.calls k _ _ l0 t636 t637 t638 _ ?side1 ?side2 A4.out).mono ?_); (case side1 => exact skC (Kd.C_below HR0.out HB.out)); (case side2 => exact HC0.out); rintro e w6 ⟨v639, v641, rfl, ho0, ho1, hb⟩; refine ⟨_, rfl, ?_⟩; have n0_ := asd (Kd.R_lower ho0 (below_size (skB HB.out))); have n1_ := asd (Kd.R_lower ho1 (below_size (skB HB.out))); have n2_ := asd (below_step (skB HB.out) hb); clear HB; have HO640 := n0_; have HO642 := n1_; have HB := n2_; clear n0_ n1_ n2_; (try clear hb); (try clear hb2); (try clear hk); (try clear hi); (try clear ho0); (try clear ho1); obtain ⟨Ao7, co7, eo7⟩ := Kd.R_slice HO640.out; subst eo7))
  go_loopg [29] k (fun kq v29 w' => ∃ (x29_1 : Int), v29 = .int .i64 x29_1 ∧ Aside0 (weigh_Sound.l0 kq l0 t634 t636 (t636.length : Int) x29_1 = some (r1, r2)) ∧ Aside0 (kq ≤ k) ∧ Aside0 (Kd.R (Kd.int .i64) 3 w' w.heap.size (fun _ => True) (.slice Ao7 t636.length co7) t636) ∧ Aside0 (Below w.heap.size w w'))
  case atStart => exact ⟨(0), rs, H', ⟨Nat.le_refl _⟩, ⟨skR (Kd.R_mono HO640.out (fun _ hk => trivial))⟩, ⟨skB HB.out⟩⟩
  case round =>
   clear H'
   try clear p2
   try clear c3
   try clear c3b0
   try clear c3b1
   try clear c5
   obtain ⟨x29_1, rfl, HA, HK1, HO_27, HB⟩ := hrel
   cases gk with
   | zero => exact absurd HA.out (by simp [weigh_Sound.l0])
   | succ k1 =>
    have H := HA.out
    clear HA
    simp only [weigh_Sound.l0] at H
    by_cases c8 : x29_1 < (t636.length : Int)
    ·
     rw [if_pos c8] at H
     have c8b0 : decide (x29_1 < (t636.length : Int)) = true := decide_eq_true c8
     clear c8
     by_cases c9 : 0 ≤ x29_1
     ·
      rw [if_pos c9] at H
      have c9b0 : decide (0 ≤ x29_1) = true := decide_eq_true c9
      clear c9
      by_cases c10 : x29_1 < (t636.length : Int)
      ·
       rw [if_pos c10] at H
       have c10b0 : decide (x29_1 < (t636.length : Int)) = true := decide_eq_true c10
       clear c10
       by_cases c11 : x29_1 = 0
       ·
        rw [if_pos c11] at H
        have c11b0 : (x29_1 == 0) = true := beq_iff_eq.mpr c11
        have c11b1 : (x29_1 != 0) = false := bne_eq_false_iff_eq.mpr c11
        clear c11
        by_cases c12 : 0 ≤ (rd t636 x29_1)
        ·
         rw [if_pos c12] at H
         have c12b0 : decide (0 ≤ (rd t636 x29_1)) = true := decide_eq_true c12
         clear c12
         by_cases c13 : (rd t636 x29_1) < (l0.length : Int)
         ·
          rw [if_pos c13] at H
          have c13b0 : decide ((rd t636 x29_1) < (l0.length : Int)) = true := decide_eq_true c13
          clear c13
          by_cases c14 : ((J49 l0 (rd t636 x29_1)).f2) = 1
          ·
           rw [if_pos c14] at H
           have c14b0 : (((J49 l0 (rd t636 x29_1)).f2) == 1) = true := beq_iff_eq.mpr c14
           have c14b1 : (((J49 l0 (rd t636 x29_1)).f2) != 1) = false := bne_eq_false_iff_eq.mpr c14
           clear c14
           by_cases c15 : ((J49 l0 (rd t636 x29_1)).f4) < 0
           ·
            rw [if_pos c15] at H
            have c15b0 : decide (((J49 l0 (rd t636 x29_1)).f4) < 0) = true := decide_eq_true c15
            clear c15
            by_cases c16 : ((J49 l0 (rd t636 x29_1)).f2) = 0
            ·
             rw [if_pos c16] at H
             have c16b0 : (((J49 l0 (rd t636 x29_1)).f2) == 0) = true := beq_iff_eq.mpr c16
             have c16b1 : (((J49 l0 (rd t636 x29_1)).f2) != 0) = false := bne_eq_false_iff_eq.mpr c16
             clear c16
             simp only [Option.some.injEq, Prod.mk.injEq] at H
             obtain ⟨rfl, rfl⟩ := H
             have p643 : 0 ≤ (x29_1 : Int) := dt
             have q643 : x29_1 < (t636.length : Int) := dt
             obtain ⟨ad643, e643, hx643_0⟩ := Kd.at_int (Kd.R_reads' HO_27.out).2.2 x29_1 p643 q643
             cases e643
             replace p643 := eq_true p643
             replace q643 := eq_true q643
             have p644 : 0 ≤ ((rd t636 x29_1) : Int) := dt
             have q644 : (rd t636 x29_1) < (l0.length : Int) := dt
             obtain ⟨ad644, e644, hx644_0, hx644_1, hx644_2, hx644_3, hx644_4, hx644_5⟩ := at_T49 HR0.out (rd t636 x29_1) p644 q644
             cases e644
             replace hx644_0 := skc HB.out hx644_0
             replace hx644_1 := skc HB.out hx644_1
             replace hx644_2 := skc HB.out hx644_2
             replace hx644_3 := skc HB.out hx644_3
             replace hx644_4 := skc HB.out hx644_4
             replace hx644_5 := skc HB.out hx644_5
             replace p644 := eq_true p644
             replace q644 := eq_true q644
             have p645 : 0 ≤ ((rd t636 x29_1) : Int) := dt
             have q645 : (rd t636 x29_1) < (l0.length : Int) := dt
             obtain ⟨ad645, e645, hx645_0, hx645_1, hx645_2, hx645_3, hx645_4, hx645_5⟩ := at_T49 HR0.out (rd t636 x29_1) p645 q645
             obtain rfl : ad644 = ad645 := (by injection e645)
             replace hx645_0 := skc HB.out hx645_0
             replace hx645_1 := skc HB.out hx645_1
             replace hx645_2 := skc HB.out hx645_2
             replace hx645_3 := skc HB.out hx645_3
             replace hx645_4 := skc HB.out hx645_4
             replace hx645_5 := skc HB.out hx645_5
             replace p645 := eq_true p645
             replace q645 := eq_true q645
             have p646 : 0 ≤ ((rd t636 x29_1) : Int) := dt
             have q646 : (rd t636 x29_1) < (l0.length : Int) := dt
             obtain ⟨ad646, e646, hx646_0, hx646_1, hx646_2, hx646_3, hx646_4, hx646_5⟩ := at_T49 HR0.out (rd t636 x29_1) p646 q646
             obtain rfl : ad644 = ad646 := (by injection e646)
             replace hx646_0 := skc HB.out hx646_0
             replace hx646_1 := skc HB.out hx646_1
             replace hx646_2 := skc HB.out hx646_2
             replace hx646_3 := skc HB.out hx646_3
             replace hx646_4 := skc HB.out hx646_4
             replace hx646_5 := skc HB.out hx646_5
             replace p646 := eq_true p646
             replace q646 := eq_true q646
             go_wp2
             go_ret2
             exact ⟨re, skB HB.out⟩
            ·
             rw [if_neg c16] at H
             have c16b0 : (((J49 l0 (rd t636 x29_1)).f2) == 0) = false := beq_eq_false_iff_ne.mpr c16
             have c16b1 : (((J49 l0 (rd t636 x29_1)).f2) != 0) = true := bne_iff_ne.mpr c16
             have H' := asd H
             clear H
             have p643 : 0 ≤ (x29_1 : Int) := dt
             have q643 : x29_1 < (t636.length : Int) := dt
             obtain ⟨ad643, e643, hx643_0⟩ := Kd.at_int (Kd.R_reads' HO_27.out).2.2 x29_1 p643 q643
             cases e643
             replace p643 := eq_true p643
             replace q643 := eq_true q643
             have p644 : 0 ≤ ((rd t636 x29_1) : Int) := dt
             have q644 : (rd t636 x29_1) < (l0.length : Int) := dt
             obtain ⟨ad644, e644, hx644_0, hx644_1, hx644_2, hx644_3, hx644_4, hx644_5⟩ := at_T49 HR0.out (rd t636 x29_1) p644 q644
             cases e644
             replace hx644_0 := skc HB.out hx644_0
             replace hx644_1 := skc HB.out hx644_1
             replace hx644_2 := skc HB.out hx644_2
             replace hx644_3 := skc HB.out hx644_3
             replace hx644_4 := skc HB.out hx644_4
             replace hx644_5 := skc HB.out hx644_5
             replace p644 := eq_true p644
             replace q644 := eq_true q644
             have p645 : 0 ≤ ((rd t636 x29_1) : Int) := dt
             have q645 : (rd t636 x29_1) < (l0.length : Int) := dt
             obtain ⟨ad645, e645, hx645_0, hx645_1, hx645_2, hx645_3, hx645_4, hx645_5⟩ := at_T49 HR0.out (rd t636 x29_1) p645 q645
             obtain rfl : ad644 = ad645 := (by injection e645)
             replace hx645_0 := skc HB.out hx645_0
             replace hx645_1 := skc HB.out hx645_1
             replace hx645_2 := skc HB.out hx645_2
             replace hx645_3 := skc HB.out hx645_3
             replace hx645_4 := skc HB.out hx645_4
             replace hx645_5 := skc HB.out hx645_5
             replace p645 := eq_true p645
             replace q645 := eq_true q645
             have p646 : 0 ≤ ((rd t636 x29_1) : Int) := dt
             have q646 : (rd t636 x29_1) < (l0.length : Int) := dt
             obtain ⟨ad646, e646, hx646_0, hx646_1, hx646_2, hx646_3, hx646_4, hx646_5⟩ := at_T49 HR0.out (rd t636 x29_1) p646 q646
             obtain rfl : ad644 = ad646 := (by injection e646)
             replace hx646_0 := skc HB.out hx646_0
             replace hx646_1 := skc HB.out hx646_1
             replace hx646_2 := skc HB.out hx646_2
             replace hx646_3 := skc HB.out hx646_3
             replace hx646_4 := skc HB.out hx646_4
             replace hx646_5 := skc HB.out hx646_5
             replace p646 := eq_true p646
             replace q646 := eq_true q646
             go_wp2
             go_roundg k1
             case measure => have := HK1.out; omega
             case rel => exact ⟨(wrap64 (x29_1 + 1)), rs, H', ⟨by have := HK1.out; omega⟩, ⟨skR HO_27.out⟩, ⟨skB HB.out⟩⟩
           ·
            rw [if_neg c15] at H
            have c15b0 : decide (((J49 l0 (rd t636 x29_1)).f4) < 0) = false := decide_eq_false c15
            clear c15
            have H' := asd H
            clear H
            have p643 : 0 ≤ (x29_1 : Int) := dt
            have q643 : x29_1 < (t636.length : Int) := dt
            obtain ⟨ad643, e643, hx643_0⟩ := Kd.at_int (Kd.R_reads' HO_27.out).2.2 x29_1 p643 q643
            cases e643
            replace p643 := eq_true p643
            replace q643 := eq_true q643
            have p644 : 0 ≤ ((rd t636 x29_1) : Int) := dt
            have q644 : (rd t636 x29_1) < (l0.length : Int) := dt
            obtain ⟨ad644, e644, hx644_0, hx644_1, hx644_2, hx644_3, hx644_4, hx644_5⟩ := at_T49 HR0.out (rd t636 x29_1) p644 q644
            cases e644
            replace hx644_0 := skc HB.out hx644_0
            replace hx644_1 := skc HB.out hx644_1
            replace hx644_2 := skc HB.out hx644_2
            replace hx644_3 := skc HB.out hx644_3
            replace hx644_4 := skc HB.out hx644_4
            replace hx644_5 := skc HB.out hx644_5
            replace p644 := eq_true p644
            replace q644 := eq_true q644
            have p645 : 0 ≤ ((rd t636 x29_1) : Int) := dt
            have q645 : (rd t636 x29_1) < (l0.length : Int) := dt
            obtain ⟨ad645, e645, hx645_0, hx645_1, hx645_2, hx645_3, hx645_4, hx645_5⟩ := at_T49 HR0.out (rd t636 x29_1) p645 q645
            obtain rfl : ad644 = ad645 := (by injection e645)
            replace hx645_0 := skc HB.out hx645_0
            replace hx645_1 := skc HB.out hx645_1
            replace hx645_2 := skc HB.out hx645_2
            replace hx645_3 := skc HB.out hx645_3
            replace hx645_4 := skc HB.out hx645_4
            replace hx645_5 := skc HB.out hx645_5
            replace p645 := eq_true p645
            replace q645 := eq_true q645
            go_wp2
            go_roundg k1
            case measure => have := HK1.out; omega
            case rel => exact ⟨(wrap64 (x29_1 + 1)), rs, H', ⟨by have := HK1.out; omega⟩, ⟨skR HO_27.out⟩, ⟨skB HB.out⟩⟩
          ·
           rw [if_neg c14] at H
           have c14b0 : (((J49 l0 (rd t636 x29_1)).f2) == 1) = false := beq_eq_false_iff_ne.mpr c14
           have c14b1 : (((J49 l0 (rd t636 x29_1)).f2) != 1) = true := bne_iff_ne.mpr c14
           simp only [Option.some.injEq, Prod.mk.injEq] at H
           obtain ⟨rfl, rfl⟩ := H
           have p643 : 0 ≤ (x29_1 : Int) := dt
           have q643 : x29_1 < (t636.length : Int) := dt
           obtain ⟨ad643, e643, hx643_0⟩ := Kd.at_int (Kd.R_reads' HO_27.out).2.2 x29_1 p643 q643
           cases e643
           replace p643 := eq_true p643
           replace q643 := eq_true q643
           have p644 : 0 ≤ ((rd t636 x29_1) : Int) := dt
           have q644 : (rd t636 x29_1) < (l0.length : Int) := dt
           obtain ⟨ad644, e644, hx644_0, hx644_1, hx644_2, hx644_3, hx644_4, hx644_5⟩ := at_T49 HR0.out (rd t636 x29_1) p644 q644
           cases e644
           replace hx644_0 := skc HB.out hx644_0
           replace hx644_1 := skc HB.out hx644_1
           replace hx644_2 := skc HB.out hx644_2
           replace hx644_3 := skc HB.out hx644_3
           replace hx644_4 := skc HB.out hx644_4
           replace hx644_5 := skc HB.out hx644_5
           replace p644 := eq_true p644
           replace q644 := eq_true q644
           go_wp2
           go_ret2
           exact ⟨re, skB HB.out⟩
         ·
          rw [if_neg c13] at H
          exact absurd H (by simp)
        ·
         rw [if_neg c12] at H
         exact absurd H (by simp)
       ·
        rw [if_neg c11] at H
        have c11b0 : (x29_1 == 0) = false := beq_eq_false_iff_ne.mpr c11
        have c11b1 : (x29_1 != 0) = true := bne_iff_ne.mpr c11
        by_cases c17 : 0 ≤ (rd t636 x29_1)
        ·
         rw [if_pos c17] at H
         have c17b0 : decide (0 ≤ (rd t636 x29_1)) = true := decide_eq_true c17
         clear c17
         by_cases c18 : (rd t636 x29_1) < (l0.length : Int)
         ·
          rw [if_pos c18] at H
          have c18b0 : decide ((rd t636 x29_1) < (l0.length : Int)) = true := decide_eq_true c18
          clear c18
          by_cases c19 : ((J49 l0 (rd t636 x29_1)).f4) < 0
          ·
           rw [if_pos c19] at H
           have c19b0 : decide (((J49 l0 (rd t636 x29_1)).f4) < 0) = true := decide_eq_true c19
           clear c19
           by_cases c20 : ((J49 l0 (rd t636 x29_1)).f2) = 0
           ·
            rw [if_pos c20] at H
            have c20b0 : (((J49 l0 (rd t636 x29_1)).f2) == 0) = true := beq_iff_eq.mpr c20
            have c20b1 : (((J49 l0 (rd t636 x29_1)).f2) != 0) = false := bne_eq_false_iff_eq.mpr c20
            clear c20
            simp only [Option.some.injEq, Prod.mk.injEq] at H
            obtain ⟨rfl, rfl⟩ := H
            have p643 : 0 ≤ (x29_1 : Int) := dt
            have q643 : x29_1 < (t636.length : Int) := dt
            obtain ⟨ad643, e643, hx643_0⟩ := Kd.at_int (Kd.R_reads' HO_27.out).2.2 x29_1 p643 q643
            cases e643
            replace p643 := eq_true p643
            replace q643 := eq_true q643
            have p647 : 0 ≤ ((rd t636 x29_1) : Int) := dt
            have q647 : (rd t636 x29_1) < (l0.length : Int) := dt
            obtain ⟨ad647, e647, hx647_0, hx647_1, hx647_2, hx647_3, hx647_4, hx647_5⟩ := at_T49 HR0.out (rd t636 x29_1) p647 q647
            cases e647
            replace hx647_0 := skc HB.out hx647_0
            replace hx647_1 := skc HB.out hx647_1
            replace hx647_2 := skc HB.out hx647_2
            replace hx647_3 := skc HB.out hx647_3
            replace hx647_4 := skc HB.out hx647_4
            replace hx647_5 := skc HB.out hx647_5
            replace p647 := eq_true p647
            replace q647 := eq_true q647
            have p648 : 0 ≤ ((rd t636 x29_1) : Int) := dt
            have q648 : (rd t636 x29_1) < (l0.length : Int) := dt
            obtain ⟨ad648, e648, hx648_0, hx648_1, hx648_2, hx648_3, hx648_4, hx648_5⟩ := at_T49 HR0.out (rd t636 x29_1) p648 q648
            obtain rfl : ad647 = ad648 := (by injection e648)
            replace hx648_0 := skc HB.out hx648_0
            replace hx648_1 := skc HB.out hx648_1
            replace hx648_2 := skc HB.out hx648_2
            replace hx648_3 := skc HB.out hx648_3
            replace hx648_4 := skc HB.out hx648_4
            replace hx648_5 := skc HB.out hx648_5
            replace p648 := eq_true p648
            replace q648 := eq_true q648
            go_wp2
            go_ret2
            exact ⟨re, skB HB.out⟩
           ·
            rw [if_neg c20] at H
            have c20b0 : (((J49 l0 (rd t636 x29_1)).f2) == 0) = false := beq_eq_false_iff_ne.mpr c20
            have c20b1 : (((J49 l0 (rd t636 x29_1)).f2) != 0) = true := bne_iff_ne.mpr c20
            have H' := asd H
            clear H
            have p643 : 0 ≤ (x29_1 : Int) := dt
            have q643 : x29_1 < (t636.length : Int) := dt
            obtain ⟨ad643, e643, hx643_0⟩ := Kd.at_int (Kd.R_reads' HO_27.out).2.2 x29_1 p643 q643
            cases e643
            replace p643 := eq_true p643
            replace q643 := eq_true q643
            have p647 : 0 ≤ ((rd t636 x29_1) : Int) := dt
            have q647 : (rd t636 x29_1) < (l0.length : Int) := dt
            obtain ⟨ad647, e647, hx647_0, hx647_1, hx647_2, hx647_3, hx647_4, hx647_5⟩ := at_T49 HR0.out (rd t636 x29_1) p647 q647
            cases e647
            replace hx647_0 := skc HB.out hx647_0
            replace hx647_1 := skc HB.out hx647_1
            replace hx647_2 := skc HB.out hx647_2
            replace hx647_3 := skc HB.out hx647_3
            replace hx647_4 := skc HB.out hx647_4
            replace hx647_5 := skc HB.out hx647_5
            replace p647 := eq_true p647
            replace q647 := eq_true q647
            have p648 : 0 ≤ ((rd t636 x29_1) : Int) := dt
            have q648 : (rd t636 x29_1) < (l0.length : Int) := dt
            obtain ⟨ad648, e648, hx648_0, hx648_1, hx648_2, hx648_3, hx648_4, hx648_5⟩ := at_T49 HR0.out (rd t636 x29_1) p648 q648
            obtain rfl : ad647 = ad648 := (by injection e648)
            replace hx648_0 := skc HB.out hx648_0
            replace hx648_1 := skc HB.out hx648_1
            replace hx648_2 := skc HB.out hx648_2
            replace hx648_3 := skc HB.out hx648_3
            replace hx648_4 := skc HB.out hx648_4
            replace hx648_5 := skc HB.out hx648_5
            replace p648 := eq_true p648
            replace q648 := eq_true q648
            go_wp2
            go_roundg k1
            case measure => have := HK1.out; omega
            case rel => exact ⟨(wrap64 (x29_1 + 1)), rs, H', ⟨by have := HK1.out; omega⟩, ⟨skR HO_27.out⟩, ⟨skB HB.out⟩⟩
          ·
           rw [if_neg c19] at H
           have c19b0 : decide (((J49 l0 (rd t636 x29_1)).f4) < 0) = false := decide_eq_false c19
           clear c19
           have H' := asd H
           clear H
           have p643 : 0 ≤ (x29_1 : Int) := dt
           have q643 : x29_1 < (t636.length : Int) := dt
           obtain ⟨ad643, e643, hx643_0⟩ := Kd.at_int (Kd.R_reads' HO_27.out).2.2 x29_1 p643 q643
           cases e643
           replace p643 := eq_true p643
           replace q643 := eq_true q643
           have p647 : 0 ≤ ((rd t636 x29_1) : Int) := dt
           have q647 : (rd t636 x29_1) < (l0.length : Int) := dt
           obtain ⟨ad647, e647, hx647_0, hx647_1, hx647_2, hx647_3, hx647_4, hx647_5⟩ := at_T49 HR0.out (rd t636 x29_1) p647 q647
           cases e647
           replace hx647_0 := skc HB.out hx647_0
           replace hx647_1 := skc HB.out hx647_1
           replace hx647_2 := skc HB.out hx647_2
           replace hx647_3 := skc HB.out hx647_3
           replace hx647_4 := skc HB.out hx647_4
           replace hx647_5 := skc HB.out hx647_5
           replace p647 := eq_true p647
           replace q647 := eq_true q647
           go_wp2
           go_roundg k1
           case measure => have := HK1.out; omega
           case rel => exact ⟨(wrap64 (x29_1 + 1)), rs, H', ⟨by have := HK1.out; omega⟩, ⟨skR HO_27.out⟩, ⟨skB HB.out⟩⟩
         ·
          rw [if_neg c18] at H
          exact absurd H (by simp)
        ·
         rw [if_neg c17] at H
         exact absurd H (by simp)
      ·
       rw [if_neg c10] at H
       exact absurd H (by simp)
     ·
      rw [if_neg c9] at H
      exact absurd H (by simp)
    ·
     rw [if_neg c8] at H
     have c8b0 : decide (x29_1 < (t636.length : Int)) = false := decide_eq_false c8
     clear c8
     simp only [Option.some.injEq, Prod.mk.injEq] at H
     obtain ⟨rfl, rfl⟩ := H
     go_wp2
     go_ret2
     exact ⟨re, skB HB.out⟩
 ·
  rw [if_neg c3] at H
  have c3b0 : (t635 == 0) = false := beq_eq_false_iff_ne.mpr c3
  have c3b1 : (t635 != 0) = true := bne_iff_ne.mpr c3
  simp only [Option.some.injEq, Prod.mk.injEq] at H
  obtain ⟨rfl, rfl⟩ := H
  go_enter Try.func30, Try.ntmps30
  go_wp2_with (first | ((with_reducible refine gate_callee (f := 32) rfl ?_); refine goesL_ (some 14) rfl rfl Try.func32 (by kernel_rfl) rfl #[.slice A0 l0.length c0] rfl ags ?_; (with_reducible refine (weigh_Even.calls k _ _ l0 t633 t634 t635 _ ?side1 ?side2 A2.out).mono ?_); (case side1 => exact skC HR0.out); (case side2 => exact HC0.out); rintro e w21 ⟨rfl, hb⟩; refine ⟨_, rfl, ?_⟩; have n0_ := asd (below_step (skB HB.out) hb); clear HB; have HB := n0_; clear n0_; (try clear hb); (try clear hb2); (try clear hk); (try clear hi)))
  go_ret2
  exact ⟨re, skB HB.out⟩
end Go.Proofs.Ytmmjkebboonnkaa.P
/- F55 -/
namespace Go.Proofs.Ytmmjkebboonnkaa.P
open Go.RowKit Go.Proofs.YtmmjkebboonnkaaW.PrintWords Go.Proofs.YtmmjkebboonnkaaW.PrintLast Go.Proofs.YtmmjkebboonnkaaW.PrintMore
attribute [local go_sem] max2_int min2_int max_two min_two max_three min_three max_four min_four   -- for this text's walks alone
set_option linter.unusedVariables false
set_option linter.unusedSimpArgs false
def weigh_Fits.f (k : Nat) (l0 : List (S49)) : Option (Bool × Int) := (weigh_Sums.f k l0).bind fun bt666 => (if bt666.2 = 0 then ((table_Height.f k l0).bind fun bt670 => ((weigh_Bound.f (bt666.1.length : Int)).bind fun bt672 => (some (decide (bt670.1 ≤ bt672.1), 0)))) else (some (false, bt666.2)))
set_option maxHeartbeats 8000000 in
set_option maxRecDepth 100000 in
theorem weigh_Fits.calls (k : Nat) (A0 : Option Addr) (c0 : Nat) (l0 : List (S49)) (r1 : Bool) (r2 : Int) (w : World) (hr0 : Kd.C k49 w A0 l0.length l0) (hc0 : l0.length ≤ c0) (h : weigh_Fits.f k l0 = some (r1, r2)) :
  Calls Try.prog 31 #[.slice A0 l0.length c0] w fun e w' => e = .returned (.tuple #[.bool r1, .int .i64 r2]) ∧ Below w.heap.size w w' := by
 have HR0 := asd hr0
 have HC0 := asd hc0
 clear hr0 hc0
 have HB := asd (Below.refl w.heap.size w)
 have H : ((weigh_Sums.f k l0).bind fun bt666 => (if bt666.2 = 0 then ((table_Height.f k l0).bind fun bt670 => ((weigh_Bound.f (bt666.1.length : Int)).bind fun bt672 => (some (decide (bt670.1 ≤ bt672.1), 0)))) else (some (false, bt666.2)))) = some (r1, r2) := h
 clear h
 replace H := Option.bind_eq_some_iff.mp H
 obtain ⟨⟨t666, t667⟩, A20, H⟩ := H
 replace H : (if t667 = 0 then ((table_Height.f k l0).bind fun bt670 => ((weigh_Bound.f (t666.length : Int)).bind fun bt672 => (some (decide (bt670.1 ≤ bt672.1), 0)))) else (some (false, t667))) = some (r1, r2) := H
 have A2 := asd A20
 clear A20
 by_cases c3 : t667 = 0
 ·
  rw [if_pos c3] at H
  have c3b0 : (t667 == 0) = true := beq_iff_eq.mpr c3
  have c3b1 : (t667 != 0) = false := bne_eq_false_iff_eq.mpr c3
  clear c3
  replace H := Option.bind_eq_some_iff.mp H
  obtain ⟨⟨t670, t671⟩, A40, H⟩ := H
  replace H : ((weigh_Bound.f (t666.length : Int)).bind fun bt672 => (some (decide (t670 ≤ bt672.1), 0))) = some (r1, r2) := H
  have A4 := asd A40
  clear A40
  replace H := Option.bind_eq_some_iff.mp H
  obtain ⟨⟨t672, t673⟩, A50, H⟩ := H
  replace H : (some (decide (t670 ≤ t672), 0)) = some (r1, r2) := H
  have A5 := asd A50
  clear A50
  simp only [Option.some.injEq, Prod.mk.injEq] at H
  obtain ⟨rfl, rfl⟩ := H
  go_enter Try.func31, Try.ntmps31
  go_wp2_with (first | ((with_reducible refine gate_callee (f := 25) rfl ?_); refine goesL_ (some 12) rfl rfl Try.func25 (by kernel_rfl) rfl #[.slice A0 l0.length c0] rfl ags ?_; (with_reducible refine (weigh_Sums.calls k _ _ l0 t666 t667 _ ?side1 ?side2 A2.out).mono ?_); (case side1 => exact skC HR0.out); (case side2 => exact HC0.out); rintro e w6 ⟨v668, rfl, ho0, hb⟩; refine ⟨_, rfl, ?_⟩; have n0_ := asd (Kd.R_lower ho0 (below_size (skB HB.out))); have n1_ := asd (below_step (skB HB.out) hb); clear HB; have HO669 := n0_; have HB := n1_; clear n0_ n1_; (try clear hb); (try clear hb2); (try clear hk); (try clear hi); (try clear ho0)) | ((with_reducible refine gate_callee (f := 57) rfl ?_); refine goesL_ (some 20) rfl rfl Try.func57 (by kernel_rfl) rfl #[.slice A0 l0.length c0] rfl ags ?_; (with_reducible refine (table_Height.calls k _ _ l0 t670 t671 _ ?side1 ?side2 A4.out).mono ?_); (case side1 => exact skC (Kd.C_below HR0.out HB.out)); (case side2 => exact HC0.out); rintro e w7 ⟨rfl, hb⟩; refine ⟨_, rfl, ?_⟩; have n0_ := asd (Kd.R_below (skR HO669.out) hb); have n1_ := asd (below_step (skB HB.out) hb); clear HO669; clear HB; have HO669 := n0_; have HB := n1_; clear n0_ n1_; (try clear hb); (try clear hb2); (try clear hk); (try clear hi); obtain ⟨Ao8, co8, eo8⟩ := Kd.R_slice HO669.out; subst eo8) | ((with_reducible refine gate_callee (f := 40) rfl ?_); refine goesL_ (some 26) rfl rfl Try.func40 (by kernel_rfl) rfl #[.int .i64 (t666.length : Int)] rfl ags ?_; (with_reducible refine (weigh_Bound.calls (t666.length : Int) t672 t673 _ A5.out).mono ?_); rintro e w' ⟨rfl, ⟨nd, rfl⟩⟩; refine ⟨_, rfl, ?_⟩))
  go_ret2
  exact ⟨re, skB HB.out⟩
 ·
  rw [if_neg c3] at H
  have c3b0 : (t667 == 0) = false := beq_eq_false_iff_ne.mpr c3
  have c3b1 : (t667 != 0) = true := bne_iff_ne.mpr c3
  simp only [Option.some.injEq, Prod.mk.injEq] at H
  obtain ⟨rfl, rfl⟩ := H
  go_enter Try.func31, Try.ntmps31
  go_wp2_with (first | ((with_reducible refine gate_callee (f := 25) rfl ?_); refine goesL_ (some 12) rfl rfl Try.func25 (by kernel_rfl) rfl #[.slice A0 l0.length c0] rfl ags ?_; (with_reducible refine (weigh_Sums.calls k _ _ l0 t666 t667 _ ?side1 ?side2 A2.out).mono ?_); (case side1 => exact skC HR0.out); (case side2 => exact HC0.out); rintro e w9 ⟨v668, rfl, ho0, hb⟩; refine ⟨_, rfl, ?_⟩; have n0_ := asd (Kd.R_lower ho0 (below_size (skB HB.out))); have n1_ := asd (below_step (skB HB.out) hb); clear HB; have HO669 := n0_; have HB := n1_; clear n0_ n1_; (try clear hb); (try clear hb2); (try clear hk); (try clear hi); (try clear ho0)))
  go_ret2
  exact ⟨re, skB HB.out⟩
end Go.Proofs.Ytmmjkebboonnkaa.P
/- F66 -/
namespace Go.Proofs.Ytmmjkebboonnkaa.P
open Go.RowKit Go.Proofs.YtmmjkebboonnkaaW.PrintWords Go.Proofs.YtmmjkebboonnkaaW.PrintLast Go.Proofs.YtmmjkebboonnkaaW.PrintMore
attribute [local go_sem] max2_int min2_int max_two min_two max_three min_three max_four min_four   -- for this text's walks alone
set_option linter.unusedVariables false
set_option linter.unusedSimpArgs false
end Go.Proofs.Ytmmjkebboonnkaa.P
/- F58 -/
namespace Go.Proofs.Ytmmjkebboonnkaa.P
open Go.RowKit Go.Proofs.YtmmjkebboonnkaaW.PrintWords Go.Proofs.YtmmjkebboonnkaaW.PrintLast Go.Proofs.YtmmjkebboonnkaaW.PrintMore
attribute [local go_sem] max2_int min2_int max_two min_two max_three min_three max_four min_four   -- for this text's walks alone
set_option linter.unusedVariables false
set_option linter.unusedSimpArgs false
mutual
def larchlaw17_WeighBound.j0 : Nat → Bool → Bool → List (S49) → List Int → Int → Int → Option (Bool)
 | 0, _, _, _, _, _, _ => none
 | k + 1, x3, x28, x686000, x686001, x686002, x686003 => if x28 = true then (some (!x3)) else ((larchlaw17_copied.f x686000).bind fun t692 => ((weigh_Violations.f k t692).bind fun bt695 => ((larchlaw17_copied.f x686000).bind fun t697 => ((weigh_Even.f k t697).bind fun bt700 => (if bt695.2 = 0 then (if bt700.2.2 = 0 then (larchlaw17_WeighBound.j1 k bt695.1 bt700.1 (!bt700.2.1) x686000 x686001 x686002 x686003) else (larchlaw17_WeighBound.j1 k bt695.1 bt700.1 true x686000 x686001 x686002 x686003)) else (larchlaw17_WeighBound.j1 k bt695.1 bt700.1 true x686000 x686001 x686002 x686003))))))
def larchlaw17_WeighBound.j1 : Nat → Int → Int → Bool → List (S49) → List Int → Int → Int → Option (Bool)
 | 0, _, _, _, _, _, _, _ => none
 | k + 1, x5, x6, x55, x686000, x686001, x686002, x686003 => if x55 = true then (none) else (if x5 > 0 then (some true) else ((larchlaw17_copied.f x686000).bind fun t703 => ((weigh_Fits.f k t703).bind fun bt706 => ((larchlaw17_copied.f x686000).bind fun t708 => ((weigh_Deep.f k t708).bind fun bt711 => ((larchref17_Leaves.f k x686000).bind fun t713 => (if bt706.2 = 0 then (if bt711.2 = 0 then (if bt706.1 = true then (if (t713.length : Int) = 0 then (larchlaw17_WeighBound.j2 k x6 bt711.1 (t713.length : Int) (x6 != 0)) else (larchlaw17_WeighBound.j2 k x6 bt711.1 (t713.length : Int) false)) else (larchlaw17_WeighBound.j2 k x6 bt711.1 (t713.length : Int) true)) else (larchlaw17_WeighBound.j2 k x6 bt711.1 (t713.length : Int) true)) else (larchlaw17_WeighBound.j2 k x6 bt711.1 (t713.length : Int) true))))))))
def larchlaw17_WeighBound.j2 : Nat → Int → Int → Int → Bool → Option (Bool)
 | 0, _, _, _, _ => none
 | k + 1, x6, x10, x11, x93 => if x93 = true then (none) else (if x11 = 0 then (some (x10 == 1)) else (larchlaw17_WeighBound.l0 k x6 x10 x11 1 1))
def larchlaw17_WeighBound.l0 : Nat → Int → Int → Int → Int → Int → Option (Bool)
 | 0, _, _, _, _, _ => none
 | k + 1, x6, x10, x11, x12, x13 => if x13 < x6 then (if x12 > x11 then (none) else (larchlaw17_WeighBound.l0 k x6 x10 x11 (wrap64 (x12 * 2)) (wrap64 (x13 + 1)))) else (if x6 ≥ 1 then (if x11 ≥ x12 then (some (decide (x10 ≤ (wrap64 (2 * x6))))) else (none)) else (none))
end
def larchlaw17_WeighBound.f (k : Nat) (l0_0 : List (S49)) (l0_1 : List Int) (a0_2 : Int) (a0_3 : Int) : Option (Bool) := (larchlaw17_fixed.f k).bind fun t686 => (if t686 = true then ((larchlaw17_copied.f l0_0).bind fun t687 => ((weigh_Sound.f k t687).bind fun bt690 => (if bt690.2 = 0 then (larchlaw17_WeighBound.j0 k bt690.1 (!bt690.1) l0_0 l0_1 a0_2 a0_3) else (larchlaw17_WeighBound.j0 k bt690.1 true l0_0 l0_1 a0_2 a0_3)))) else (none))
set_option maxHeartbeats 8000000 in
set_option maxRecDepth 100000 in
theorem larchlaw17_WeighBound.calls (k : Nat) (A0_0 : Option Addr) (c0_0 : Nat) (l0_0 : List (S49)) (A0_1 : Option Addr) (c0_1 : Nat) (l0_1 : List Int) (a0_2 : Int) (a0_3 : Int) (r : Bool) (w : World) (hr0_0 : Kd.C k49 w A0_0 l0_0.length l0_0) (hc0_0 : l0_0.length ≤ c0_0) (hr0_1 : Kd.C (Kd.int .i64) w A0_1 l0_1.length l0_1) (hc0_1 : l0_1.length ≤ c0_1) (h : larchlaw17_WeighBound.f k l0_0 l0_1 a0_2 a0_3 = some r) :
  Calls Try.prog 6 #[.agg #[.slice A0_0 l0_0.length c0_0, .slice A0_1 l0_1.length c0_1, .int .i64 a0_2, .int .i64 a0_3]] w fun e w' => e = .returned (.bool r) ∧ Below w.heap.size w w' := by
 have hu25 := Try.underlying25
 have HR0_0 := asd hr0_0
 have HC0_0 := asd hc0_0
 clear hr0_0 hc0_0
 have HR0_1 := asd hr0_1
 have HC0_1 := asd hc0_1
 clear hr0_1 hc0_1
 have HB := asd (Below.refl w.heap.size w)
 have H : ((larchlaw17_fixed.f k).bind fun t686 => (if t686 = true then ((larchlaw17_copied.f l0_0).bind fun t687 => ((weigh_Sound.f k t687).bind fun bt690 => (if bt690.2 = 0 then (larchlaw17_WeighBound.j0 k bt690.1 (!bt690.1) l0_0 l0_1 a0_2 a0_3) else (larchlaw17_WeighBound.j0 k bt690.1 true l0_0 l0_1 a0_2 a0_3)))) else (none))) = some r := h
 clear h
 replace H := Option.bind_eq_some_iff.mp H
 obtain ⟨t686, A20, H⟩ := H
 replace H : (if t686 = true then ((larchlaw17_copied.f l0_0).bind fun t687 => ((weigh_Sound.f k t687).bind fun bt690 => (if bt690.2 = 0 then (larchlaw17_WeighBound.j0 k bt690.1 (!bt690.1) l0_0 l0_1 a0_2 a0_3) else (larchlaw17_WeighBound.j0 k bt690.1 true l0_0 l0_1 a0_2 a0_3)))) else (none)) = some r := H
 have A2 := asd A20
 clear A20
 by_cases c3 : t686 = true
 ·
  subst c3
  have H1 : ((larchlaw17_copied.f l0_0).bind fun t687 => ((weigh_Sound.f k t687).bind fun bt690 => (if bt690.2 = 0 then (larchlaw17_WeighBound.j0 k bt690.1 (!bt690.1) l0_0 l0_1 a0_2 a0_3) else (larchlaw17_WeighBound.j0 k bt690.1 true l0_0 l0_1 a0_2 a0_3)))) = some r := by rw [if_pos rfl] at H; exact H
  clear H
  have H := H1
  clear H1
  replace H := Option.bind_eq_some_iff.mp H
  obtain ⟨t687, A40, H⟩ := H
  replace H : ((weigh_Sound.f k t687).bind fun bt690 => (if bt690.2 = 0 then (larchlaw17_WeighBound.j0 k bt690.1 (!bt690.1) l0_0 l0_1 a0_2 a0_3) else (larchlaw17_WeighBound.j0 k bt690.1 true l0_0 l0_1 a0_2 a0_3))) = some r := H
  have A4 := asd A40
  clear A40
  replace H := Option.bind_eq_some_iff.mp H
  obtain ⟨⟨t690, t691⟩, A50, H⟩ := H
  replace H : (if t691 = 0 then (larchlaw17_WeighBound.j0 k t690 (!t690) l0_0 l0_1 a0_2 a0_3) else (larchlaw17_WeighBound.j0 k t690 true l0_0 l0_1 a0_2 a0_3)) = some r := H
  have A5 := asd A50
  clear A50
  have HC6 := asd H
  clear H
  go_enter Try.func6, Try.ntmps6
  go_upto_region 4 with (first | ((with_reducible refine gate_dst (N := 1) rfl ?_); refine box_event ?hg (N := 1) ?hd (cs := #[.slice A0_0 l0_0.length c0_0, .slice A0_1 l0_1.length c0_1, .int .i64 a0_2, .int .i64 a0_3]) (t := 25) ?hr ?_; (case hd => rfl); (case hg => rfl); (case hr => first | (go_simp; done) | (go_simp; rfl)); intro gb685 hg w7 hbox hb; have n0_ := asd (below_step (skB HB.out) hb); have n1_ := asd (hbox); have n2_ := asd ((by rw [hg]; exact (below_size (skB HB.out)) : w.heap.size ≤ gb685)); have n3_ := asd ((by rw [hg]; exact (below_size (skB HB.out)) : w.heap.size ≤ gb685)); clear HB; have HB := n0_; have BK685 := n1_; have GW685 := n2_; have GE685 := n3_; clear n0_ n1_ n2_ n3_; clear hb hbox hg) | ((with_reducible refine gate_callee (f := 8) rfl ?_); refine goesL_ (some 14) rfl rfl Try.func8 (by kernel_rfl) rfl #[] rfl ags ?_; (with_reducible refine (larchlaw17_fixed.calls k  true _ A2.out).mono ?_); rintro e w8 ⟨rfl, hb⟩; refine ⟨_, rfl, ?_⟩; have n0_ := asd (blk_below (g := gb685) (o := .cells #[.slice A0_0 l0_0.length c0_0, .slice A0_1 l0_1.length c0_1, .int .i64 a0_2, .int .i64 a0_3] 25 (0, 0)) (skK BK685.out) hb); have n1_ := asd (below_step (skG HB.out GE685.out GE685.out) hb); clear BK685; clear HB; have BK685 := n0_; have HB := n1_; clear n0_ n1_; (try clear hb); (try clear hb2); (try clear hk); (try clear hi); obtain ⟨hcz9_0, hcz9_1, hcz9_2, hcz9_3, hfz9_0, hfz9_1, hfz9_2, hfz9_3⟩ := bk4 BK685.out) | ((with_reducible refine gate_callee (f := 10) rfl ?_); refine goesL_ (some 19) rfl rfl Try.func10 (by kernel_rfl) rfl #[.slice A0_0 l0_0.length c0_0] rfl ags ?_; (with_reducible refine (larchlaw17_copied.calls _ _ l0_0 t687 _ ?side1 ?side2 A4.out).mono ?_); (case side1 => exact skC (Kd.C_below HR0_0.out HB.out)); (case side2 => exact HC0_0.out); rintro e w10 ⟨v688, rfl, ho0, hb⟩; refine ⟨_, rfl, ?_⟩; have n0_ := asd (Kd.R_lower ho0 (below_size (skG HB.out GE685.out GE685.out))); have n1_ := asd (blk_below (g := gb685) (o := .cells #[.slice A0_0 l0_0.length c0_0, .slice A0_1 l0_1.length c0_1, .int .i64 a0_2, .int .i64 a0_3] 25 (0, 0)) (skK BK685.out) hb); have n2_ := asd (below_step (skG HB.out GE685.out GE685.out) hb); clear BK685; clear HB; have HO689 := n0_; have BK685 := n1_; have HB := n2_; clear n0_ n1_ n2_; (try clear hb); (try clear hb2); (try clear hk); (try clear hi); (try clear ho0); obtain ⟨Ao11, co11, eo11⟩ := Kd.R_slice HO689.out; subst eo11) | ((with_reducible refine gate_callee (f := 30) rfl ?_); refine goesL_ (some 20) rfl rfl Try.func30 (by kernel_rfl) rfl #[.slice Ao11 t687.length co11] rfl ags ?_; (with_reducible refine (weigh_Sound.calls k _ _ t687 t690 t691 _ ?side1 ?side2 A5.out).mono ?_); (case side1 => exact skC (Kd.R_reads' HO689.out).2.2); (case side2 => exact (Kd.R_reads' HO689.out).2.1); rintro e w12 ⟨rfl, hb⟩; refine ⟨_, rfl, ?_⟩; have n0_ := asd (Kd.R_below (skR HO689.out) hb); have n1_ := asd (blk_below (g := gb685) (o := .cells #[.slice A0_0 l0_0.length c0_0, .slice A0_1 l0_1.length c0_1, .int .i64 a0_2, .int .i64 a0_3] 25 (0, 0)) (skK BK685.out) hb); have n2_ := asd (below_step (skG HB.out GE685.out GE685.out) hb); clear HO689; clear BK685; clear HB; have HO689 := n0_; have BK685 := n1_; have HB := n2_; clear n0_ n1_ n2_; (try clear hb); (try clear hb2); (try clear hk); (try clear hi)))
  (try simp only [Act.put, List.setIfInBounds_toArray, List.set_cons_zero, List.set_cons_succ])
  go_cut [28] (fun v28 wc => ∃ (kq : Nat) (x28_5 : Bool), v28 = .bool x28_5 ∧ Aside0 (larchlaw17_WeighBound.j0 kq t690 x28_5 l0_0 l0_1 a0_2 a0_3 = some r) ∧ Aside0 (kq ≤ k) ∧ Aside0 (wc.heap[gb685]? = some (.cells #[(.slice A0_0 l0_0.length c0_0), (.slice A0_1 l0_1.length c0_1), .int .i64 a0_2, .int .i64 a0_3] 25 (0, 0))) ∧ Aside0 (Below w.heap.size w wc))
  case first =>
   have H := HC6.out
   clear HC6
   by_cases c13 : t691 = 0
   ·
    rw [if_pos c13] at H
    have c13b0 : (t691 == 0) = true := beq_iff_eq.mpr c13
    have c13b1 : (t691 != 0) = false := bne_eq_false_iff_eq.mpr c13
    clear c13
    (first | rw [c13b0] | (simp only [i64_w, i32_w]; rw [c13b0]) | skip)
    have H' := asd H
    clear H
    go_wp2
    go_meet
    case rel => exact ⟨_, (!t690), rs, H', ⟨by first | omega | exact Nat.le_refl _⟩, ⟨skK BK685.out⟩, ⟨skG HB.out GE685.out GE685.out⟩⟩
   ·
    rw [if_neg c13] at H
    have c13b0 : (t691 == 0) = false := beq_eq_false_iff_ne.mpr c13
    have c13b1 : (t691 != 0) = true := bne_iff_ne.mpr c13
    (first | rw [c13b0] | (simp only [i64_w, i32_w]; rw [c13b0]) | skip)
    have H' := asd H
    clear H
    go_wp2
    go_meet
    case rel => exact ⟨_, (true), rs, H', ⟨by first | omega | exact Nat.le_refl _⟩, ⟨skK BK685.out⟩, ⟨skG HB.out GE685.out GE685.out⟩⟩
  case rest =>
   clear HC6
   try clear c1
   try clear p2
   try clear c3
   try clear c6
   try clear c8
   try clear c10
   try clear c13
   try clear c13b0
   try clear c13b1
   try clear hcz9_0
   try clear hcz9_1
   try clear hcz9_2
   try clear hcz9_3
   try clear hfz9_0
   try clear hfz9_1
   try clear hfz9_2
   try clear hfz9_3
   obtain ⟨kq, x28_5, rfl, HA, HJ5, BK685, HB⟩ := hcut
   cases kq with
   | zero => exact absurd HA.out (by simp [larchlaw17_WeighBound.j0])
   | succ kj5 =>
    have H := HA.out
    clear HA
    simp only [larchlaw17_WeighBound.j0] at H
    by_cases c14 : x28_5 = true
    ·
     subst c14
     have H1 : (some (!t690)) = some r := by rw [if_pos rfl] at H; exact H
     clear H
     have H := H1
     clear H1
     obtain rfl := Option.some.inj H
     go_wp2
     go_ret
     exact ⟨re, skG HB.out GE685.out GE685.out⟩
    ·
     replace c14 := Bool.eq_false_iff.mpr c14
     subst c14
     have H1 : ((larchlaw17_copied.f l0_0).bind fun t692 => ((weigh_Violations.f kj5 t692).bind fun bt695 => ((larchlaw17_copied.f l0_0).bind fun t697 => ((weigh_Even.f kj5 t697).bind fun bt700 => (if bt695.2 = 0 then (if bt700.2.2 = 0 then (larchlaw17_WeighBound.j1 kj5 bt695.1 bt700.1 (!bt700.2.1) l0_0 l0_1 a0_2 a0_3) else (larchlaw17_WeighBound.j1 kj5 bt695.1 bt700.1 true l0_0 l0_1 a0_2 a0_3)) else (larchlaw17_WeighBound.j1 kj5 bt695.1 bt700.1 true l0_0 l0_1 a0_2 a0_3)))))) = some r := by rw [if_neg (show ¬ (false = true) by decide)] at H; exact H
     clear H
     have H := H1
     clear H1
     replace H := Option.bind_eq_some_iff.mp H
     obtain ⟨t692, A150, H⟩ := H
     replace H : ((weigh_Violations.f kj5 t692).bind fun bt695 => ((larchlaw17_copied.f l0_0).bind fun t697 => ((weigh_Even.f kj5 t697).bind fun bt700 => (if bt695.2 = 0 then (if bt700.2.2 = 0 then (larchlaw17_WeighBound.j1 kj5 bt695.1 bt700.1 (!bt700.2.1) l0_0 l0_1 a0_2 a0_3) else (larchlaw17_WeighBound.j1 kj5 bt695.1 bt700.1 true l0_0 l0_1 a0_2 a0_3)) else (larchlaw17_WeighBound.j1 kj5 bt695.1 bt700.1 true l0_0 l0_1 a0_2 a0_3))))) = some r := H
     have A15 := asd A150
     clear A150
     replace H := Option.bind_eq_some_iff.mp H
     obtain ⟨⟨t695, t696⟩, A160, H⟩ := H
     replace H : ((larchlaw17_copied.f l0_0).bind fun t697 => ((weigh_Even.f kj5 t697).bind fun bt700 => (if t696 = 0 then (if bt700.2.2 = 0 then (larchlaw17_WeighBound.j1 kj5 t695 bt700.1 (!bt700.2.1) l0_0 l0_1 a0_2 a0_3) else (larchlaw17_WeighBound.j1 kj5 t695 bt700.1 true l0_0 l0_1 a0_2 a0_3)) else (larchlaw17_WeighBound.j1 kj5 t695 bt700.1 true l0_0 l0_1 a0_2 a0_3)))) = some r := H
     have A16 := asd A160
     clear A160
     replace H := Option.bind_eq_some_iff.mp H
     obtain ⟨t697, A170, H⟩ := H
     replace H : ((weigh_Even.f kj5 t697).bind fun bt700 => (if t696 = 0 then (if bt700.2.2 = 0 then (larchlaw17_WeighBound.j1 kj5 t695 bt700.1 (!bt700.2.1) l0_0 l0_1 a0_2 a0_3) else (larchlaw17_WeighBound.j1 kj5 t695 bt700.1 true l0_0 l0_1 a0_2 a0_3)) else (larchlaw17_WeighBound.j1 kj5 t695 bt700.1 true l0_0 l0_1 a0_2 a0_3))) = some r := H
     have A17 := asd A170
     clear A170
     replace H := Option.bind_eq_some_iff.mp H
     obtain ⟨⟨t700, t701, t702⟩, A180, H⟩ := H
     replace H : (if t696 = 0 then (if t702 = 0 then (larchlaw17_WeighBound.j1 kj5 t695 t700 (!t701) l0_0 l0_1 a0_2 a0_3) else (larchlaw17_WeighBound.j1 kj5 t695 t700 true l0_0 l0_1 a0_2 a0_3)) else (larchlaw17_WeighBound.j1 kj5 t695 t700 true l0_0 l0_1 a0_2 a0_3)) = some r := H
     have A18 := asd A180
     clear A180
     have HC19 := asd H
     clear H
     obtain ⟨hcz20_0, hcz20_1, hcz20_2, hcz20_3, hfz20_0, hfz20_1, hfz20_2, hfz20_3⟩ := bk4 BK685.out
     go_upto_region 8 with (first | ((with_reducible refine gate_callee (f := 10) rfl ?_); refine goesL_ (some 34) rfl rfl Try.func10 (by kernel_rfl) rfl #[.slice A0_0 l0_0.length c0_0] rfl ags ?_; (with_reducible refine (larchlaw17_copied.calls _ _ l0_0 t692 _ ?side1 ?side2 A15.out).mono ?_); (case side1 => exact skC (Kd.C_below HR0_0.out HB.out)); (case side2 => exact HC0_0.out); rintro e w21 ⟨v693, rfl, ho0, hb⟩; refine ⟨_, rfl, ?_⟩; have n0_ := asd (Kd.R_lower ho0 (below_size (skG HB.out GE685.out GE685.out))); have n1_ := asd (blk_below (g := gb685) (o := .cells #[.slice A0_0 l0_0.length c0_0, .slice A0_1 l0_1.length c0_1, .int .i64 a0_2, .int .i64 a0_3] 25 (0, 0)) (skK BK685.out) hb); have n2_ := asd (below_step (skG HB.out GE685.out GE685.out) hb); clear BK685; clear HB; have HO694 := n0_; have BK685 := n1_; have HB := n2_; clear n0_ n1_ n2_; (try clear hb); (try clear hb2); (try clear hk); (try clear hi); (try clear ho0); obtain ⟨Ao22, co22, eo22⟩ := Kd.R_slice HO694.out; subst eo22) | ((with_reducible refine gate_callee (f := 15) rfl ?_); refine goesL_ (some 35) rfl rfl Try.func15 (by kernel_rfl) rfl #[.slice Ao22 t692.length co22] rfl ags ?_; (with_reducible refine (weigh_Violations.calls kj5 _ _ t692 t695 t696 _ ?side1 ?side2 A16.out).mono ?_); (case side1 => exact skC (Kd.R_reads' HO694.out).2.2); (case side2 => exact (Kd.R_reads' HO694.out).2.1); rintro e w23 ⟨rfl, hb⟩; refine ⟨_, rfl, ?_⟩; have n0_ := asd (Kd.R_below (skR HO694.out) hb); have n1_ := asd (blk_below (g := gb685) (o := .cells #[.slice A0_0 l0_0.length c0_0, .slice A0_1 l0_1.length c0_1, .int .i64 a0_2, .int .i64 a0_3] 25 (0, 0)) (skK BK685.out) hb); have n2_ := asd (below_step (skG HB.out GE685.out GE685.out) hb); clear HO694; clear BK685; clear HB; have HO694 := n0_; have BK685 := n1_; have HB := n2_; clear n0_ n1_ n2_; (try clear hb); (try clear hb2); (try clear hk); (try clear hi); obtain ⟨hcz24_0, hcz24_1, hcz24_2, hcz24_3, hfz24_0, hfz24_1, hfz24_2, hfz24_3⟩ := bk4 BK685.out) | ((with_reducible refine gate_callee (f := 10) rfl ?_); refine goesL_ (some 41) rfl rfl Try.func10 (by kernel_rfl) rfl #[.slice A0_0 l0_0.length c0_0] rfl ags ?_; (with_reducible refine (larchlaw17_copied.calls _ _ l0_0 t697 _ ?side1 ?side2 A17.out).mono ?_); (case side1 => exact skC (Kd.C_below HR0_0.out HB.out)); (case side2 => exact HC0_0.out); rintro e w25 ⟨v698, rfl, ho0, hb⟩; refine ⟨_, rfl, ?_⟩; have n0_ := asd (Kd.R_elder' (skR HO694.out) (Kd.R_base ho0) hb); have n1_ := asd (Kd.R_lower (Kd.R_new' ho0 (Kd.R_lt (skR HO694.out))) (below_size (skG HB.out GE685.out GE685.out))); have n2_ := asd (blk_below (g := gb685) (o := .cells #[.slice A0_0 l0_0.length c0_0, .slice A0_1 l0_1.length c0_1, .int .i64 a0_2, .int .i64 a0_3] 25 (0, 0)) (skK BK685.out) hb); have n3_ := asd (below_step (skG HB.out GE685.out GE685.out) hb); clear HO694; clear BK685; clear HB; have HO694 := n0_; have HO699 := n1_; have BK685 := n2_; have HB := n3_; clear n0_ n1_ n2_ n3_; (try clear hb); (try clear hb2); (try clear hk); (try clear hi); (try clear ho0); obtain ⟨Ao26, co26, eo26⟩ := Kd.R_slice HO699.out; subst eo26) | ((with_reducible refine gate_callee (f := 32) rfl ?_); refine goesL_ (some 42) rfl rfl Try.func32 (by kernel_rfl) rfl #[.slice Ao26 t697.length co26] rfl ags ?_; (with_reducible refine (weigh_Even.calls kj5 _ _ t697 t700 t701 t702 _ ?side1 ?side2 A18.out).mono ?_); (case side1 => exact skC (Kd.R_reads' HO699.out).2.2); (case side2 => exact (Kd.R_reads' HO699.out).2.1); rintro e w27 ⟨rfl, hb⟩; refine ⟨_, rfl, ?_⟩; have n0_ := asd (Kd.R_below (skR HO694.out) hb); have n1_ := asd (Kd.R_below (skR HO699.out) hb); have n2_ := asd (blk_below (g := gb685) (o := .cells #[.slice A0_0 l0_0.length c0_0, .slice A0_1 l0_1.length c0_1, .int .i64 a0_2, .int .i64 a0_3] 25 (0, 0)) (skK BK685.out) hb); have n3_ := asd (below_step (skG HB.out GE685.out GE685.out) hb); clear HO694; clear HO699; clear BK685; clear HB; have HO694 := n0_; have HO699 := n1_; have BK685 := n2_; have HB := n3_; clear n0_ n1_ n2_ n3_; (try clear hb); (try clear hb2); (try clear hk); (try clear hi)))
     (try simp only [Act.put, List.setIfInBounds_toArray, List.set_cons_zero, List.set_cons_succ])
     go_cut [55] (fun v55 wc => ∃ (kq : Nat) (x55_18 : Bool), v55 = .bool x55_18 ∧ Aside0 (larchlaw17_WeighBound.j1 kq t695 t700 x55_18 l0_0 l0_1 a0_2 a0_3 = some r) ∧ Aside0 (kq ≤ kj5) ∧ Aside0 (wc.heap[gb685]? = some (.cells #[(.slice A0_0 l0_0.length c0_0), (.slice A0_1 l0_1.length c0_1), .int .i64 a0_2, .int .i64 a0_3] 25 (0, 0))) ∧ Aside0 (Below w.heap.size w wc))
     case first =>
      have H := HC19.out
      clear HC19
      by_cases c28 : t696 = 0
      ·
       rw [if_pos c28] at H
       have c28b0 : (t696 == 0) = true := beq_iff_eq.mpr c28
       have c28b1 : (t696 != 0) = false := bne_eq_false_iff_eq.mpr c28
       clear c28
       (first | rw [c28b0] | (simp only [i64_w, i32_w]; rw [c28b0]) | skip)
       by_cases c29 : t702 = 0
       ·
        rw [if_pos c29] at H
        have c29b0 : (t702 == 0) = true := beq_iff_eq.mpr c29
        have c29b1 : (t702 != 0) = false := bne_eq_false_iff_eq.mpr c29
        clear c29
        have H' := asd H
        clear H
        go_wp2
        go_meet
        case rel => exact ⟨_, (!t701), rs, H', ⟨by have := HJ5.out; first | omega | exact Nat.le_refl _⟩, ⟨skK BK685.out⟩, ⟨skG HB.out GE685.out GE685.out⟩⟩
       ·
        rw [if_neg c29] at H
        have c29b0 : (t702 == 0) = false := beq_eq_false_iff_ne.mpr c29
        have c29b1 : (t702 != 0) = true := bne_iff_ne.mpr c29
        have H' := asd H
        clear H
        go_wp2
        go_meet
        case rel => exact ⟨_, (true), rs, H', ⟨by have := HJ5.out; first | omega | exact Nat.le_refl _⟩, ⟨skK BK685.out⟩, ⟨skG HB.out GE685.out GE685.out⟩⟩
      ·
       rw [if_neg c28] at H
       have c28b0 : (t696 == 0) = false := beq_eq_false_iff_ne.mpr c28
       have c28b1 : (t696 != 0) = true := bne_iff_ne.mpr c28
       (first | rw [c28b0] | (simp only [i64_w, i32_w]; rw [c28b0]) | skip)
       have H' := asd H
       clear H
       go_wp2
       go_meet
       case rel => exact ⟨_, (true), rs, H', ⟨by have := HJ5.out; first | omega | exact Nat.le_refl _⟩, ⟨skK BK685.out⟩, ⟨skG HB.out GE685.out GE685.out⟩⟩
     case rest =>
      clear HC19
      try clear c1
      try clear c2
      try clear p2
      try clear c3
      try clear c6
      try clear c8
      try clear c10
      try clear c13
      try clear c13b0
      try clear c13b1
      try clear c14
      try clear c15
      try clear c28
      try clear c28b0
      try clear c28b1
      try clear c29
      try clear c29b0
      try clear c29b1
      try clear hcz20_0
      try clear hcz20_1
      try clear hcz20_2
      try clear hcz20_3
      try clear hcz24_0
      try clear hcz24_1
      try clear hcz24_2
      try clear hcz24_3
      try clear hcz9_0
      try clear hcz9_1
      try clear hcz9_2
      try clear hcz9_3
      try clear hfz20_0
      try clear hfz20_1
      try clear hfz20_2
      try clear hfz20_3
      try clear hfz24_0
      try clear hfz24_1
      try clear hfz24_2
      try clear hfz24_3
      try clear hfz9_0
      try clear hfz9_1
      try clear hfz9_2
      try clear hfz9_3
      try clear p2
      obtain ⟨kq, x55_18, rfl, HA, HJ18, BK685, HB⟩ := hcut
      cases kq with
      | zero => exact absurd HA.out (by simp [larchlaw17_WeighBound.j1])
      | succ kj18 =>
       have H := HA.out
       clear HA
       simp only [larchlaw17_WeighBound.j1] at H
       by_cases c30 : x55_18 = true
       ·
        subst c30
        have H1 : (none) = some r := by rw [if_pos rfl] at H; exact H
        clear H
        have H := H1
        clear H1
        exact absurd H (by simp)
       ·
        replace c30 := Bool.eq_false_iff.mpr c30
        subst c30
        have H1 : (if t695 > 0 then (some true) else ((larchlaw17_copied.f l0_0).bind fun t703 => ((weigh_Fits.f kj18 t703).bind fun bt706 => ((larchlaw17_copied.f l0_0).bind fun t708 => ((weigh_Deep.f kj18 t708).bind fun bt711 => ((larchref17_Leaves.f kj18 l0_0).bind fun t713 => (if bt706.2 = 0 then (if bt711.2 = 0 then (if bt706.1 = true then (if (t713.length : Int) = 0 then (larchlaw17_WeighBound.j2 kj18 t700 bt711.1 (t713.length : Int) (t700 != 0)) else (larchlaw17_WeighBound.j2 kj18 t700 bt711.1 (t713.length : Int) false)) else (larchlaw17_WeighBound.j2 kj18 t700 bt711.1 (t713.length : Int) true)) else (larchlaw17_WeighBound.j2 kj18 t700 bt711.1 (t713.length : Int) true)) else (larchlaw17_WeighBound.j2 kj18 t700 bt711.1 (t713.length : Int) true)))))))) = some r := by rw [if_neg (show ¬ (false = true) by decide)] at H; exact H
        clear H
        have H := H1
        clear H1
        by_cases c31 : t695 > 0
        ·
         rw [if_pos c31] at H
         have c31b0 : decide (0 < t695) = true := decide_eq_true c31
         clear c31
         obtain rfl := Option.some.inj H
         go_wp2
         go_ret
         exact ⟨re, skG HB.out GE685.out GE685.out⟩
        ·
         rw [if_neg c31] at H
         have c31b0 : decide (0 < t695) = false := decide_eq_false c31
         clear c31
         replace H := Option.bind_eq_some_iff.mp H
         obtain ⟨t703, A320, H⟩ := H
         replace H : ((weigh_Fits.f kj18 t703).bind fun bt706 => ((larchlaw17_copied.f l0_0).bind fun t708 => ((weigh_Deep.f kj18 t708).bind fun bt711 => ((larchref17_Leaves.f kj18 l0_0).bind fun t713 => (if bt706.2 = 0 then (if bt711.2 = 0 then (if bt706.1 = true then (if (t713.length : Int) = 0 then (larchlaw17_WeighBound.j2 kj18 t700 bt711.1 (t713.length : Int) (t700 != 0)) else (larchlaw17_WeighBound.j2 kj18 t700 bt711.1 (t713.length : Int) false)) else (larchlaw17_WeighBound.j2 kj18 t700 bt711.1 (t713.length : Int) true)) else (larchlaw17_WeighBound.j2 kj18 t700 bt711.1 (t713.length : Int) true)) else (larchlaw17_WeighBound.j2 kj18 t700 bt711.1 (t713.length : Int) true)))))) = some r := H
         have A32 := asd A320
         clear A320
         replace H := Option.bind_eq_some_iff.mp H
         obtain ⟨⟨t706, t707⟩, A330, H⟩ := H
         replace H : ((larchlaw17_copied.f l0_0).bind fun t708 => ((weigh_Deep.f kj18 t708).bind fun bt711 => ((larchref17_Leaves.f kj18 l0_0).bind fun t713 => (if t707 = 0 then (if bt711.2 = 0 then (if t706 = true then (if (t713.length : Int) = 0 then (larchlaw17_WeighBound.j2 kj18 t700 bt711.1 (t713.length : Int) (t700 != 0)) else (larchlaw17_WeighBound.j2 kj18 t700 bt711.1 (t713.length : Int) false)) else (larchlaw17_WeighBound.j2 kj18 t700 bt711.1 (t713.length : Int) true)) else (larchlaw17_WeighBound.j2 kj18 t700 bt711.1 (t713.length : Int) true)) else (larchlaw17_WeighBound.j2 kj18 t700 bt711.1 (t713.length : Int) true))))) = some r := H
         have A33 := asd A330
         clear A330
         replace H := Option.bind_eq_some_iff.mp H
         obtain ⟨t708, A340, H⟩ := H
         replace H : ((weigh_Deep.f kj18 t708).bind fun bt711 => ((larchref17_Leaves.f kj18 l0_0).bind fun t713 => (if t707 = 0 then (if bt711.2 = 0 then (if t706 = true then (if (t713.length : Int) = 0 then (larchlaw17_WeighBound.j2 kj18 t700 bt711.1 (t713.length : Int) (t700 != 0)) else (larchlaw17_WeighBound.j2 kj18 t700 bt711.1 (t713.length : Int) false)) else (larchlaw17_WeighBound.j2 kj18 t700 bt711.1 (t713.length : Int) true)) else (larchlaw17_WeighBound.j2 kj18 t700 bt711.1 (t713.length : Int) true)) else (larchlaw17_WeighBound.j2 kj18 t700 bt711.1 (t713.length : Int) true)))) = some r := H
         have A34 := asd A340
         clear A340
         replace H := Option.bind_eq_some_iff.mp H
         obtain ⟨⟨t711, t712⟩, A350, H⟩ := H
         replace H : ((larchref17_Leaves.f kj18 l0_0).bind fun t713 => (if t707 = 0 then (if t712 = 0 then (if t706 = true then (if (t713.length : Int) = 0 then (larchlaw17_WeighBound.j2 kj18 t700 t711 (t713.length : Int) (t700 != 0)) else (larchlaw17_WeighBound.j2 kj18 t700 t711 (t713.length : Int) false)) else (larchlaw17_WeighBound.j2 kj18 t700 t711 (t713.length : Int) true)) else (larchlaw17_WeighBound.j2 kj18 t700 t711 (t713.length : Int) true)) else (larchlaw17_WeighBound.j2 kj18 t700 t711 (t713.length : Int) true))) = some r := H
         have A35 := asd A350
         clear A350
         replace H := Option.bind_eq_some_iff.mp H
         obtain ⟨t713, A360, H⟩ := H
         replace H : (if t707 = 0 then (if t712 = 0 then (if t706 = true then (if (t713.length : Int) = 0 then (larchlaw17_WeighBound.j2 kj18 t700 t711 (t713.length : Int) (t700 != 0)) else (larchlaw17_WeighBound.j2 kj18 t700 t711 (t713.length : Int) false)) else (larchlaw17_WeighBound.j2 kj18 t700 t711 (t713.length : Int) true)) else (larchlaw17_WeighBound.j2 kj18 t700 t711 (t713.length : Int) true)) else (larchlaw17_WeighBound.j2 kj18 t700 t711 (t713.length : Int) true)) = some r := H
         have A36 := asd A360
         clear A360
         have HC37 := asd H
         clear H
         obtain ⟨hcz38_0, hcz38_1, hcz38_2, hcz38_3, hfz38_0, hfz38_1, hfz38_2, hfz38_3⟩ := bk4 BK685.out
         go_upto_region 15 with (first | ((with_reducible refine gate_callee (f := 10) rfl ?_); refine goesL_ (some 61) rfl rfl Try.func10 (by kernel_rfl) rfl #[.slice A0_0 l0_0.length c0_0] rfl ags ?_; (with_reducible refine (larchlaw17_copied.calls _ _ l0_0 t703 _ ?side1 ?side2 A32.out).mono ?_); (case side1 => exact skC (Kd.C_below HR0_0.out HB.out)); (case side2 => exact HC0_0.out); rintro e w39 ⟨v704, rfl, ho0, hb⟩; refine ⟨_, rfl, ?_⟩; have n0_ := asd (Kd.R_lower ho0 (below_size (skG HB.out GE685.out GE685.out))); have n1_ := asd (blk_below (g := gb685) (o := .cells #[.slice A0_0 l0_0.length c0_0, .slice A0_1 l0_1.length c0_1, .int .i64 a0_2, .int .i64 a0_3] 25 (0, 0)) (skK BK685.out) hb); have n2_ := asd (below_step (skG HB.out GE685.out GE685.out) hb); clear BK685; clear HB; have HO705 := n0_; have BK685 := n1_; have HB := n2_; clear n0_ n1_ n2_; (try clear hb); (try clear hb2); (try clear hk); (try clear hi); (try clear ho0); obtain ⟨Ao40, co40, eo40⟩ := Kd.R_slice HO705.out; subst eo40) | ((with_reducible refine gate_callee (f := 31) rfl ?_); refine goesL_ (some 62) rfl rfl Try.func31 (by kernel_rfl) rfl #[.slice Ao40 t703.length co40] rfl ags ?_; (with_reducible refine (weigh_Fits.calls kj18 _ _ t703 t706 t707 _ ?side1 ?side2 A33.out).mono ?_); (case side1 => exact skC (Kd.R_reads' HO705.out).2.2); (case side2 => exact (Kd.R_reads' HO705.out).2.1); rintro e w41 ⟨rfl, hb⟩; refine ⟨_, rfl, ?_⟩; have n0_ := asd (Kd.R_below (skR HO705.out) hb); have n1_ := asd (blk_below (g := gb685) (o := .cells #[.slice A0_0 l0_0.length c0_0, .slice A0_1 l0_1.length c0_1, .int .i64 a0_2, .int .i64 a0_3] 25 (0, 0)) (skK BK685.out) hb); have n2_ := asd (below_step (skG HB.out GE685.out GE685.out) hb); clear HO705; clear BK685; clear HB; have HO705 := n0_; have BK685 := n1_; have HB := n2_; clear n0_ n1_ n2_; (try clear hb); (try clear hb2); (try clear hk); (try clear hi); obtain ⟨hcz42_0, hcz42_1, hcz42_2, hcz42_3, hfz42_0, hfz42_1, hfz42_2, hfz42_3⟩ := bk4 BK685.out) | ((with_reducible refine gate_callee (f := 10) rfl ?_); refine goesL_ (some 68) rfl rfl Try.func10 (by kernel_rfl) rfl #[.slice A0_0 l0_0.length c0_0] rfl ags ?_; (with_reducible refine (larchlaw17_copied.calls _ _ l0_0 t708 _ ?side1 ?side2 A34.out).mono ?_); (case side1 => exact skC (Kd.C_below HR0_0.out HB.out)); (case side2 => exact HC0_0.out); rintro e w43 ⟨v709, rfl, ho0, hb⟩; refine ⟨_, rfl, ?_⟩; have n0_ := asd (Kd.R_elder' (skR HO705.out) (Kd.R_base ho0) hb); have n1_ := asd (Kd.R_lower (Kd.R_new' ho0 (Kd.R_lt (skR HO705.out))) (below_size (skG HB.out GE685.out GE685.out))); have n2_ := asd (blk_below (g := gb685) (o := .cells #[.slice A0_0 l0_0.length c0_0, .slice A0_1 l0_1.length c0_1, .int .i64 a0_2, .int .i64 a0_3] 25 (0, 0)) (skK BK685.out) hb); have n3_ := asd (below_step (skG HB.out GE685.out GE685.out) hb); clear HO705; clear BK685; clear HB; have HO705 := n0_; have HO710 := n1_; have BK685 := n2_; have HB := n3_; clear n0_ n1_ n2_ n3_; (try clear hb); (try clear hb2); (try clear hk); (try clear hi); (try clear ho0); obtain ⟨Ao44, co44, eo44⟩ := Kd.R_slice HO710.out; subst eo44) | ((with_reducible refine gate_callee (f := 33) rfl ?_); refine goesL_ (some 69) rfl rfl Try.func33 (by kernel_rfl) rfl #[.slice Ao44 t708.length co44] rfl ags ?_; (with_reducible refine (weigh_Deep.calls kj18 _ _ t708 t711 t712 _ ?side1 ?side2 A35.out).mono ?_); (case side1 => exact skC (Kd.R_reads' HO710.out).2.2); (case side2 => exact (Kd.R_reads' HO710.out).2.1); rintro e w45 ⟨rfl, hb⟩; refine ⟨_, rfl, ?_⟩; have n0_ := asd (Kd.R_below (skR HO705.out) hb); have n1_ := asd (Kd.R_below (skR HO710.out) hb); have n2_ := asd (blk_below (g := gb685) (o := .cells #[.slice A0_0 l0_0.length c0_0, .slice A0_1 l0_1.length c0_1, .int .i64 a0_2, .int .i64 a0_3] 25 (0, 0)) (skK BK685.out) hb); have n3_ := asd (below_step (skG HB.out GE685.out GE685.out) hb); clear HO705; clear HO710; clear BK685; clear HB; have HO705 := n0_; have HO710 := n1_; have BK685 := n2_; have HB := n3_; clear n0_ n1_ n2_ n3_; (try clear hb); (try clear hb2); (try clear hk); (try clear hi); obtain ⟨hcz46_0, hcz46_1, hcz46_2, hcz46_3, hfz46_0, hfz46_1, hfz46_2, hfz46_3⟩ := bk4 BK685.out) | ((with_reducible refine gate_callee (f := 34) rfl ?_); refine goesL_ (some 74) rfl rfl Try.func34 (by kernel_rfl) rfl #[.slice A0_0 l0_0.length c0_0] rfl ags ?_; (with_reducible refine (larchref17_Leaves.calls kj18 _ _ l0_0 t713 _ ?side1 ?side2 A36.out).mono ?_); (case side1 => exact skC (Kd.C_below HR0_0.out HB.out)); (case side2 => exact HC0_0.out); rintro e w47 ⟨v714, rfl, ho0, hb⟩; refine ⟨_, rfl, ?_⟩; have n0_ := asd (Kd.R_below (skR HO705.out) hb); have n1_ := asd (Kd.R_below (skR HO710.out) hb); have n2_ := asd (Kd.R_lower ho0 (below_size (skG HB.out GE685.out GE685.out))); have n3_ := asd (blk_below (g := gb685) (o := .cells #[.slice A0_0 l0_0.length c0_0, .slice A0_1 l0_1.length c0_1, .int .i64 a0_2, .int .i64 a0_3] 25 (0, 0)) (skK BK685.out) hb); have n4_ := asd (below_step (skG HB.out GE685.out GE685.out) hb); clear HO705; clear HO710; clear BK685; clear HB; have HO705 := n0_; have HO710 := n1_; have HO715 := n2_; have BK685 := n3_; have HB := n4_; clear n0_ n1_ n2_ n3_ n4_; (try clear hb); (try clear hb2); (try clear hk); (try clear hi); (try clear ho0); obtain ⟨Ao48, co48, eo48⟩ := Kd.R_slice HO715.out; subst eo48))
         (try simp only [Act.put, List.setIfInBounds_toArray, List.set_cons_zero, List.set_cons_succ])
         go_cut [93] (fun v93 wc => ∃ (kq : Nat) (x93_36 : Bool), v93 = .bool x93_36 ∧ Aside0 (larchlaw17_WeighBound.j2 kq t700 t711 (t713.length : Int) x93_36 = some r) ∧ Aside0 (kq ≤ kj18) ∧ Aside0 (wc.heap[gb685]? = some (.cells #[(.slice A0_0 l0_0.length c0_0), (.slice A0_1 l0_1.length c0_1), .int .i64 a0_2, .int .i64 a0_3] 25 (0, 0))) ∧ Aside0 (Below w.heap.size w wc))
         case first =>
          have H := HC37.out
          clear HC37
          by_cases c49 : t707 = 0
          ·
           rw [if_pos c49] at H
           have c49b0 : (t707 == 0) = true := beq_iff_eq.mpr c49
           have c49b1 : (t707 != 0) = false := bne_eq_false_iff_eq.mpr c49
           clear c49
           (first | rw [c49b0] | (simp only [i64_w, i32_w]; rw [c49b0]) | skip)
           by_cases c50 : t712 = 0
           ·
            rw [if_pos c50] at H
            have c50b0 : (t712 == 0) = true := beq_iff_eq.mpr c50
            have c50b1 : (t712 != 0) = false := bne_eq_false_iff_eq.mpr c50
            clear c50
            by_cases c51 : t706 = true
            ·
             subst c51
             have H1 : (if (t713.length : Int) = 0 then (larchlaw17_WeighBound.j2 kj18 t700 t711 (t713.length : Int) (t700 != 0)) else (larchlaw17_WeighBound.j2 kj18 t700 t711 (t713.length : Int) false)) = some r := by rw [if_pos rfl] at H; exact H
             clear H
             have H := H1
             clear H1
             by_cases c52 : (t713.length : Int) = 0
             ·
              rw [if_pos c52] at H
              have c52b0 : ((t713.length : Int) == 0) = true := beq_iff_eq.mpr c52
              have c52b1 : ((t713.length : Int) != 0) = false := bne_eq_false_iff_eq.mpr c52
              clear c52
              have H' := asd H
              clear H
              go_wp2
              go_meet
              case rel => exact ⟨_, ((t700 != 0)), rs, H', ⟨by have := HJ5.out; have := HJ18.out; first | omega | exact Nat.le_refl _⟩, ⟨skK BK685.out⟩, ⟨skG HB.out GE685.out GE685.out⟩⟩
             ·
              rw [if_neg c52] at H
              have c52b0 : ((t713.length : Int) == 0) = false := beq_eq_false_iff_ne.mpr c52
              have c52b1 : ((t713.length : Int) != 0) = true := bne_iff_ne.mpr c52
              have c52b2 : ¬ (t713 = []) := fun h_ => c52 (by rw [h_]; rfl)
              have H' := asd H
              clear H
              go_wp2
              go_meet
              case rel => exact ⟨_, (false), rs, H', ⟨by have := HJ5.out; have := HJ18.out; first | omega | exact Nat.le_refl _⟩, ⟨skK BK685.out⟩, ⟨skG HB.out GE685.out GE685.out⟩⟩
            ·
             replace c51 := Bool.eq_false_iff.mpr c51
             subst c51
             have H1 : (larchlaw17_WeighBound.j2 kj18 t700 t711 (t713.length : Int) true) = some r := by rw [if_neg (show ¬ (false = true) by decide)] at H; exact H
             clear H
             have H := H1
             clear H1
             have H' := asd H
             clear H
             go_wp2
             go_meet
             case rel => exact ⟨_, (true), rs, H', ⟨by have := HJ5.out; have := HJ18.out; first | omega | exact Nat.le_refl _⟩, ⟨skK BK685.out⟩, ⟨skG HB.out GE685.out GE685.out⟩⟩
           ·
            rw [if_neg c50] at H
            have c50b0 : (t712 == 0) = false := beq_eq_false_iff_ne.mpr c50
            have c50b1 : (t712 != 0) = true := bne_iff_ne.mpr c50
            have H' := asd H
            clear H
            go_wp2
            go_meet
            case rel => exact ⟨_, (true), rs, H', ⟨by have := HJ5.out; have := HJ18.out; first | omega | exact Nat.le_refl _⟩, ⟨skK BK685.out⟩, ⟨skG HB.out GE685.out GE685.out⟩⟩
          ·
           rw [if_neg c49] at H
           have c49b0 : (t707 == 0) = false := beq_eq_false_iff_ne.mpr c49
           have c49b1 : (t707 != 0) = true := bne_iff_ne.mpr c49
           (first | rw [c49b0] | (simp only [i64_w, i32_w]; rw [c49b0]) | skip)
           have H' := asd H
           clear H
           go_wp2
           go_meet
           case rel => exact ⟨_, (true), rs, H', ⟨by have := HJ5.out; have := HJ18.out; first | omega | exact Nat.le_refl _⟩, ⟨skK BK685.out⟩, ⟨skG HB.out GE685.out GE685.out⟩⟩
         case rest =>
          clear HC37
          try clear c1
          try clear c2
          try clear p2
          try clear c3
          try clear c4
          try clear c5
          try clear c6
          try clear c8
          try clear c10
          try clear c13
          try clear c13b0
          try clear c13b1
          try clear c14
          try clear c15
          try clear c28
          try clear c28b0
          try clear c28b1
          try clear c29
          try clear c29b0
          try clear c29b1
          try clear c30
          try clear c31
          try clear c31b0
          try clear c32
          try clear c33
          try clear c34
          try clear c49
          try clear c49b0
          try clear c49b1
          try clear c50
          try clear c50b0
          try clear c50b1
          try clear c51
          try clear c52
          try clear c52b0
          try clear c52b1
          try clear c52b2
          try clear hcz20_0
          try clear hcz20_1
          try clear hcz20_2
          try clear hcz20_3
          try clear hcz24_0
          try clear hcz24_1
          try clear hcz24_2
          try clear hcz24_3
          try clear hcz38_0
          try clear hcz38_1
          try clear hcz38_2
          try clear hcz38_3
          try clear hcz42_0
          try clear hcz42_1
          try clear hcz42_2
          try clear hcz42_3
          try clear hcz46_0
          try clear hcz46_1
          try clear hcz46_2
          try clear hcz46_3
          try clear hcz9_0
          try clear hcz9_1
          try clear hcz9_2
          try clear hcz9_3
          try clear hfz20_0
          try clear hfz20_1
          try clear hfz20_2
          try clear hfz20_3
          try clear hfz24_0
          try clear hfz24_1
          try clear hfz24_2
          try clear hfz24_3
          try clear hfz38_0
          try clear hfz38_1
          try clear hfz38_2
          try clear hfz38_3
          try clear hfz42_0
          try clear hfz42_1
          try clear hfz42_2
          try clear hfz42_3
          try clear hfz46_0
          try clear hfz46_1
          try clear hfz46_2
          try clear hfz46_3
          try clear hfz9_0
          try clear hfz9_1
          try clear hfz9_2
          try clear hfz9_3
          try clear p2
          obtain ⟨kq, x93_36, rfl, HA, HJ36, BK685, HB⟩ := hcut
          cases kq with
          | zero => exact absurd HA.out (by simp [larchlaw17_WeighBound.j2])
          | succ kj36 =>
           have H := HA.out
           clear HA
           simp only [larchlaw17_WeighBound.j2] at H
           by_cases c53 : x93_36 = true
           ·
            subst c53
            have H1 : (none) = some r := by rw [if_pos rfl] at H; exact H
            clear H
            have H := H1
            clear H1
            exact absurd H (by simp)
           ·
            replace c53 := Bool.eq_false_iff.mpr c53
            subst c53
            have H1 : (if (t713.length : Int) = 0 then (some (t711 == 1)) else (larchlaw17_WeighBound.l0 kj36 t700 t711 (t713.length : Int) 1 1)) = some r := by rw [if_neg (show ¬ (false = true) by decide)] at H; exact H
            clear H
            have H := H1
            clear H1
            by_cases c54 : (t713.length : Int) = 0
            ·
             rw [if_pos c54] at H
             have c54b0 : ((t713.length : Int) == 0) = true := beq_iff_eq.mpr c54
             have c54b1 : ((t713.length : Int) != 0) = false := bne_eq_false_iff_eq.mpr c54
             clear c54
             obtain rfl := Option.some.inj H
             go_wp2
             go_ret
             exact ⟨re, skG HB.out GE685.out GE685.out⟩
            ·
             rw [if_neg c54] at H
             have c54b0 : ((t713.length : Int) == 0) = false := beq_eq_false_iff_ne.mpr c54
             have c54b1 : ((t713.length : Int) != 0) = true := bne_iff_ne.mpr c54
             have c54b2 : ¬ (t713 = []) := fun h_ => c54 (by rw [h_]; rfl)
             have H' := asd H
             clear H
             go_wp2
             go_loopg [12, 13] kj36 (fun kq v12 v13 w' => ∃ (x12_4 : Int) (x13_4 : Int), v12 = .int .i64 x12_4 ∧ v13 = .int .i64 x13_4 ∧ Aside0 (larchlaw17_WeighBound.l0 kq t700 t711 (t713.length : Int) x12_4 x13_4 = some r) ∧ Aside0 (kq ≤ kj36) ∧ Aside0 (w'.heap[gb685]? = some (.cells #[(.slice A0_0 l0_0.length c0_0), (.slice A0_1 l0_1.length c0_1), .int .i64 a0_2, .int .i64 a0_3] 25 (0, 0))) ∧ Aside0 (Below w.heap.size w w'))
             case atStart => exact ⟨(1), (1), rs, rs, H', ⟨Nat.le_refl _⟩, ⟨skK BK685.out⟩, ⟨skG HB.out GE685.out GE685.out⟩⟩
             case round =>
              clear H'
              try clear c1
              try clear c2
              try clear p2
              try clear c3
              try clear c4
              try clear c5
              try clear c6
              try clear c8
              try clear c10
              try clear c13
              try clear c13b0
              try clear c13b1
              try clear c14
              try clear c15
              try clear c28
              try clear c28b0
              try clear c28b1
              try clear c29
              try clear c29b0
              try clear c29b1
              try clear c30
              try clear c31
              try clear c31b0
              try clear c32
              try clear c33
              try clear c34
              try clear c49
              try clear c49b0
              try clear c49b1
              try clear c50
              try clear c50b0
              try clear c50b1
              try clear c51
              try clear c52
              try clear c52b0
              try clear c52b1
              try clear c52b2
              try clear c53
              try clear c54
              try clear c54b0
              try clear c54b1
              try clear c54b2
              try clear hcz20_0
              try clear hcz20_1
              try clear hcz20_2
              try clear hcz20_3
              try clear hcz24_0
              try clear hcz24_1
              try clear hcz24_2
              try clear hcz24_3
              try clear hcz38_0
              try clear hcz38_1
              try clear hcz38_2
              try clear hcz38_3
              try clear hcz42_0
              try clear hcz42_1
              try clear hcz42_2
              try clear hcz42_3
              try clear hcz46_0
              try clear hcz46_1
              try clear hcz46_2
              try clear hcz46_3
              try clear hcz9_0
              try clear hcz9_1
              try clear hcz9_2
              try clear hcz9_3
              try clear hfz20_0
              try clear hfz20_1
              try clear hfz20_2
              try clear hfz20_3
              try clear hfz24_0
              try clear hfz24_1
              try clear hfz24_2
              try clear hfz24_3
              try clear hfz38_0
              try clear hfz38_1
              try clear hfz38_2
              try clear hfz38_3
              try clear hfz42_0
              try clear hfz42_1
              try clear hfz42_2
              try clear hfz42_3
              try clear hfz46_0
              try clear hfz46_1
              try clear hfz46_2
              try clear hfz46_3
              try clear hfz9_0
              try clear hfz9_1
              try clear hfz9_2
              try clear hfz9_3
              try clear p2
              obtain ⟨x12_4, x13_4, rfl, rfl, HA, HK4, BK685, HB⟩ := hrel
              cases gk with
              | zero => exact absurd HA.out (by simp [larchlaw17_WeighBound.l0])
              | succ k4 =>
               have H := HA.out
               clear HA
               simp only [larchlaw17_WeighBound.l0] at H
               by_cases c55 : x13_4 < t700
               ·
                rw [if_pos c55] at H
                have c55b0 : decide (x13_4 < t700) = true := decide_eq_true c55
                clear c55
                by_cases c56 : x12_4 > (t713.length : Int)
                ·
                 rw [if_pos c56] at H
                 exact absurd H (by simp)
                ·
                 rw [if_neg c56] at H
                 have c56b0 : decide ((t713.length : Int) < x12_4) = false := decide_eq_false c56
                 clear c56
                 have H' := asd H
                 clear H
                 go_wp2
                 go_roundg k4
                 case measure => have := HJ5.out; have := HJ18.out; have := HJ36.out; have := HK4.out; omega
                 case rel => exact ⟨(wrap64 (x12_4 * 2)), (wrap64 (x13_4 + 1)), rs, rs, H', ⟨by have := HJ5.out; have := HJ18.out; have := HJ36.out; have := HK4.out; omega⟩, ⟨skK BK685.out⟩, ⟨skG HB.out GE685.out GE685.out⟩⟩
               ·
                rw [if_neg c55] at H
                have c55b0 : decide (x13_4 < t700) = false := decide_eq_false c55
                clear c55
                by_cases c57 : t700 ≥ 1
                ·
                 rw [if_pos c57] at H
                 have c57b0 : decide (1 ≤ t700) = true := decide_eq_true c57
                 clear c57
                 by_cases c58 : (t713.length : Int) ≥ x12_4
                 ·
                  rw [if_pos c58] at H
                  have c58b0 : decide (x12_4 ≤ (t713.length : Int)) = true := decide_eq_true c58
                  clear c58
                  obtain rfl := Option.some.inj H
                  go_wp2
                  go_ret
                  exact ⟨re, skG HB.out GE685.out GE685.out⟩
                 ·
                  rw [if_neg c58] at H
                  exact absurd H (by simp)
                ·
                 rw [if_neg c57] at H
                 exact absurd H (by simp)
 ·
  replace c3 := Bool.eq_false_iff.mpr c3
  subst c3
  have H1 : (none) = some r := by rw [if_neg (show ¬ (false = true) by decide)] at H; exact H
  clear H
  have H := H1
  clear H1
  exact absurd H (by simp)
end Go.Proofs.Ytmmjkebboonnkaa.P
