/- P.weighMemory_holds, part 22 of 28: the contracts of the Go functions that the law calls, its own walk, and its plain law, for every input that the statement speaks of. -/
import Derived.Test.YtmmjkebboonnkaaMMe2
import Derived.Test.YtmmjkebboonnkaaMMe18
import Derived.Test.YtmmjkebboonnkaaMMe1
import Derived.Test.YtmmjkebboonnkaaMMe3
import Derived.Test.YtmmjkebboonnkaaMMe15
import Derived.Test.YtmmjkebboonnkaaMMe13
import Derived.Test.YtmmjkebboonnkaaMMe19
import Derived.Test.YtmmjkebboonnkaaMMe20
import Derived.Test.YtmmjkebboonnkaaMMe4
import Derived.Test.YtmmjkebboonnkaaMMe10
set_option linter.unusedVariables false
set_option linter.unusedSimpArgs false
/- F15 -/
namespace Go.Proofs.Ytmmjkebboonnkaa.P
open Go.RowKit Go.Proofs.YtmmjkebboonnkaaW.PrintWords Go.Proofs.YtmmjkebboonnkaaW.PrintLast Go.Proofs.YtmmjkebboonnkaaW.PrintMore
attribute [local go_sem] max2_int min2_int max_two min_two max_three min_three max_four min_four   -- for this text's walks alone
set_option linter.unusedVariables false
set_option linter.unusedSimpArgs false
def weigh_Violations.l0 : Nat → List (S49) → Int → List Int → Int → Int → Option (Int × Int)
 | 0, _, _, _, _, _ => none
 | k + 1, x0, x6, x26, x27, x28 => if x28 < x27 then (if 0 ≤ x28 then (if x28 < (x26.length : Int) then (if 0 ≤ (rd x26 x28) then (if (rd x26 x28) < (x0.length : Int) then (weigh_Violations.l0 k x0 (wrap64 (x6 + (wrap64 (((J49 x0 (rd x26 x28)).f2) - 1)))) x26 x27 (wrap64 (x28 + 1))) else (none)) else (none)) else (none)) else (none)) else (some (x6, 0))
def weigh_Violations.f (k : Nat) (l0 : List (S49)) : Option (Int × Int) := (weigh_Reds.f k l0).bind fun bt188 => (if bt188.2 = 0 then ((weigh_Overs.f k l0).bind fun bt192 => (weigh_Violations.l0 k l0 (bt188.1.length : Int) bt192.1 (bt192.1.length : Int) 0)) else (some (0, bt188.2)))
theorem weigh_Violations.mono_l : ∀ k, (∀ y0 y1 y2 y3 y4, LeO (weigh_Violations.l0 k y0 y1 y2 y3 y4) (weigh_Violations.l0 (k + 1) y0 y1 y2 y3 y4))
 | 0 => fun _ _ _ _ _ r h => by simp [weigh_Violations.l0] at h
 | k + 1 => by
  have ih0 := weigh_Violations.mono_l k
  ·
   intro y0 y1 y2 y3 y4; unfold weigh_Violations.l0
   repeat' first
   | (with_reducible exact ih0 _ _ _ _ _)
   | (with_reducible exact weigh_Overs.mono _ _)
   | (with_reducible exact weigh_Reds.mono _ _)
   | (with_reducible exact LeO.refl _)
   | (with_reducible exact LeO.none _)
   | (with_reducible refine LeO.ite ?_ ?_)
   | (with_reducible refine LeO.bind ?_ (fun _ => ?_))
   | exact ih0 _ _ _ _ _
   | exact weigh_Overs.mono _ _
   | exact weigh_Reds.mono _ _
   | exact LeO.none _
   | refine LeO.ite ?_ ?_
   | refine LeO.bind ?_ (fun _ => ?_)
theorem weigh_Violations.mono : ∀ a0 k, LeO (weigh_Violations.f k a0) (weigh_Violations.f (k + 1) a0) := by
 intro a0 k; have ih0 := weigh_Violations.mono_l k; unfold weigh_Violations.f
 repeat' first
   | (with_reducible exact ih0 _ _ _ _ _)
   | (with_reducible exact weigh_Overs.mono _ _)
   | (with_reducible exact weigh_Reds.mono _ _)
   | (with_reducible exact LeO.refl _)
   | (with_reducible exact LeO.none _)
   | (with_reducible refine LeO.ite ?_ ?_)
   | (with_reducible refine LeO.bind ?_ (fun _ => ?_))
   | exact ih0 _ _ _ _ _
   | exact weigh_Overs.mono _ _
   | exact weigh_Reds.mono _ _
   | exact LeO.none _
   | refine LeO.ite ?_ ?_
   | refine LeO.bind ?_ (fun _ => ?_)
set_option maxHeartbeats 8000000 in
set_option maxRecDepth 100000 in
theorem weigh_Violations.calls (k : Nat) (A0 : Option Addr) (c0 : Nat) (l0 : List (S49)) (r1 : Int) (r2 : Int) (w : World) (hr0 : Kd.C k49 w A0 l0.length l0) (hc0 : l0.length ≤ c0) (h : weigh_Violations.f k l0 = some (r1, r2)) :
  Calls Try.prog 15 #[.slice A0 l0.length c0] w fun e w' => e = .returned (.tuple #[.int .i64 r1, .int .i64 r2]) ∧ Below w.heap.size w w' := by
 have HR0 := asd hr0; have HC0 := asd hc0; clear hr0 hc0; have HB := asd (Below.refl w.heap.size w); have H : ((weigh_Reds.f k l0).bind fun bt188 => (if bt188.2 = 0 then ((weigh_Overs.f k l0).bind fun bt192 => (weigh_Violations.l0 k l0 (bt188.1.length : Int) bt192.1 (bt192.1.length : Int) 0)) else (some (0, bt188.2)))) = some (r1, r2) := h; clear h; replace H := Option.bind_eq_some_iff.mp H; obtain ⟨⟨t188, t189⟩, A20, H⟩ := H; replace H : (if t189 = 0 then ((weigh_Overs.f k l0).bind fun bt192 => (weigh_Violations.l0 k l0 (t188.length : Int) bt192.1 (bt192.1.length : Int) 0)) else (some (0, t189))) = some (r1, r2) := H; have A2 := asd A20; clear A20; by_cases c3 : t189 = 0
 ·
  rw [if_pos c3] at H; have c3b0 : (t189 == 0) = true := beq_iff_eq.mpr c3; have c3b1 : (t189 != 0) = false := bne_eq_false_iff_eq.mpr c3; clear c3; replace H := Option.bind_eq_some_iff.mp H; obtain ⟨⟨t192, t193⟩, A40, H⟩ := H; replace H : (weigh_Violations.l0 k l0 (t188.length : Int) t192 (t192.length : Int) 0) = some (r1, r2) := H; have A4 := asd A40; clear A40; have H' := asd H; clear H; go_enter Try.func15, Try.ntmps15
  go_wp2_with (first | ((with_reducible refine gate_callee (f := 9) rfl ?_); refine goesL_ (some 13) rfl rfl Try.func9 (by kernel_rfl) rfl #[.slice A0 l0.length c0] rfl ags ?_; (with_reducible refine (weigh_Reds.calls k _ _ l0 t188 t189 _ ?side1 ?side2 A2.out).mono ?_); (case side1 => exact skC HR0.out); (case side2 => exact HC0.out); rintro e w5 ⟨v190, rfl, ho0, hb⟩; refine ⟨_, rfl, ?_⟩; have n0_ := asd (Kd.R_lower ho0 (below_size (skB HB.out))); have n1_ := asd (below_step (skB HB.out) hb); clear HB; have HO191 := n0_; have HB := n1_; clear n0_ n1_; (try clear hb); (try clear hb2); (try clear hk); (try clear hi); (try clear ho0); obtain ⟨Ao6, co6, eo6⟩ := Kd.R_slice HO191.out; subst eo6) | ((with_reducible refine gate_callee (f := 13) rfl ?_); refine goesL_ (some 23) rfl rfl Try.func13 (by kernel_rfl) rfl #[.slice A0 l0.length c0] rfl ags ?_; (with_reducible refine (weigh_Overs.calls k _ _ l0 t192 t193 _ ?side1 ?side2 A4.out).mono ?_); (case side1 => exact skC (Kd.C_below HR0.out HB.out)); (case side2 => exact HC0.out); rintro e w7 ⟨v194, rfl, ho0, hb⟩; refine ⟨_, rfl, ?_⟩; have n0_ := asd (Kd.R_elder' (skR HO191.out) (Kd.R_base ho0) hb); have n1_ := asd (Kd.R_lower (Kd.R_new' ho0 (Kd.R_lt (skR HO191.out))) (below_size (skB HB.out))); have n2_ := asd (below_step (skB HB.out) hb); clear HO191 HB; have HO191 := n0_; have HO195 := n1_; have HB := n2_; clear n0_ n1_ n2_; (try clear hb); (try clear hb2); (try clear hk); (try clear hi); (try clear ho0); obtain ⟨Ao8, co8, eo8⟩ := Kd.R_slice HO195.out; subst eo8))
  go_loopg [6, 28] k (fun kq v6 v28 w' => ∃ (x6_1 : Int) (x28_1 : Int), v6 = .int .i64 x6_1 ∧ v28 = .int .i64 x28_1 ∧ Aside0 (weigh_Violations.l0 kq l0 x6_1 t192 (t192.length : Int) x28_1 = some (r1, r2)) ∧ Aside0 (kq ≤ k) ∧ Aside0 (Kd.R (Kd.int .i64) 3 w' w.heap.size (fun _ => True) (.slice Ao8 t192.length co8) t192) ∧ Aside0 (Below w.heap.size w w'))
  case atStart => exact ⟨((t188.length : Int)), (0), rs, rs, H', ⟨Nat.le_refl _⟩, ⟨skR (Kd.R_mono HO195.out (fun _ hk => trivial))⟩, ⟨skB HB.out⟩⟩
  case round =>
   clear H'; (try clear c1); (try clear p2); (try clear c3); (try clear c3b0); (try clear c3b1); obtain ⟨x6_1, x28_1, rfl, rfl, HA, HK1, HO_26, HB⟩ := hrel; cases gk with
   | zero => exact absurd HA.out (by simp [weigh_Violations.l0])
   | succ k1 =>
    have H := HA.out; clear HA; simp only [weigh_Violations.l0] at H; by_cases c9 : x28_1 < (t192.length : Int)
    ·
     rw [if_pos c9] at H; have c9b0 : decide (x28_1 < (t192.length : Int)) = true := decide_eq_true c9; clear c9; by_cases c10 : 0 ≤ x28_1
     ·
      rw [if_pos c10] at H; have c10b0 : decide (0 ≤ x28_1) = true := decide_eq_true c10; clear c10; by_cases c11 : x28_1 < (t192.length : Int)
      ·
       rw [if_pos c11] at H; have c11b0 : decide (x28_1 < (t192.length : Int)) = true := decide_eq_true c11; clear c11; by_cases c12 : 0 ≤ (rd t192 x28_1)
       ·
        rw [if_pos c12] at H; have c12b0 : decide (0 ≤ (rd t192 x28_1)) = true := decide_eq_true c12; clear c12; by_cases c13 : (rd t192 x28_1) < (l0.length : Int)
        ·
         rw [if_pos c13] at H; have c13b0 : decide ((rd t192 x28_1) < (l0.length : Int)) = true := decide_eq_true c13; clear c13; have H' := asd H; clear H; have p196 : 0 ≤ (x28_1 : Int) := dt; have q196 : x28_1 < (t192.length : Int) := dt; obtain ⟨ad196, e196, hx196_0⟩ := Kd.at_int (Kd.R_reads' HO_26.out).2.2 x28_1 p196 q196; cases e196; replace p196 := eq_true p196; replace q196 := eq_true q196; have p197 : 0 ≤ ((rd t192 x28_1) : Int) := dt; have q197 : (rd t192 x28_1) < (l0.length : Int) := dt; obtain ⟨ad197, e197, hx197_0, hx197_1, hx197_2, hx197_3, hx197_4, hx197_5⟩ := at_T49 HR0.out (rd t192 x28_1) p197 q197; cases e197; replace hx197_0 := skc HB.out hx197_0; replace hx197_1 := skc HB.out hx197_1; replace hx197_2 := skc HB.out hx197_2; replace hx197_3 := skc HB.out hx197_3; replace hx197_4 := skc HB.out hx197_4; replace hx197_5 := skc HB.out hx197_5; replace p197 := eq_true p197; replace q197 := eq_true q197; go_wp2
         go_roundg k1
         case measure => have := HK1.out; omega
         case rel => exact ⟨(wrap64 (x6_1 + (wrap64 (((J49 l0 (rd t192 x28_1)).f2) - 1)))), (wrap64 (x28_1 + 1)), rs, rs, H', ⟨by have := HK1.out; omega⟩, ⟨skR HO_26.out⟩, ⟨skB HB.out⟩⟩
        · rw [if_neg c13] at H; exact absurd H (by simp)
       · rw [if_neg c12] at H; exact absurd H (by simp)
      · rw [if_neg c11] at H; exact absurd H (by simp)
     · rw [if_neg c10] at H; exact absurd H (by simp)
    ·
     rw [if_neg c9] at H; have c9b0 : decide (x28_1 < (t192.length : Int)) = false := decide_eq_false c9; clear c9; simp only [Option.some.injEq, Prod.mk.injEq] at H; obtain ⟨rfl, rfl⟩ := H; go_wp2
     go_ret2
     exact ⟨re, skB HB.out⟩
 ·
  rw [if_neg c3] at H; have c3b0 : (t189 == 0) = false := beq_eq_false_iff_ne.mpr c3; have c3b1 : (t189 != 0) = true := bne_iff_ne.mpr c3; simp only [Option.some.injEq, Prod.mk.injEq] at H; obtain ⟨rfl, rfl⟩ := H; go_enter Try.func15, Try.ntmps15
  go_wp2_with (first | ((with_reducible refine gate_callee (f := 9) rfl ?_); refine goesL_ (some 13) rfl rfl Try.func9 (by kernel_rfl) rfl #[.slice A0 l0.length c0] rfl ags ?_; (with_reducible refine (weigh_Reds.calls k _ _ l0 t188 t189 _ ?side1 ?side2 A2.out).mono ?_); (case side1 => exact skC HR0.out); (case side2 => exact HC0.out); rintro e w14 ⟨v190, rfl, ho0, hb⟩; refine ⟨_, rfl, ?_⟩; have n0_ := asd (Kd.R_lower ho0 (below_size (skB HB.out))); have n1_ := asd (below_step (skB HB.out) hb); clear HB; have HO191 := n0_; have HB := n1_; clear n0_ n1_; (try clear hb); (try clear hb2); (try clear hk); (try clear hi); (try clear ho0)))
  go_ret2
  exact ⟨re, skB HB.out⟩
end Go.Proofs.Ytmmjkebboonnkaa.P
/- F26 -/
namespace Go.Proofs.Ytmmjkebboonnkaa.P
open Go.RowKit Go.Proofs.YtmmjkebboonnkaaW.PrintWords Go.Proofs.YtmmjkebboonnkaaW.PrintLast Go.Proofs.YtmmjkebboonnkaaW.PrintMore
attribute [local go_sem] max2_int min2_int max_two min_two max_three min_three max_four min_four   -- for this text's walks alone
set_option linter.unusedVariables false
set_option linter.unusedSimpArgs false
def larchlaw17_fixed.f (k : Nat)  : Option (Bool) := (larchlaw17_a.f).bind fun t249 => ((weigh_Sums.f k t249).bind fun bt252 => ((larchlaw17_a.f).bind fun t256 => ((weigh_Heavy.f k t256 (([0, 0, 3] : List Int))).bind fun bt262 => ((weigh_Violations.f k bt262.1).bind fun bt266 => ((weigh_First.f k bt262.1 9).bind fun bt268 => ((weigh_Bound.f 7).bind fun bt270 => (if bt252.2 = 0 then ((larchref17_SameInts.f k bt252.1 (([2, 2] : List Int))).bind fun t275 => (if t275 = true then (if bt262.2 = 0 then (if bt266.2 = 0 then (if bt266.1 = 3 then (if bt268.2 = 0 then (if bt268.1 = 4 then (if bt270.2 = 0 then (some (bt270.1 == 12)) else (none)) else (none)) else (none)) else (none)) else (none)) else (none)) else (none))) else (none))))))))
theorem larchlaw17_fixed.mono : ∀ k, LeO (larchlaw17_fixed.f k ) (larchlaw17_fixed.f (k + 1) ) := by
 intro  k; unfold larchlaw17_fixed.f
 repeat' first
   | (with_reducible exact larchref17_SameInts.mono _ _ _)
   | (with_reducible exact weigh_First.mono _ _ _)
   | (with_reducible exact weigh_Heavy.mono _ _ _)
   | (with_reducible exact weigh_Sums.mono _ _)
   | (with_reducible exact weigh_Violations.mono _ _)
   | (with_reducible exact LeO.refl _)
   | (with_reducible exact LeO.none _)
   | (with_reducible refine LeO.ite ?_ ?_)
   | (with_reducible refine LeO.bind ?_ (fun _ => ?_))
   | exact larchref17_SameInts.mono _ _ _
   | exact weigh_First.mono _ _ _
   | exact weigh_Heavy.mono _ _ _
   | exact weigh_Sums.mono _ _
   | exact weigh_Violations.mono _ _
   | exact LeO.none _
   | refine LeO.ite ?_ ?_
   | refine LeO.bind ?_ (fun _ => ?_)
set_option maxHeartbeats 8000000 in
set_option maxRecDepth 100000 in
theorem larchlaw17_fixed.calls (k : Nat)  (r : Bool) (w : World) (h : larchlaw17_fixed.f k  = some r) :
  Calls Try.prog 8 #[] w fun e w' => e = .returned (.bool r) ∧ Below w.heap.size w w' := by
 have HB := asd (Below.refl w.heap.size w); have H : ((larchlaw17_a.f).bind fun t249 => ((weigh_Sums.f k t249).bind fun bt252 => ((larchlaw17_a.f).bind fun t256 => ((weigh_Heavy.f k t256 (([0, 0, 3] : List Int))).bind fun bt262 => ((weigh_Violations.f k bt262.1).bind fun bt266 => ((weigh_First.f k bt262.1 9).bind fun bt268 => ((weigh_Bound.f 7).bind fun bt270 => (if bt252.2 = 0 then ((larchref17_SameInts.f k bt252.1 (([2, 2] : List Int))).bind fun t275 => (if t275 = true then (if bt262.2 = 0 then (if bt266.2 = 0 then (if bt266.1 = 3 then (if bt268.2 = 0 then (if bt268.1 = 4 then (if bt270.2 = 0 then (some (bt270.1 == 12)) else (none)) else (none)) else (none)) else (none)) else (none)) else (none)) else (none))) else (none))))))))) = some r := h; clear h; replace H := Option.bind_eq_some_iff.mp H; obtain ⟨t249, A10, H⟩ := H; replace H : ((weigh_Sums.f k t249).bind fun bt252 => ((larchlaw17_a.f).bind fun t256 => ((weigh_Heavy.f k t256 (([0, 0, 3] : List Int))).bind fun bt262 => ((weigh_Violations.f k bt262.1).bind fun bt266 => ((weigh_First.f k bt262.1 9).bind fun bt268 => ((weigh_Bound.f 7).bind fun bt270 => (if bt252.2 = 0 then ((larchref17_SameInts.f k bt252.1 (([2, 2] : List Int))).bind fun t275 => (if t275 = true then (if bt262.2 = 0 then (if bt266.2 = 0 then (if bt266.1 = 3 then (if bt268.2 = 0 then (if bt268.1 = 4 then (if bt270.2 = 0 then (some (bt270.1 == 12)) else (none)) else (none)) else (none)) else (none)) else (none)) else (none)) else (none))) else (none)))))))) = some r := H; have A1 := asd A10; clear A10; replace H := Option.bind_eq_some_iff.mp H; obtain ⟨⟨t252, t253⟩, A20, H⟩ := H; replace H : ((larchlaw17_a.f).bind fun t256 => ((weigh_Heavy.f k t256 (([0, 0, 3] : List Int))).bind fun bt262 => ((weigh_Violations.f k bt262.1).bind fun bt266 => ((weigh_First.f k bt262.1 9).bind fun bt268 => ((weigh_Bound.f 7).bind fun bt270 => (if t253 = 0 then ((larchref17_SameInts.f k t252 (([2, 2] : List Int))).bind fun t275 => (if t275 = true then (if bt262.2 = 0 then (if bt266.2 = 0 then (if bt266.1 = 3 then (if bt268.2 = 0 then (if bt268.1 = 4 then (if bt270.2 = 0 then (some (bt270.1 == 12)) else (none)) else (none)) else (none)) else (none)) else (none)) else (none)) else (none))) else (none))))))) = some r := H; have A2 := asd A20; clear A20; replace H := Option.bind_eq_some_iff.mp H; obtain ⟨t256, A30, H⟩ := H; replace H : ((weigh_Heavy.f k t256 (([0, 0, 3] : List Int))).bind fun bt262 => ((weigh_Violations.f k bt262.1).bind fun bt266 => ((weigh_First.f k bt262.1 9).bind fun bt268 => ((weigh_Bound.f 7).bind fun bt270 => (if t253 = 0 then ((larchref17_SameInts.f k t252 (([2, 2] : List Int))).bind fun t275 => (if t275 = true then (if bt262.2 = 0 then (if bt266.2 = 0 then (if bt266.1 = 3 then (if bt268.2 = 0 then (if bt268.1 = 4 then (if bt270.2 = 0 then (some (bt270.1 == 12)) else (none)) else (none)) else (none)) else (none)) else (none)) else (none)) else (none))) else (none)))))) = some r := H; have A3 := asd A30; clear A30; obtain ⟨y259, hy259⟩ : ∃ y_ : List Int, y_ = (([0, 0, 3] : List Int)) := ⟨_, rfl⟩; replace H : ((weigh_Heavy.f k t256 y259).bind fun bt262 => ((weigh_Violations.f k bt262.1).bind fun bt266 => ((weigh_First.f k bt262.1 9).bind fun bt268 => ((weigh_Bound.f 7).bind fun bt270 => (if t253 = 0 then ((larchref17_SameInts.f k t252 (([2, 2] : List Int))).bind fun t275 => (if t275 = true then (if bt262.2 = 0 then (if bt266.2 = 0 then (if bt266.1 = 3 then (if bt268.2 = 0 then (if bt268.1 = 4 then (if bt270.2 = 0 then (some (bt270.1 == 12)) else (none)) else (none)) else (none)) else (none)) else (none)) else (none)) else (none))) else (none)))))) = some r := by first | (rw [hy259]; with_reducible exact H) | (have H2_ := (Option.bind_some _ _).symm.trans H; rw [hy259]; with_reducible exact H2_) | (have H2_ := (Option.bind_some _ _).symm.trans H; with_reducible exact H2_) | with_reducible exact H | (rw [hy259]; exact H) | exact H
 have Ny259 := asd hy259; clear hy259; replace H := Option.bind_eq_some_iff.mp H; obtain ⟨⟨t262, t263⟩, A40, H⟩ := H; replace H : ((weigh_Violations.f k t262).bind fun bt266 => ((weigh_First.f k t262 9).bind fun bt268 => ((weigh_Bound.f 7).bind fun bt270 => (if t253 = 0 then ((larchref17_SameInts.f k t252 (([2, 2] : List Int))).bind fun t275 => (if t275 = true then (if t263 = 0 then (if bt266.2 = 0 then (if bt266.1 = 3 then (if bt268.2 = 0 then (if bt268.1 = 4 then (if bt270.2 = 0 then (some (bt270.1 == 12)) else (none)) else (none)) else (none)) else (none)) else (none)) else (none)) else (none))) else (none))))) = some r := H; have A4 := asd A40; clear A40; replace H := Option.bind_eq_some_iff.mp H; obtain ⟨⟨t266, t267⟩, A50, H⟩ := H; replace H : ((weigh_First.f k t262 9).bind fun bt268 => ((weigh_Bound.f 7).bind fun bt270 => (if t253 = 0 then ((larchref17_SameInts.f k t252 (([2, 2] : List Int))).bind fun t275 => (if t275 = true then (if t263 = 0 then (if t267 = 0 then (if t266 = 3 then (if bt268.2 = 0 then (if bt268.1 = 4 then (if bt270.2 = 0 then (some (bt270.1 == 12)) else (none)) else (none)) else (none)) else (none)) else (none)) else (none)) else (none))) else (none)))) = some r := H; have A5 := asd A50; clear A50; replace H := Option.bind_eq_some_iff.mp H; obtain ⟨⟨t268, t269⟩, A60, H⟩ := H; replace H : ((weigh_Bound.f 7).bind fun bt270 => (if t253 = 0 then ((larchref17_SameInts.f k t252 (([2, 2] : List Int))).bind fun t275 => (if t275 = true then (if t263 = 0 then (if t267 = 0 then (if t266 = 3 then (if t269 = 0 then (if t268 = 4 then (if bt270.2 = 0 then (some (bt270.1 == 12)) else (none)) else (none)) else (none)) else (none)) else (none)) else (none)) else (none))) else (none))) = some r := H; have A6 := asd A60; clear A60; replace H := Option.bind_eq_some_iff.mp H; obtain ⟨⟨t270, t271⟩, A70, H⟩ := H; replace H : (if t253 = 0 then ((larchref17_SameInts.f k t252 (([2, 2] : List Int))).bind fun t275 => (if t275 = true then (if t263 = 0 then (if t267 = 0 then (if t266 = 3 then (if t269 = 0 then (if t268 = 4 then (if t271 = 0 then (some (t270 == 12)) else (none)) else (none)) else (none)) else (none)) else (none)) else (none)) else (none))) else (none)) = some r := H; have A7 := asd A70; clear A70; by_cases c8 : t253 = 0
 ·
  rw [if_pos c8] at H; have c8b0 : (t253 == 0) = true := beq_iff_eq.mpr c8; have c8b1 : (t253 != 0) = false := bne_eq_false_iff_eq.mpr c8; clear c8; obtain ⟨y272, hy272⟩ : ∃ y_ : List Int, y_ = (([2, 2] : List Int)) := ⟨_, rfl⟩; replace H : ((larchref17_SameInts.f k t252 y272).bind fun t275 => (if t275 = true then (if t263 = 0 then (if t267 = 0 then (if t266 = 3 then (if t269 = 0 then (if t268 = 4 then (if t271 = 0 then (some (t270 == 12)) else (none)) else (none)) else (none)) else (none)) else (none)) else (none)) else (none))) = some r := by first | (rw [hy272]; with_reducible exact H) | (have H2_ := (Option.bind_some _ _).symm.trans H; rw [hy272]; with_reducible exact H2_) | (have H2_ := (Option.bind_some _ _).symm.trans H; with_reducible exact H2_) | with_reducible exact H | (rw [hy272]; exact H) | exact H
  have Ny272 := asd hy272; clear hy272; replace H := Option.bind_eq_some_iff.mp H; obtain ⟨t275, A90, H⟩ := H; replace H : (if t275 = true then (if t263 = 0 then (if t267 = 0 then (if t266 = 3 then (if t269 = 0 then (if t268 = 4 then (if t271 = 0 then (some (t270 == 12)) else (none)) else (none)) else (none)) else (none)) else (none)) else (none)) else (none)) = some r := H; have A9 := asd A90; clear A90; by_cases c10 : t275 = true
  ·
   subst c10; have H1 : (if t263 = 0 then (if t267 = 0 then (if t266 = 3 then (if t269 = 0 then (if t268 = 4 then (if t271 = 0 then (some (t270 == 12)) else (none)) else (none)) else (none)) else (none)) else (none)) else (none)) = some r := by rw [if_pos rfl] at H; exact H
   clear H; have H := H1; clear H1; by_cases c11 : t263 = 0
   ·
    rw [if_pos c11] at H; have c11b0 : (t263 == 0) = true := beq_iff_eq.mpr c11; have c11b1 : (t263 != 0) = false := bne_eq_false_iff_eq.mpr c11; clear c11; by_cases c12 : t267 = 0
    ·
     rw [if_pos c12] at H; have c12b0 : (t267 == 0) = true := beq_iff_eq.mpr c12; have c12b1 : (t267 != 0) = false := bne_eq_false_iff_eq.mpr c12; clear c12; by_cases c13 : t266 = 3
     ·
      rw [if_pos c13] at H; have c13b0 : (t266 == 3) = true := beq_iff_eq.mpr c13; have c13b1 : (t266 != 3) = false := bne_eq_false_iff_eq.mpr c13; clear c13; by_cases c14 : t269 = 0
      ·
       rw [if_pos c14] at H; have c14b0 : (t269 == 0) = true := beq_iff_eq.mpr c14; have c14b1 : (t269 != 0) = false := bne_eq_false_iff_eq.mpr c14; clear c14; by_cases c15 : t268 = 4
       ·
        rw [if_pos c15] at H; have c15b0 : (t268 == 4) = true := beq_iff_eq.mpr c15; have c15b1 : (t268 != 4) = false := bne_eq_false_iff_eq.mpr c15; clear c15; by_cases c16 : t271 = 0
        ·
         rw [if_pos c16] at H; have c16b0 : (t271 == 0) = true := beq_iff_eq.mpr c16; have c16b1 : (t271 != 0) = false := bne_eq_false_iff_eq.mpr c16; clear c16; obtain rfl := Option.some.inj H; go_enter Try.func8, Try.ntmps8
         go_wp2_with (first | ((with_reducible refine gate_callee (f := 43) rfl ?_); refine goesL_ (some 12) rfl rfl Try.func43 (by kernel_rfl) rfl #[] rfl ags ?_; (with_reducible refine (larchlaw17_a.calls  t249 _ A1.out).mono ?_); rintro e w17 ⟨v250, rfl, ho0, hb⟩; refine ⟨_, rfl, ?_⟩; have n0_ := asd (Kd.R_lower ho0 (below_size (skB HB.out))); have n1_ := asd (below_step (skB HB.out) hb); clear HB; have HO251 := n0_; have HB := n1_; clear n0_ n1_; (try clear hb); (try clear hb2); (try clear hk); (try clear hi); (try clear ho0); obtain ⟨Ao18, co18, eo18⟩ := Kd.R_slice HO251.out; subst eo18) | ((with_reducible refine gate_callee (f := 25) rfl ?_); refine goesL_ (some 13) rfl rfl Try.func25 (by kernel_rfl) rfl #[.slice Ao18 t249.length co18] rfl ags ?_; (with_reducible refine (weigh_Sums.calls k _ _ t249 t252 t253 _ ?side1 ?side2 A2.out).mono ?_); (case side1 => exact skC (Kd.R_reads' HO251.out).2.2); (case side2 => exact (Kd.R_reads' HO251.out).2.1); rintro e w19 ⟨v254, rfl, ho0, hb⟩; refine ⟨_, rfl, ?_⟩; have n0_ := asd (Kd.R_below (skR HO251.out) hb); have n1_ := asd (Kd.R_lower ho0 (below_size (skB HB.out))); have n2_ := asd (below_step (skB HB.out) hb); clear HO251 HB; have HO251 := n0_; have HO255 := n1_; have HB := n2_; clear n0_ n1_ n2_; (try clear hb); (try clear hb2); (try clear hk); (try clear hi); (try clear ho0)) | ((with_reducible refine gate_callee (f := 43) rfl ?_); refine goesL_ (some 17) rfl rfl Try.func43 (by kernel_rfl) rfl #[] rfl ags ?_; (with_reducible refine (larchlaw17_a.calls  t256 _ A3.out).mono ?_); rintro e w20 ⟨v257, rfl, ho0, hb⟩; refine ⟨_, rfl, ?_⟩; have n0_ := asd (Kd.R_elder' (skR HO251.out) (Kd.R_base ho0) hb); have n1_ := asd (Kd.R_below (skR HO255.out) hb); have n2_ := asd (Kd.R_lower (Kd.R_new' ho0 (Kd.R_lt (skR HO251.out))) (below_size (skB HB.out))); have n3_ := asd (below_step (skB HB.out) hb); clear HO251 HO255 HB; have HO251 := n0_; have HO255 := n1_; have HO258 := n2_; have HB := n3_; clear n0_ n1_ n2_ n3_; (try clear hb); (try clear hb2); (try clear hk); (try clear hi); (try clear ho0)) | ((with_reducible refine gate_dst (N := 18) rfl ?_); (try (refine gate_guard (by rfl) ?_; dsimp only)); refine Kd.R_lit (Kd.int .i64) _ 3 ?hg (N := 18) ?hd (xs := ([0, 0, 3] : List Int)) (inner := [.int .i64 0, .int .i64 0, .int .i64 3]) (ok := fun _ => True) (okp := fun _ => True) ?hr ?hp (fun _ hk => hk) trivial (Below.refl _ _) (Nat.le_refl _) (by simp) ?_; (case hd => rfl); (case hg => rfl); (case hr => first | (go_simp; done) | (go_simp; rfl)); (case hp => exact (Reps.one (show Kd.M (Kd.int .i64) _ _ _ 0 [.int .i64 0] from rfl) (Reps.one (show Kd.M (Kd.int .i64) _ _ _ 0 [.int .i64 0] from rfl) (Reps.one (show Kd.M (Kd.int .i64) _ _ _ 3 [.int .i64 3] from rfl) (Reps.none _ _))))); intro v260 w21 ho22 hb hg_ hnew_; clear hg_ hnew_; (first | rw [← Ny259.out] at ho22 | (simp only [Int.reduceToNat] at ho22; rw [← Ny259.out] at ho22)); have n0_ := asd (Kd.R_below (skR HO251.out) hb); have n1_ := asd (Kd.R_elder' (skR HO255.out) (Kd.R_base ho22) hb); have n2_ := asd (Kd.R_below (skR HO258.out) hb); have n3_ := asd (Kd.R_lower (Kd.R_new' ho22 (Kd.R_lt (skR HO255.out))) (below_size (skB HB.out))); have n4_ := asd (below_step (skB HB.out) hb); clear HO251 HO255 HO258 HB; have HO251 := n0_; have HO255 := n1_; have HO258 := n2_; have HO261 := n3_; have HB := n4_; clear n0_ n1_ n2_ n3_ n4_ hb ho22; obtain ⟨Ao23, co23, eo23⟩ := Kd.R_slice HO258.out; subst eo23; obtain ⟨Ao24, co24, eo24⟩ := Kd.R_slice HO261.out; subst eo24) | ((with_reducible refine gate_callee (f := 21) rfl ?_); refine goesL_ (some 19) rfl rfl Try.func21 (by kernel_rfl) rfl #[.slice Ao23 t256.length co23, .slice Ao24 y259.length co24] rfl ags ?_; (with_reducible refine (weigh_Heavy.calls k _ _ t256 _ _ y259 t262 t263 _ ?side1 ?side2 ?side3 ?side4 A4.out).mono ?_); (case side1 => exact skC (Kd.R_reads' HO258.out).2.2); (case side2 => exact (Kd.R_reads' HO258.out).2.1); (case side3 => exact skC (Kd.R_reads' HO261.out).2.2); (case side4 => exact (Kd.R_reads' HO261.out).2.1); rintro e w25 ⟨v264, rfl, ho0, hb⟩; refine ⟨_, rfl, ?_⟩; have n0_ := asd (Kd.R_elder' (skR HO251.out) (Kd.R_base ho0) hb); have n1_ := asd (Kd.R_below (skR HO255.out) hb); have n2_ := asd (Kd.R_elder' (skR HO258.out) (Kd.R_base ho0) hb); have n3_ := asd (Kd.R_below (skR HO261.out) hb); have n4_ := asd (Kd.R_lower (Kd.R_new' (Kd.R_new' ho0 (Kd.R_lt (skR HO251.out))) (Kd.R_lt (skR HO258.out))) (below_size (skB HB.out))); have n5_ := asd (below_step (skB HB.out) hb); clear HO251 HO255 HO258 HO261 HB; have HO251 := n0_; have HO255 := n1_; have HO258 := n2_; have HO261 := n3_; have HO265 := n4_; have HB := n5_; clear n0_ n1_ n2_ n3_ n4_ n5_; (try clear hb); (try clear hb2); (try clear hk); (try clear hi); (try clear ho0); obtain ⟨Ao26, co26, eo26⟩ := Kd.R_slice HO265.out; subst eo26) | ((with_reducible refine gate_callee (f := 15) rfl ?_); refine goesL_ (some 24) rfl rfl Try.func15 (by kernel_rfl) rfl #[.slice Ao26 t262.length co26] rfl ags ?_; (with_reducible refine (weigh_Violations.calls k _ _ t262 t266 t267 _ ?side1 ?side2 A5.out).mono ?_); (case side1 => exact skC (Kd.R_reads' HO265.out).2.2); (case side2 => exact (Kd.R_reads' HO265.out).2.1); rintro e w27 ⟨rfl, hb⟩; refine ⟨_, rfl, ?_⟩; have n0_ := asd (Kd.R_below (skR HO251.out) hb); have n1_ := asd (Kd.R_below (skR HO255.out) hb); have n2_ := asd (Kd.R_below (skR HO258.out) hb); have n3_ := asd (Kd.R_below (skR HO261.out) hb); have n4_ := asd (Kd.R_below (skR HO265.out) hb); have n5_ := asd (below_step (skB HB.out) hb); clear HO251 HO255 HO258 HO261 HO265 HB; have HO251 := n0_; have HO255 := n1_; have HO258 := n2_; have HO261 := n3_; have HO265 := n4_; have HB := n5_; clear n0_ n1_ n2_ n3_ n4_ n5_; (try clear hb); (try clear hb2); (try clear hk); (try clear hi)) | ((with_reducible refine gate_callee (f := 17) rfl ?_); refine goesL_ (some 29) rfl rfl Try.func17 (by kernel_rfl) rfl #[.slice Ao26 t262.length co26, .int .i64 9] rfl ags ?_; (with_reducible refine (weigh_First.calls k _ _ t262 9 t268 t269 _ ?side1 ?side2 A6.out).mono ?_); (case side1 => exact skC (Kd.R_reads' HO265.out).2.2); (case side2 => exact (Kd.R_reads' HO265.out).2.1); rintro e w28 ⟨rfl, hb⟩; refine ⟨_, rfl, ?_⟩; have n0_ := asd (Kd.R_below (skR HO251.out) hb); have n1_ := asd (Kd.R_below (skR HO255.out) hb); have n2_ := asd (Kd.R_below (skR HO258.out) hb); have n3_ := asd (Kd.R_below (skR HO261.out) hb); have n4_ := asd (Kd.R_below (skR HO265.out) hb); have n5_ := asd (below_step (skB HB.out) hb); clear HO251 HO255 HO258 HO261 HO265 HB; have HO251 := n0_; have HO255 := n1_; have HO258 := n2_; have HO261 := n3_; have HO265 := n4_; have HB := n5_; clear n0_ n1_ n2_ n3_ n4_ n5_; (try clear hb); (try clear hb2); (try clear hk); (try clear hi)) | ((with_reducible refine gate_callee (f := 40) rfl ?_); refine goesL_ (some 33) rfl rfl Try.func40 (by kernel_rfl) rfl #[.int .i64 7] rfl ags ?_; (with_reducible refine (weigh_Bound.calls 7 t270 t271 _ A7.out).mono ?_); rintro e w' ⟨rfl, ⟨nd, rfl⟩⟩; refine ⟨_, rfl, ?_⟩) | ((with_reducible refine gate_dst (N := 40) rfl ?_); (try (refine gate_guard (by rfl) ?_; dsimp only)); refine Kd.R_lit (Kd.int .i64) _ 3 ?hg (N := 40) ?hd (xs := ([2, 2] : List Int)) (inner := [.int .i64 2, .int .i64 2]) (ok := fun _ => True) (okp := fun _ => True) ?hr ?hp (fun _ hk => hk) trivial (Below.refl _ _) (Nat.le_refl _) (by simp) ?_; (case hd => rfl); (case hg => rfl); (case hr => first | (go_simp; done) | (go_simp; rfl)); (case hp => exact (Reps.one (show Kd.M (Kd.int .i64) _ _ _ 2 [.int .i64 2] from rfl) (Reps.one (show Kd.M (Kd.int .i64) _ _ _ 2 [.int .i64 2] from rfl) (Reps.none _ _)))); intro v273 w29 ho30 hb hg_ hnew_; clear hg_ hnew_; (first | rw [← Ny272.out] at ho30 | (simp only [Int.reduceToNat] at ho30; rw [← Ny272.out] at ho30)); have n0_ := asd (Kd.R_below (skR HO251.out) hb); have n1_ := asd (Kd.R_elder' (skR HO255.out) (Kd.R_base ho30) hb); have n2_ := asd (Kd.R_below (skR HO258.out) hb); have n3_ := asd (Kd.R_elder' (skR HO261.out) (Kd.R_base ho30) hb); have n4_ := asd (Kd.R_below (skR HO265.out) hb); have n5_ := asd (Kd.R_lower (Kd.R_new' (Kd.R_new' ho30 (Kd.R_lt (skR HO255.out))) (Kd.R_lt (skR HO261.out))) (below_size (skB HB.out))); have n6_ := asd (below_step (skB HB.out) hb); clear HO251 HO255 HO258 HO261 HO265 HB; have HO251 := n0_; have HO255 := n1_; have HO258 := n2_; have HO261 := n3_; have HO265 := n4_; have HO274 := n5_; have HB := n6_; clear n0_ n1_ n2_ n3_ n4_ n5_ n6_ hb ho30; obtain ⟨Ao31, co31, eo31⟩ := Kd.R_slice HO255.out; subst eo31; obtain ⟨Ao32, co32, eo32⟩ := Kd.R_slice HO274.out; subst eo32) | (go_at_call 12; (with_reducible refine (larchref17_SameInts.calls k _ _ t252 _ _ y272 true _ ?side1 ?side2 ?side3 ?side4 A9.out).mono ?_); (case side1 => exact skC (Kd.R_reads' HO255.out).2.2); (case side2 => exact (Kd.R_reads' HO255.out).2.1); (case side3 => exact skC (Kd.R_reads' HO274.out).2.2); (case side4 => exact (Kd.R_reads' HO274.out).2.1); rintro e w' ⟨rfl, ⟨nd, rfl⟩⟩))
         go_ret
         exact ⟨re, skB HB.out⟩
        · rw [if_neg c16] at H; exact absurd H (by simp)
       · rw [if_neg c15] at H; exact absurd H (by simp)
      · rw [if_neg c14] at H; exact absurd H (by simp)
     · rw [if_neg c13] at H; exact absurd H (by simp)
    · rw [if_neg c12] at H; exact absurd H (by simp)
   · rw [if_neg c11] at H; exact absurd H (by simp)
  ·
   replace c10 := Bool.eq_false_iff.mpr c10; subst c10; have H1 : (none) = some r := by rw [if_neg (show ¬ (false = true) by decide)] at H; exact H
   clear H; have H := H1; clear H1; exact absurd H (by simp)
 · rw [if_neg c8] at H; exact absurd H (by simp)
end Go.Proofs.Ytmmjkebboonnkaa.P
/- F43 -/
namespace Go.Proofs.Ytmmjkebboonnkaa.P
open Go.RowKit Go.Proofs.YtmmjkebboonnkaaW.PrintWords Go.Proofs.YtmmjkebboonnkaaW.PrintLast Go.Proofs.YtmmjkebboonnkaaW.PrintMore
attribute [local go_sem] max2_int min2_int max_two min_two max_three min_three max_four min_four   -- for this text's walks alone
set_option linter.unusedVariables false
set_option linter.unusedSimpArgs false
end Go.Proofs.Ytmmjkebboonnkaa.P
/- F52 -/
namespace Go.Proofs.Ytmmjkebboonnkaa.P
open Go.RowKit Go.Proofs.YtmmjkebboonnkaaW.PrintWords Go.Proofs.YtmmjkebboonnkaaW.PrintLast Go.Proofs.YtmmjkebboonnkaaW.PrintMore
attribute [local go_sem] max2_int min2_int max_two min_two max_three min_three max_four min_four   -- for this text's walks alone
set_option linter.unusedVariables false
set_option linter.unusedSimpArgs false
def weigh_Even.l0 : Nat → List Int → List Int → Int → Int → Option (Int × Bool × Int)
 | 0, _, _, _, _ => none
 | k + 1, x5, x20, x21, x22 => if x22 < x21 then (if 0 ≤ x22 then (if x22 < (x20.length : Int) then (if 0 < (x5.length : Int) then (if (rd x20 x22) = (rd x5 0) then (weigh_Even.l0 k x5 x20 x21 (wrap64 (x22 + 1))) else (some (0, false, 0))) else (none)) else (none)) else (none)) else (if 0 < (x5.length : Int) then (some (rd x5 0, true, 0)) else (none))
def weigh_Even.f (k : Nat) (l0 : List (S49)) : Option (Int × Bool × Int) := (weigh_Sums.f k l0).bind fun bt626 => (if bt626.2 = 0 then (if (bt626.1.length : Int) = 0 then (some (0, true, 0)) else (weigh_Even.l0 k bt626.1 bt626.1 (bt626.1.length : Int) 0)) else (some (0, false, bt626.2)))
set_option maxHeartbeats 8000000 in
set_option maxRecDepth 100000 in
theorem weigh_Even.calls (k : Nat) (A0 : Option Addr) (c0 : Nat) (l0 : List (S49)) (r1 : Int) (r2 : Bool) (r3 : Int) (w : World) (hr0 : Kd.C k49 w A0 l0.length l0) (hc0 : l0.length ≤ c0) (h : weigh_Even.f k l0 = some (r1, r2, r3)) :
  Calls Try.prog 32 #[.slice A0 l0.length c0] w fun e w' => e = .returned (.tuple #[.int .i64 r1, .bool r2, .int .i64 r3]) ∧ Below w.heap.size w w' := by
 have HR0 := asd hr0; have HC0 := asd hc0; clear hr0 hc0; have HB := asd (Below.refl w.heap.size w); have H : ((weigh_Sums.f k l0).bind fun bt626 => (if bt626.2 = 0 then (if (bt626.1.length : Int) = 0 then (some (0, true, 0)) else (weigh_Even.l0 k bt626.1 bt626.1 (bt626.1.length : Int) 0)) else (some (0, false, bt626.2)))) = some (r1, r2, r3) := h; clear h; replace H := Option.bind_eq_some_iff.mp H; obtain ⟨⟨t626, t627⟩, A20, H⟩ := H; replace H : (if t627 = 0 then (if (t626.length : Int) = 0 then (some (0, true, 0)) else (weigh_Even.l0 k t626 t626 (t626.length : Int) 0)) else (some (0, false, t627))) = some (r1, r2, r3) := H; have A2 := asd A20; clear A20; by_cases c3 : t627 = 0
 ·
  rw [if_pos c3] at H; have c3b0 : (t627 == 0) = true := beq_iff_eq.mpr c3; have c3b1 : (t627 != 0) = false := bne_eq_false_iff_eq.mpr c3; clear c3; by_cases c4 : (t626.length : Int) = 0
  ·
   rw [if_pos c4] at H; have c4b0 : ((t626.length : Int) == 0) = true := beq_iff_eq.mpr c4; have c4b1 : ((t626.length : Int) != 0) = false := bne_eq_false_iff_eq.mpr c4; clear c4; simp only [Option.some.injEq, Prod.mk.injEq] at H; obtain ⟨rfl, rfl, rfl⟩ := H; go_enter Try.func32, Try.ntmps32
   go_wp2_with (first | ((with_reducible refine gate_callee (f := 25) rfl ?_); refine goesL_ (some 11) rfl rfl Try.func25 (by kernel_rfl) rfl #[.slice A0 l0.length c0] rfl ags ?_; (with_reducible refine (weigh_Sums.calls k _ _ l0 t626 t627 _ ?side1 ?side2 A2.out).mono ?_); (case side1 => exact skC HR0.out); (case side2 => exact HC0.out); rintro e w5 ⟨v628, rfl, ho0, hb⟩; refine ⟨_, rfl, ?_⟩; have n0_ := asd (Kd.R_lower ho0 (below_size (skB HB.out))); have n1_ := asd (below_step (skB HB.out) hb); clear HB; have HO629 := n0_; have HB := n1_; clear n0_ n1_; (try clear hb); (try clear hb2); (try clear hk); (try clear hi); (try clear ho0); obtain ⟨Ao6, co6, eo6⟩ := Kd.R_slice HO629.out; subst eo6))
   go_ret3
   exact ⟨re, skB HB.out⟩
  ·
   rw [if_neg c4] at H; have c4b0 : ((t626.length : Int) == 0) = false := beq_eq_false_iff_ne.mpr c4; have c4b1 : ((t626.length : Int) != 0) = true := bne_iff_ne.mpr c4; have c4b2 : ¬ (t626 = []) := fun h_ => c4 (by rw [h_]; rfl)
   have H' := asd H; clear H; go_enter Try.func32, Try.ntmps32
   go_wp2_with (first | ((with_reducible refine gate_callee (f := 25) rfl ?_); refine goesL_ (some 11) rfl rfl Try.func25 (by kernel_rfl) rfl #[.slice A0 l0.length c0] rfl ags ?_; (with_reducible refine (weigh_Sums.calls k _ _ l0 t626 t627 _ ?side1 ?side2 A2.out).mono ?_); (case side1 => exact skC HR0.out); (case side2 => exact HC0.out); rintro e w7 ⟨v628, rfl, ho0, hb⟩; refine ⟨_, rfl, ?_⟩; have n0_ := asd (Kd.R_lower ho0 (below_size (skB HB.out))); have n1_ := asd (below_step (skB HB.out) hb); clear HB; have HO629 := n0_; have HB := n1_; clear n0_ n1_; (try clear hb); (try clear hb2); (try clear hk); (try clear hi); (try clear ho0); obtain ⟨Ao8, co8, eo8⟩ := Kd.R_slice HO629.out; subst eo8))
   go_loopg [22] k (fun kq v22 w' => ∃ (x22_1 : Int), v22 = .int .i64 x22_1 ∧ Aside0 (weigh_Even.l0 kq t626 t626 (t626.length : Int) x22_1 = some (r1, r2, r3)) ∧ Aside0 (kq ≤ k) ∧ Aside0 (Kd.R (Kd.int .i64) 3 w' w.heap.size (fun _ => True) (.slice Ao8 t626.length co8) t626) ∧ Aside0 (Kd.R (Kd.int .i64) 3 w' w.heap.size (fun _ => True) (.slice Ao8 t626.length co8) t626) ∧ Aside0 (Below w.heap.size w w'))
   case atStart => exact ⟨(0), rs, H', ⟨Nat.le_refl _⟩, ⟨skR HO629.out⟩, ⟨skR HO629.out⟩, ⟨skB HB.out⟩⟩
   case round =>
    clear H'; (try clear c2); (try clear p2); (try clear c3); (try clear c3b0); (try clear c3b1); (try clear c4); (try clear c4b0); (try clear c4b1); (try clear c4b2); obtain ⟨x22_1, rfl, HA, HK1, HO_5, HO_20, HB⟩ := hrel; cases gk with
    | zero => exact absurd HA.out (by simp [weigh_Even.l0])
    | succ k1 =>
     have H := HA.out; clear HA; simp only [weigh_Even.l0] at H; by_cases c9 : x22_1 < (t626.length : Int)
     ·
      rw [if_pos c9] at H; have c9b0 : decide (x22_1 < (t626.length : Int)) = true := decide_eq_true c9; clear c9; by_cases c10 : 0 ≤ x22_1
      ·
       rw [if_pos c10] at H; have c10b0 : decide (0 ≤ x22_1) = true := decide_eq_true c10; clear c10; by_cases c11 : x22_1 < (t626.length : Int)
       ·
        rw [if_pos c11] at H; have c11b0 : decide (x22_1 < (t626.length : Int)) = true := decide_eq_true c11; clear c11; by_cases c12 : 0 < (t626.length : Int)
        ·
         rw [if_pos c12] at H; have c12b0 : decide (0 < (t626.length : Int)) = true := decide_eq_true c12; have c12b1 : decide (0 < t626.length) = true := decide_eq_true (by omega); clear c12; by_cases c13 : (rd t626 x22_1) = (rd t626 0)
         ·
          rw [if_pos c13] at H; have c13b0 : ((rd t626 x22_1) == (rd t626 0)) = true := beq_iff_eq.mpr c13; have c13b1 : ((rd t626 x22_1) != (rd t626 0)) = false := bne_eq_false_iff_eq.mpr c13; clear c13; have H' := asd H; clear H; have p630 : 0 ≤ (x22_1 : Int) := dt; have q630 : x22_1 < (t626.length : Int) := dt; obtain ⟨ad630, e630, hx630_0⟩ := Kd.at_int (Kd.R_reads' HO_20.out).2.2 x22_1 p630 q630; cases e630; replace p630 := eq_true p630; replace q630 := eq_true q630; have p631 : 0 ≤ (0 : Int) := (by omega); have q631 : 0 < (t626.length : Int) := dt; obtain ⟨ad631, e631, hx631_0⟩ := Kd.at_int (Kd.R_reads' HO_5.out).2.2 0 p631 q631; obtain rfl : ad630 = ad631 := (by injection e631); have qi631 : (0 < t626.length) = True := eq_true (by omega)
          (try rw [show ((0 : Int)).toNat = 0 from rfl] at hx631_0)
          (try rw [Addr.add_zero'] at hx631_0)
          replace p631 := eq_true p631; replace q631 := eq_true q631; go_wp2
          go_roundg k1
          case measure => have := HK1.out; omega
          case rel => exact ⟨(wrap64 (x22_1 + 1)), rs, H', ⟨by have := HK1.out; omega⟩, ⟨skR HO_5.out⟩, ⟨skR HO_20.out⟩, ⟨skB HB.out⟩⟩
         ·
          rw [if_neg c13] at H; have c13b0 : ((rd t626 x22_1) == (rd t626 0)) = false := beq_eq_false_iff_ne.mpr c13; have c13b1 : ((rd t626 x22_1) != (rd t626 0)) = true := bne_iff_ne.mpr c13; simp only [Option.some.injEq, Prod.mk.injEq] at H; obtain ⟨rfl, rfl, rfl⟩ := H; have p630 : 0 ≤ (x22_1 : Int) := dt; have q630 : x22_1 < (t626.length : Int) := dt; obtain ⟨ad630, e630, hx630_0⟩ := Kd.at_int (Kd.R_reads' HO_20.out).2.2 x22_1 p630 q630; cases e630; replace p630 := eq_true p630; replace q630 := eq_true q630; have p631 : 0 ≤ (0 : Int) := (by omega); have q631 : 0 < (t626.length : Int) := dt; obtain ⟨ad631, e631, hx631_0⟩ := Kd.at_int (Kd.R_reads' HO_5.out).2.2 0 p631 q631; obtain rfl : ad630 = ad631 := (by injection e631); have qi631 : (0 < t626.length) = True := eq_true (by omega)
          (try rw [show ((0 : Int)).toNat = 0 from rfl] at hx631_0)
          (try rw [Addr.add_zero'] at hx631_0)
          replace p631 := eq_true p631; replace q631 := eq_true q631; go_wp2
          go_ret3
          exact ⟨re, skB HB.out⟩
        · rw [if_neg c12] at H; exact absurd H (by simp)
       · rw [if_neg c11] at H; exact absurd H (by simp)
      · rw [if_neg c10] at H; exact absurd H (by simp)
     ·
      rw [if_neg c9] at H; have c9b0 : decide (x22_1 < (t626.length : Int)) = false := decide_eq_false c9; clear c9; by_cases c14 : 0 < (t626.length : Int)
      ·
       rw [if_pos c14] at H; have c14b0 : decide (0 < (t626.length : Int)) = true := decide_eq_true c14; have c14b1 : decide (0 < t626.length) = true := decide_eq_true (by omega); clear c14; simp only [Option.some.injEq, Prod.mk.injEq] at H; obtain ⟨rfl, rfl, rfl⟩ := H; have p632 : 0 ≤ (0 : Int) := (by omega); have q632 : 0 < (t626.length : Int) := dt; obtain ⟨ad632, e632, hx632_0⟩ := Kd.at_int (Kd.R_reads' HO_5.out).2.2 0 p632 q632; cases e632; have qi632 : (0 < t626.length) = True := eq_true (by omega)
       (try rw [show ((0 : Int)).toNat = 0 from rfl] at hx632_0)
       (try rw [Addr.add_zero'] at hx632_0)
       replace p632 := eq_true p632; replace q632 := eq_true q632; go_wp2
       go_ret3
       exact ⟨re, skB HB.out⟩
      · rw [if_neg c14] at H; exact absurd H (by simp)
 ·
  rw [if_neg c3] at H; have c3b0 : (t627 == 0) = false := beq_eq_false_iff_ne.mpr c3; have c3b1 : (t627 != 0) = true := bne_iff_ne.mpr c3; simp only [Option.some.injEq, Prod.mk.injEq] at H; obtain ⟨rfl, rfl, rfl⟩ := H; go_enter Try.func32, Try.ntmps32
  go_wp2_with (first | ((with_reducible refine gate_callee (f := 25) rfl ?_); refine goesL_ (some 11) rfl rfl Try.func25 (by kernel_rfl) rfl #[.slice A0 l0.length c0] rfl ags ?_; (with_reducible refine (weigh_Sums.calls k _ _ l0 t626 t627 _ ?side1 ?side2 A2.out).mono ?_); (case side1 => exact skC HR0.out); (case side2 => exact HC0.out); rintro e w15 ⟨v628, rfl, ho0, hb⟩; refine ⟨_, rfl, ?_⟩; have n0_ := asd (Kd.R_lower ho0 (below_size (skB HB.out))); have n1_ := asd (below_step (skB HB.out) hb); clear HB; have HO629 := n0_; have HB := n1_; clear n0_ n1_; (try clear hb); (try clear hb2); (try clear hk); (try clear hi); (try clear ho0)))
  go_ret3
  exact ⟨re, skB HB.out⟩
end Go.Proofs.Ytmmjkebboonnkaa.P
/- F53 -/
namespace Go.Proofs.Ytmmjkebboonnkaa.P
open Go.RowKit Go.Proofs.YtmmjkebboonnkaaW.PrintWords Go.Proofs.YtmmjkebboonnkaaW.PrintLast Go.Proofs.YtmmjkebboonnkaaW.PrintMore
attribute [local go_sem] max2_int min2_int max_two min_two max_three min_three max_four min_four   -- for this text's walks alone
set_option linter.unusedVariables false
set_option linter.unusedSimpArgs false
def weigh_Sound.l0 : Nat → List (S49) → Bool → List Int → Int → Int → Option (Bool × Int)
 | 0, _, _, _, _, _ => none
 | k + 1, x0, x5, x27, x28, x29 => if x29 < x28 then (if 0 ≤ x29 then (if x29 < (x27.length : Int) then (if x29 = 0 then (if 0 ≤ (rd x27 x29) then (if (rd x27 x29) < (x0.length : Int) then (if ((J49 x0 (rd x27 x29)).f2) = 1 then (if ((J49 x0 (rd x27 x29)).f4) < 0 then (if ((J49 x0 (rd x27 x29)).f2) = 0 then (some (false, 0)) else (weigh_Sound.l0 k x0 x5 x27 x28 (wrap64 (x29 + 1)))) else (weigh_Sound.l0 k x0 x5 x27 x28 (wrap64 (x29 + 1)))) else (some (false, 0))) else (none)) else (none)) else (if 0 ≤ (rd x27 x29) then (if (rd x27 x29) < (x0.length : Int) then (if ((J49 x0 (rd x27 x29)).f4) < 0 then (if ((J49 x0 (rd x27 x29)).f2) = 0 then (some (false, 0)) else (weigh_Sound.l0 k x0 x5 x27 x28 (wrap64 (x29 + 1)))) else (weigh_Sound.l0 k x0 x5 x27 x28 (wrap64 (x29 + 1)))) else (none)) else (none))) else (none)) else (none)) else (some (x5, 0))
def weigh_Sound.f (k : Nat) (l0 : List (S49)) : Option (Bool × Int) := (weigh_Even.f k l0).bind fun bt633 => (if bt633.2.2 = 0 then ((weigh_keys.f k l0).bind fun bt636 => (weigh_Sound.l0 k l0 bt633.2.1 bt636.1 (bt636.1.length : Int) 0)) else (some (false, bt633.2.2)))
set_option maxHeartbeats 8000000 in
set_option maxRecDepth 100000 in
theorem weigh_Sound.calls (k : Nat) (A0 : Option Addr) (c0 : Nat) (l0 : List (S49)) (r1 : Bool) (r2 : Int) (w : World) (hr0 : Kd.C k49 w A0 l0.length l0) (hc0 : l0.length ≤ c0) (h : weigh_Sound.f k l0 = some (r1, r2)) :
  Calls Try.prog 30 #[.slice A0 l0.length c0] w fun e w' => e = .returned (.tuple #[.bool r1, .int .i64 r2]) ∧ Below w.heap.size w w' := by
 have HR0 := asd hr0; have HC0 := asd hc0; clear hr0 hc0; have HB := asd (Below.refl w.heap.size w); have H : ((weigh_Even.f k l0).bind fun bt633 => (if bt633.2.2 = 0 then ((weigh_keys.f k l0).bind fun bt636 => (weigh_Sound.l0 k l0 bt633.2.1 bt636.1 (bt636.1.length : Int) 0)) else (some (false, bt633.2.2)))) = some (r1, r2) := h; clear h; replace H := Option.bind_eq_some_iff.mp H; obtain ⟨⟨t633, t634, t635⟩, A20, H⟩ := H; replace H : (if t635 = 0 then ((weigh_keys.f k l0).bind fun bt636 => (weigh_Sound.l0 k l0 t634 bt636.1 (bt636.1.length : Int) 0)) else (some (false, t635))) = some (r1, r2) := H; have A2 := asd A20; clear A20; by_cases c3 : t635 = 0
 ·
  rw [if_pos c3] at H; have c3b0 : (t635 == 0) = true := beq_iff_eq.mpr c3; have c3b1 : (t635 != 0) = false := bne_eq_false_iff_eq.mpr c3; clear c3; replace H := Option.bind_eq_some_iff.mp H; obtain ⟨⟨t636, t637, t638⟩, A40, H⟩ := H; replace H : (weigh_Sound.l0 k l0 t634 t636 (t636.length : Int) 0) = some (r1, r2) := H; have A4 := asd A40; clear A40; have H' := asd H; clear H; go_enter Try.func30, Try.ntmps30
  go_wp2_with (first | ((with_reducible refine gate_callee (f := 32) rfl ?_); refine goesL_ (some 14) rfl rfl Try.func32 (by kernel_rfl) rfl #[.slice A0 l0.length c0] rfl ags ?_; (with_reducible refine (weigh_Even.calls k _ _ l0 t633 t634 t635 _ ?side1 ?side2 A2.out).mono ?_); (case side1 => exact skC HR0.out); (case side2 => exact HC0.out); rintro e w5 ⟨rfl, hb⟩; refine ⟨_, rfl, ?_⟩; have n0_ := asd (below_step (skB HB.out) hb); clear HB; have HB := n0_; clear n0_; (try clear hb); (try clear hb2); (try clear hk); (try clear hi)) | ((with_reducible refine gate_callee (f := 51) rfl ?_); refine goesL_ (some 23) rfl rfl Try.func51 (by kernel_rfl) rfl #[.slice A0 l0.length c0] rfl ags ?_; (with_reducible refine (weigh_keys.calls k _ _ l0 t636 t637 t638 _ ?side1 ?side2 A4.out).mono ?_); (case side1 => exact skC (Kd.C_below HR0.out HB.out)); (case side2 => exact HC0.out); rintro e w6 ⟨v639, v641, rfl, ho0, ho1, hb⟩; refine ⟨_, rfl, ?_⟩; have n0_ := asd (Kd.R_lower ho0 (below_size (skB HB.out))); have n1_ := asd (Kd.R_lower ho1 (below_size (skB HB.out))); have n2_ := asd (below_step (skB HB.out) hb); clear HB; have HO640 := n0_; have HO642 := n1_; have HB := n2_; clear n0_ n1_ n2_; (try clear hb); (try clear hb2); (try clear hk); (try clear hi); (try clear ho0); (try clear ho1); obtain ⟨Ao7, co7, eo7⟩ := Kd.R_slice HO640.out; subst eo7))
  go_loopg [29] k (fun kq v29 w' => ∃ (x29_1 : Int), v29 = .int .i64 x29_1 ∧ Aside0 (weigh_Sound.l0 kq l0 t634 t636 (t636.length : Int) x29_1 = some (r1, r2)) ∧ Aside0 (kq ≤ k) ∧ Aside0 (Kd.R (Kd.int .i64) 3 w' w.heap.size (fun _ => True) (.slice Ao7 t636.length co7) t636) ∧ Aside0 (Below w.heap.size w w'))
  case atStart => exact ⟨(0), rs, H', ⟨Nat.le_refl _⟩, ⟨skR (Kd.R_mono HO640.out (fun _ hk => trivial))⟩, ⟨skB HB.out⟩⟩
  case round =>
   clear H'; (try clear p2); (try clear c3); (try clear c3b0); (try clear c3b1); (try clear c5); obtain ⟨x29_1, rfl, HA, HK1, HO_27, HB⟩ := hrel; cases gk with
   | zero => exact absurd HA.out (by simp [weigh_Sound.l0])
   | succ k1 =>
    have H := HA.out; clear HA; simp only [weigh_Sound.l0] at H; by_cases c8 : x29_1 < (t636.length : Int)
    ·
     rw [if_pos c8] at H; have c8b0 : decide (x29_1 < (t636.length : Int)) = true := decide_eq_true c8; clear c8; by_cases c9 : 0 ≤ x29_1
     ·
      rw [if_pos c9] at H; have c9b0 : decide (0 ≤ x29_1) = true := decide_eq_true c9; clear c9; by_cases c10 : x29_1 < (t636.length : Int)
      ·
       rw [if_pos c10] at H; have c10b0 : decide (x29_1 < (t636.length : Int)) = true := decide_eq_true c10; clear c10; by_cases c11 : x29_1 = 0
       ·
        rw [if_pos c11] at H; have c11b0 : (x29_1 == 0) = true := beq_iff_eq.mpr c11; have c11b1 : (x29_1 != 0) = false := bne_eq_false_iff_eq.mpr c11; clear c11; by_cases c12 : 0 ≤ (rd t636 x29_1)
        ·
         rw [if_pos c12] at H; have c12b0 : decide (0 ≤ (rd t636 x29_1)) = true := decide_eq_true c12; clear c12; by_cases c13 : (rd t636 x29_1) < (l0.length : Int)
         ·
          rw [if_pos c13] at H; have c13b0 : decide ((rd t636 x29_1) < (l0.length : Int)) = true := decide_eq_true c13; clear c13; by_cases c14 : ((J49 l0 (rd t636 x29_1)).f2) = 1
          ·
           rw [if_pos c14] at H; have c14b0 : (((J49 l0 (rd t636 x29_1)).f2) == 1) = true := beq_iff_eq.mpr c14; have c14b1 : (((J49 l0 (rd t636 x29_1)).f2) != 1) = false := bne_eq_false_iff_eq.mpr c14; clear c14; by_cases c15 : ((J49 l0 (rd t636 x29_1)).f4) < 0
           ·
            rw [if_pos c15] at H; have c15b0 : decide (((J49 l0 (rd t636 x29_1)).f4) < 0) = true := decide_eq_true c15; clear c15; by_cases c16 : ((J49 l0 (rd t636 x29_1)).f2) = 0
            ·
             rw [if_pos c16] at H; have c16b0 : (((J49 l0 (rd t636 x29_1)).f2) == 0) = true := beq_iff_eq.mpr c16; have c16b1 : (((J49 l0 (rd t636 x29_1)).f2) != 0) = false := bne_eq_false_iff_eq.mpr c16; clear c16; simp only [Option.some.injEq, Prod.mk.injEq] at H; obtain ⟨rfl, rfl⟩ := H; have p643 : 0 ≤ (x29_1 : Int) := dt; have q643 : x29_1 < (t636.length : Int) := dt; obtain ⟨ad643, e643, hx643_0⟩ := Kd.at_int (Kd.R_reads' HO_27.out).2.2 x29_1 p643 q643; cases e643; replace p643 := eq_true p643; replace q643 := eq_true q643; have p644 : 0 ≤ ((rd t636 x29_1) : Int) := dt; have q644 : (rd t636 x29_1) < (l0.length : Int) := dt; obtain ⟨ad644, e644, hx644_0, hx644_1, hx644_2, hx644_3, hx644_4, hx644_5⟩ := at_T49 HR0.out (rd t636 x29_1) p644 q644; cases e644; replace hx644_0 := skc HB.out hx644_0; replace hx644_1 := skc HB.out hx644_1; replace hx644_2 := skc HB.out hx644_2; replace hx644_3 := skc HB.out hx644_3; replace hx644_4 := skc HB.out hx644_4; replace hx644_5 := skc HB.out hx644_5; replace p644 := eq_true p644; replace q644 := eq_true q644; have p645 : 0 ≤ ((rd t636 x29_1) : Int) := dt; have q645 : (rd t636 x29_1) < (l0.length : Int) := dt; obtain ⟨ad645, e645, hx645_0, hx645_1, hx645_2, hx645_3, hx645_4, hx645_5⟩ := at_T49 HR0.out (rd t636 x29_1) p645 q645; obtain rfl : ad644 = ad645 := (by injection e645); replace hx645_0 := skc HB.out hx645_0; replace hx645_1 := skc HB.out hx645_1; replace hx645_2 := skc HB.out hx645_2; replace hx645_3 := skc HB.out hx645_3; replace hx645_4 := skc HB.out hx645_4; replace hx645_5 := skc HB.out hx645_5; replace p645 := eq_true p645; replace q645 := eq_true q645; have p646 : 0 ≤ ((rd t636 x29_1) : Int) := dt; have q646 : (rd t636 x29_1) < (l0.length : Int) := dt; obtain ⟨ad646, e646, hx646_0, hx646_1, hx646_2, hx646_3, hx646_4, hx646_5⟩ := at_T49 HR0.out (rd t636 x29_1) p646 q646; obtain rfl : ad644 = ad646 := (by injection e646); replace hx646_0 := skc HB.out hx646_0; replace hx646_1 := skc HB.out hx646_1; replace hx646_2 := skc HB.out hx646_2; replace hx646_3 := skc HB.out hx646_3; replace hx646_4 := skc HB.out hx646_4; replace hx646_5 := skc HB.out hx646_5; replace p646 := eq_true p646; replace q646 := eq_true q646; go_wp2
             go_ret2
             exact ⟨re, skB HB.out⟩
            ·
             rw [if_neg c16] at H; have c16b0 : (((J49 l0 (rd t636 x29_1)).f2) == 0) = false := beq_eq_false_iff_ne.mpr c16; have c16b1 : (((J49 l0 (rd t636 x29_1)).f2) != 0) = true := bne_iff_ne.mpr c16; have H' := asd H; clear H; have p643 : 0 ≤ (x29_1 : Int) := dt; have q643 : x29_1 < (t636.length : Int) := dt; obtain ⟨ad643, e643, hx643_0⟩ := Kd.at_int (Kd.R_reads' HO_27.out).2.2 x29_1 p643 q643; cases e643; replace p643 := eq_true p643; replace q643 := eq_true q643; have p644 : 0 ≤ ((rd t636 x29_1) : Int) := dt; have q644 : (rd t636 x29_1) < (l0.length : Int) := dt; obtain ⟨ad644, e644, hx644_0, hx644_1, hx644_2, hx644_3, hx644_4, hx644_5⟩ := at_T49 HR0.out (rd t636 x29_1) p644 q644; cases e644; replace hx644_0 := skc HB.out hx644_0; replace hx644_1 := skc HB.out hx644_1; replace hx644_2 := skc HB.out hx644_2; replace hx644_3 := skc HB.out hx644_3; replace hx644_4 := skc HB.out hx644_4; replace hx644_5 := skc HB.out hx644_5; replace p644 := eq_true p644; replace q644 := eq_true q644; have p645 : 0 ≤ ((rd t636 x29_1) : Int) := dt; have q645 : (rd t636 x29_1) < (l0.length : Int) := dt; obtain ⟨ad645, e645, hx645_0, hx645_1, hx645_2, hx645_3, hx645_4, hx645_5⟩ := at_T49 HR0.out (rd t636 x29_1) p645 q645; obtain rfl : ad644 = ad645 := (by injection e645); replace hx645_0 := skc HB.out hx645_0; replace hx645_1 := skc HB.out hx645_1; replace hx645_2 := skc HB.out hx645_2; replace hx645_3 := skc HB.out hx645_3; replace hx645_4 := skc HB.out hx645_4; replace hx645_5 := skc HB.out hx645_5; replace p645 := eq_true p645; replace q645 := eq_true q645; have p646 : 0 ≤ ((rd t636 x29_1) : Int) := dt; have q646 : (rd t636 x29_1) < (l0.length : Int) := dt; obtain ⟨ad646, e646, hx646_0, hx646_1, hx646_2, hx646_3, hx646_4, hx646_5⟩ := at_T49 HR0.out (rd t636 x29_1) p646 q646; obtain rfl : ad644 = ad646 := (by injection e646); replace hx646_0 := skc HB.out hx646_0; replace hx646_1 := skc HB.out hx646_1; replace hx646_2 := skc HB.out hx646_2; replace hx646_3 := skc HB.out hx646_3; replace hx646_4 := skc HB.out hx646_4; replace hx646_5 := skc HB.out hx646_5; replace p646 := eq_true p646; replace q646 := eq_true q646; go_wp2
             go_roundg k1
             case measure => have := HK1.out; omega
             case rel => exact ⟨(wrap64 (x29_1 + 1)), rs, H', ⟨by have := HK1.out; omega⟩, ⟨skR HO_27.out⟩, ⟨skB HB.out⟩⟩
           ·
            rw [if_neg c15] at H; have c15b0 : decide (((J49 l0 (rd t636 x29_1)).f4) < 0) = false := decide_eq_false c15; clear c15; have H' := asd H; clear H; have p643 : 0 ≤ (x29_1 : Int) := dt; have q643 : x29_1 < (t636.length : Int) := dt; obtain ⟨ad643, e643, hx643_0⟩ := Kd.at_int (Kd.R_reads' HO_27.out).2.2 x29_1 p643 q643; cases e643; replace p643 := eq_true p643; replace q643 := eq_true q643; have p644 : 0 ≤ ((rd t636 x29_1) : Int) := dt; have q644 : (rd t636 x29_1) < (l0.length : Int) := dt; obtain ⟨ad644, e644, hx644_0, hx644_1, hx644_2, hx644_3, hx644_4, hx644_5⟩ := at_T49 HR0.out (rd t636 x29_1) p644 q644; cases e644; replace hx644_0 := skc HB.out hx644_0; replace hx644_1 := skc HB.out hx644_1; replace hx644_2 := skc HB.out hx644_2; replace hx644_3 := skc HB.out hx644_3; replace hx644_4 := skc HB.out hx644_4; replace hx644_5 := skc HB.out hx644_5; replace p644 := eq_true p644; replace q644 := eq_true q644; have p645 : 0 ≤ ((rd t636 x29_1) : Int) := dt; have q645 : (rd t636 x29_1) < (l0.length : Int) := dt; obtain ⟨ad645, e645, hx645_0, hx645_1, hx645_2, hx645_3, hx645_4, hx645_5⟩ := at_T49 HR0.out (rd t636 x29_1) p645 q645; obtain rfl : ad644 = ad645 := (by injection e645); replace hx645_0 := skc HB.out hx645_0; replace hx645_1 := skc HB.out hx645_1; replace hx645_2 := skc HB.out hx645_2; replace hx645_3 := skc HB.out hx645_3; replace hx645_4 := skc HB.out hx645_4; replace hx645_5 := skc HB.out hx645_5; replace p645 := eq_true p645; replace q645 := eq_true q645; go_wp2
            go_roundg k1
            case measure => have := HK1.out; omega
            case rel => exact ⟨(wrap64 (x29_1 + 1)), rs, H', ⟨by have := HK1.out; omega⟩, ⟨skR HO_27.out⟩, ⟨skB HB.out⟩⟩
          ·
           rw [if_neg c14] at H; have c14b0 : (((J49 l0 (rd t636 x29_1)).f2) == 1) = false := beq_eq_false_iff_ne.mpr c14; have c14b1 : (((J49 l0 (rd t636 x29_1)).f2) != 1) = true := bne_iff_ne.mpr c14; simp only [Option.some.injEq, Prod.mk.injEq] at H; obtain ⟨rfl, rfl⟩ := H; have p643 : 0 ≤ (x29_1 : Int) := dt; have q643 : x29_1 < (t636.length : Int) := dt; obtain ⟨ad643, e643, hx643_0⟩ := Kd.at_int (Kd.R_reads' HO_27.out).2.2 x29_1 p643 q643; cases e643; replace p643 := eq_true p643; replace q643 := eq_true q643; have p644 : 0 ≤ ((rd t636 x29_1) : Int) := dt; have q644 : (rd t636 x29_1) < (l0.length : Int) := dt; obtain ⟨ad644, e644, hx644_0, hx644_1, hx644_2, hx644_3, hx644_4, hx644_5⟩ := at_T49 HR0.out (rd t636 x29_1) p644 q644; cases e644; replace hx644_0 := skc HB.out hx644_0; replace hx644_1 := skc HB.out hx644_1; replace hx644_2 := skc HB.out hx644_2; replace hx644_3 := skc HB.out hx644_3; replace hx644_4 := skc HB.out hx644_4; replace hx644_5 := skc HB.out hx644_5; replace p644 := eq_true p644; replace q644 := eq_true q644; go_wp2
           go_ret2
           exact ⟨re, skB HB.out⟩
         · rw [if_neg c13] at H; exact absurd H (by simp)
        · rw [if_neg c12] at H; exact absurd H (by simp)
       ·
        rw [if_neg c11] at H; have c11b0 : (x29_1 == 0) = false := beq_eq_false_iff_ne.mpr c11; have c11b1 : (x29_1 != 0) = true := bne_iff_ne.mpr c11; by_cases c17 : 0 ≤ (rd t636 x29_1)
        ·
         rw [if_pos c17] at H; have c17b0 : decide (0 ≤ (rd t636 x29_1)) = true := decide_eq_true c17; clear c17; by_cases c18 : (rd t636 x29_1) < (l0.length : Int)
         ·
          rw [if_pos c18] at H; have c18b0 : decide ((rd t636 x29_1) < (l0.length : Int)) = true := decide_eq_true c18; clear c18; by_cases c19 : ((J49 l0 (rd t636 x29_1)).f4) < 0
          ·
           rw [if_pos c19] at H; have c19b0 : decide (((J49 l0 (rd t636 x29_1)).f4) < 0) = true := decide_eq_true c19; clear c19; by_cases c20 : ((J49 l0 (rd t636 x29_1)).f2) = 0
           ·
            rw [if_pos c20] at H; have c20b0 : (((J49 l0 (rd t636 x29_1)).f2) == 0) = true := beq_iff_eq.mpr c20; have c20b1 : (((J49 l0 (rd t636 x29_1)).f2) != 0) = false := bne_eq_false_iff_eq.mpr c20; clear c20; simp only [Option.some.injEq, Prod.mk.injEq] at H; obtain ⟨rfl, rfl⟩ := H; have p643 : 0 ≤ (x29_1 : Int) := dt; have q643 : x29_1 < (t636.length : Int) := dt; obtain ⟨ad643, e643, hx643_0⟩ := Kd.at_int (Kd.R_reads' HO_27.out).2.2 x29_1 p643 q643; cases e643; replace p643 := eq_true p643; replace q643 := eq_true q643; have p647 : 0 ≤ ((rd t636 x29_1) : Int) := dt; have q647 : (rd t636 x29_1) < (l0.length : Int) := dt; obtain ⟨ad647, e647, hx647_0, hx647_1, hx647_2, hx647_3, hx647_4, hx647_5⟩ := at_T49 HR0.out (rd t636 x29_1) p647 q647; cases e647; replace hx647_0 := skc HB.out hx647_0; replace hx647_1 := skc HB.out hx647_1; replace hx647_2 := skc HB.out hx647_2; replace hx647_3 := skc HB.out hx647_3; replace hx647_4 := skc HB.out hx647_4; replace hx647_5 := skc HB.out hx647_5; replace p647 := eq_true p647; replace q647 := eq_true q647; have p648 : 0 ≤ ((rd t636 x29_1) : Int) := dt; have q648 : (rd t636 x29_1) < (l0.length : Int) := dt; obtain ⟨ad648, e648, hx648_0, hx648_1, hx648_2, hx648_3, hx648_4, hx648_5⟩ := at_T49 HR0.out (rd t636 x29_1) p648 q648; obtain rfl : ad647 = ad648 := (by injection e648); replace hx648_0 := skc HB.out hx648_0; replace hx648_1 := skc HB.out hx648_1; replace hx648_2 := skc HB.out hx648_2; replace hx648_3 := skc HB.out hx648_3; replace hx648_4 := skc HB.out hx648_4; replace hx648_5 := skc HB.out hx648_5; replace p648 := eq_true p648; replace q648 := eq_true q648; go_wp2
            go_ret2
            exact ⟨re, skB HB.out⟩
           ·
            rw [if_neg c20] at H; have c20b0 : (((J49 l0 (rd t636 x29_1)).f2) == 0) = false := beq_eq_false_iff_ne.mpr c20; have c20b1 : (((J49 l0 (rd t636 x29_1)).f2) != 0) = true := bne_iff_ne.mpr c20; have H' := asd H; clear H; have p643 : 0 ≤ (x29_1 : Int) := dt; have q643 : x29_1 < (t636.length : Int) := dt; obtain ⟨ad643, e643, hx643_0⟩ := Kd.at_int (Kd.R_reads' HO_27.out).2.2 x29_1 p643 q643; cases e643; replace p643 := eq_true p643; replace q643 := eq_true q643; have p647 : 0 ≤ ((rd t636 x29_1) : Int) := dt; have q647 : (rd t636 x29_1) < (l0.length : Int) := dt; obtain ⟨ad647, e647, hx647_0, hx647_1, hx647_2, hx647_3, hx647_4, hx647_5⟩ := at_T49 HR0.out (rd t636 x29_1) p647 q647; cases e647; replace hx647_0 := skc HB.out hx647_0; replace hx647_1 := skc HB.out hx647_1; replace hx647_2 := skc HB.out hx647_2; replace hx647_3 := skc HB.out hx647_3; replace hx647_4 := skc HB.out hx647_4; replace hx647_5 := skc HB.out hx647_5; replace p647 := eq_true p647; replace q647 := eq_true q647; have p648 : 0 ≤ ((rd t636 x29_1) : Int) := dt; have q648 : (rd t636 x29_1) < (l0.length : Int) := dt; obtain ⟨ad648, e648, hx648_0, hx648_1, hx648_2, hx648_3, hx648_4, hx648_5⟩ := at_T49 HR0.out (rd t636 x29_1) p648 q648; obtain rfl : ad647 = ad648 := (by injection e648); replace hx648_0 := skc HB.out hx648_0; replace hx648_1 := skc HB.out hx648_1; replace hx648_2 := skc HB.out hx648_2; replace hx648_3 := skc HB.out hx648_3; replace hx648_4 := skc HB.out hx648_4; replace hx648_5 := skc HB.out hx648_5; replace p648 := eq_true p648; replace q648 := eq_true q648; go_wp2
            go_roundg k1
            case measure => have := HK1.out; omega
            case rel => exact ⟨(wrap64 (x29_1 + 1)), rs, H', ⟨by have := HK1.out; omega⟩, ⟨skR HO_27.out⟩, ⟨skB HB.out⟩⟩
          ·
           rw [if_neg c19] at H; have c19b0 : decide (((J49 l0 (rd t636 x29_1)).f4) < 0) = false := decide_eq_false c19; clear c19; have H' := asd H; clear H; have p643 : 0 ≤ (x29_1 : Int) := dt; have q643 : x29_1 < (t636.length : Int) := dt; obtain ⟨ad643, e643, hx643_0⟩ := Kd.at_int (Kd.R_reads' HO_27.out).2.2 x29_1 p643 q643; cases e643; replace p643 := eq_true p643; replace q643 := eq_true q643; have p647 : 0 ≤ ((rd t636 x29_1) : Int) := dt; have q647 : (rd t636 x29_1) < (l0.length : Int) := dt; obtain ⟨ad647, e647, hx647_0, hx647_1, hx647_2, hx647_3, hx647_4, hx647_5⟩ := at_T49 HR0.out (rd t636 x29_1) p647 q647; cases e647; replace hx647_0 := skc HB.out hx647_0; replace hx647_1 := skc HB.out hx647_1; replace hx647_2 := skc HB.out hx647_2; replace hx647_3 := skc HB.out hx647_3; replace hx647_4 := skc HB.out hx647_4; replace hx647_5 := skc HB.out hx647_5; replace p647 := eq_true p647; replace q647 := eq_true q647; go_wp2
           go_roundg k1
           case measure => have := HK1.out; omega
           case rel => exact ⟨(wrap64 (x29_1 + 1)), rs, H', ⟨by have := HK1.out; omega⟩, ⟨skR HO_27.out⟩, ⟨skB HB.out⟩⟩
         · rw [if_neg c18] at H; exact absurd H (by simp)
        · rw [if_neg c17] at H; exact absurd H (by simp)
      · rw [if_neg c10] at H; exact absurd H (by simp)
     · rw [if_neg c9] at H; exact absurd H (by simp)
    ·
     rw [if_neg c8] at H; have c8b0 : decide (x29_1 < (t636.length : Int)) = false := decide_eq_false c8; clear c8; simp only [Option.some.injEq, Prod.mk.injEq] at H; obtain ⟨rfl, rfl⟩ := H; go_wp2
     go_ret2
     exact ⟨re, skB HB.out⟩
 ·
  rw [if_neg c3] at H; have c3b0 : (t635 == 0) = false := beq_eq_false_iff_ne.mpr c3; have c3b1 : (t635 != 0) = true := bne_iff_ne.mpr c3; simp only [Option.some.injEq, Prod.mk.injEq] at H; obtain ⟨rfl, rfl⟩ := H; go_enter Try.func30, Try.ntmps30
  go_wp2_with (first | ((with_reducible refine gate_callee (f := 32) rfl ?_); refine goesL_ (some 14) rfl rfl Try.func32 (by kernel_rfl) rfl #[.slice A0 l0.length c0] rfl ags ?_; (with_reducible refine (weigh_Even.calls k _ _ l0 t633 t634 t635 _ ?side1 ?side2 A2.out).mono ?_); (case side1 => exact skC HR0.out); (case side2 => exact HC0.out); rintro e w21 ⟨rfl, hb⟩; refine ⟨_, rfl, ?_⟩; have n0_ := asd (below_step (skB HB.out) hb); clear HB; have HB := n0_; clear n0_; (try clear hb); (try clear hb2); (try clear hk); (try clear hi)))
  go_ret2
  exact ⟨re, skB HB.out⟩
end Go.Proofs.Ytmmjkebboonnkaa.P
/- F55 -/
namespace Go.Proofs.Ytmmjkebboonnkaa.P
open Go.RowKit Go.Proofs.YtmmjkebboonnkaaW.PrintWords Go.Proofs.YtmmjkebboonnkaaW.PrintLast Go.Proofs.YtmmjkebboonnkaaW.PrintMore
attribute [local go_sem] max2_int min2_int max_two min_two max_three min_three max_four min_four   -- for this text's walks alone
set_option linter.unusedVariables false
set_option linter.unusedSimpArgs false
def weigh_Fits.f (k : Nat) (l0 : List (S49)) : Option (Bool × Int) := (weigh_Sums.f k l0).bind fun bt666 => (if bt666.2 = 0 then ((table_Height.f k l0).bind fun bt670 => ((weigh_Bound.f (bt666.1.length : Int)).bind fun bt672 => (some (decide (bt670.1 ≤ bt672.1), 0)))) else (some (false, bt666.2)))
set_option maxHeartbeats 8000000 in
set_option maxRecDepth 100000 in
theorem weigh_Fits.calls (k : Nat) (A0 : Option Addr) (c0 : Nat) (l0 : List (S49)) (r1 : Bool) (r2 : Int) (w : World) (hr0 : Kd.C k49 w A0 l0.length l0) (hc0 : l0.length ≤ c0) (h : weigh_Fits.f k l0 = some (r1, r2)) :
  Calls Try.prog 31 #[.slice A0 l0.length c0] w fun e w' => e = .returned (.tuple #[.bool r1, .int .i64 r2]) ∧ Below w.heap.size w w' := by
 have HR0 := asd hr0; have HC0 := asd hc0; clear hr0 hc0; have HB := asd (Below.refl w.heap.size w); have H : ((weigh_Sums.f k l0).bind fun bt666 => (if bt666.2 = 0 then ((table_Height.f k l0).bind fun bt670 => ((weigh_Bound.f (bt666.1.length : Int)).bind fun bt672 => (some (decide (bt670.1 ≤ bt672.1), 0)))) else (some (false, bt666.2)))) = some (r1, r2) := h; clear h; replace H := Option.bind_eq_some_iff.mp H; obtain ⟨⟨t666, t667⟩, A20, H⟩ := H; replace H : (if t667 = 0 then ((table_Height.f k l0).bind fun bt670 => ((weigh_Bound.f (t666.length : Int)).bind fun bt672 => (some (decide (bt670.1 ≤ bt672.1), 0)))) else (some (false, t667))) = some (r1, r2) := H; have A2 := asd A20; clear A20; by_cases c3 : t667 = 0
 ·
  rw [if_pos c3] at H; have c3b0 : (t667 == 0) = true := beq_iff_eq.mpr c3; have c3b1 : (t667 != 0) = false := bne_eq_false_iff_eq.mpr c3; clear c3; replace H := Option.bind_eq_some_iff.mp H; obtain ⟨⟨t670, t671⟩, A40, H⟩ := H; replace H : ((weigh_Bound.f (t666.length : Int)).bind fun bt672 => (some (decide (t670 ≤ bt672.1), 0))) = some (r1, r2) := H; have A4 := asd A40; clear A40; replace H := Option.bind_eq_some_iff.mp H; obtain ⟨⟨t672, t673⟩, A50, H⟩ := H; replace H : (some (decide (t670 ≤ t672), 0)) = some (r1, r2) := H; have A5 := asd A50; clear A50; simp only [Option.some.injEq, Prod.mk.injEq] at H; obtain ⟨rfl, rfl⟩ := H; go_enter Try.func31, Try.ntmps31
  go_wp2_with (first | ((with_reducible refine gate_callee (f := 25) rfl ?_); refine goesL_ (some 12) rfl rfl Try.func25 (by kernel_rfl) rfl #[.slice A0 l0.length c0] rfl ags ?_; (with_reducible refine (weigh_Sums.calls k _ _ l0 t666 t667 _ ?side1 ?side2 A2.out).mono ?_); (case side1 => exact skC HR0.out); (case side2 => exact HC0.out); rintro e w6 ⟨v668, rfl, ho0, hb⟩; refine ⟨_, rfl, ?_⟩; have n0_ := asd (Kd.R_lower ho0 (below_size (skB HB.out))); have n1_ := asd (below_step (skB HB.out) hb); clear HB; have HO669 := n0_; have HB := n1_; clear n0_ n1_; (try clear hb); (try clear hb2); (try clear hk); (try clear hi); (try clear ho0)) | ((with_reducible refine gate_callee (f := 57) rfl ?_); refine goesL_ (some 20) rfl rfl Try.func57 (by kernel_rfl) rfl #[.slice A0 l0.length c0] rfl ags ?_; (with_reducible refine (table_Height.calls k _ _ l0 t670 t671 _ ?side1 ?side2 A4.out).mono ?_); (case side1 => exact skC (Kd.C_below HR0.out HB.out)); (case side2 => exact HC0.out); rintro e w7 ⟨rfl, hb⟩; refine ⟨_, rfl, ?_⟩; have n0_ := asd (Kd.R_below (skR HO669.out) hb); have n1_ := asd (below_step (skB HB.out) hb); clear HO669 HB; have HO669 := n0_; have HB := n1_; clear n0_ n1_; (try clear hb); (try clear hb2); (try clear hk); (try clear hi); obtain ⟨Ao8, co8, eo8⟩ := Kd.R_slice HO669.out; subst eo8) | ((with_reducible refine gate_callee (f := 40) rfl ?_); refine goesL_ (some 26) rfl rfl Try.func40 (by kernel_rfl) rfl #[.int .i64 (t666.length : Int)] rfl ags ?_; (with_reducible refine (weigh_Bound.calls (t666.length : Int) t672 t673 _ A5.out).mono ?_); rintro e w' ⟨rfl, ⟨nd, rfl⟩⟩; refine ⟨_, rfl, ?_⟩))
  go_ret2
  exact ⟨re, skB HB.out⟩
 ·
  rw [if_neg c3] at H; have c3b0 : (t667 == 0) = false := beq_eq_false_iff_ne.mpr c3; have c3b1 : (t667 != 0) = true := bne_iff_ne.mpr c3; simp only [Option.some.injEq, Prod.mk.injEq] at H; obtain ⟨rfl, rfl⟩ := H; go_enter Try.func31, Try.ntmps31
  go_wp2_with (first | ((with_reducible refine gate_callee (f := 25) rfl ?_); refine goesL_ (some 12) rfl rfl Try.func25 (by kernel_rfl) rfl #[.slice A0 l0.length c0] rfl ags ?_; (with_reducible refine (weigh_Sums.calls k _ _ l0 t666 t667 _ ?side1 ?side2 A2.out).mono ?_); (case side1 => exact skC HR0.out); (case side2 => exact HC0.out); rintro e w9 ⟨v668, rfl, ho0, hb⟩; refine ⟨_, rfl, ?_⟩; have n0_ := asd (Kd.R_lower ho0 (below_size (skB HB.out))); have n1_ := asd (below_step (skB HB.out) hb); clear HB; have HO669 := n0_; have HB := n1_; clear n0_ n1_; (try clear hb); (try clear hb2); (try clear hk); (try clear hi); (try clear ho0)))
  go_ret2
  exact ⟨re, skB HB.out⟩
end Go.Proofs.Ytmmjkebboonnkaa.P
/- F66 -/
namespace Go.Proofs.Ytmmjkebboonnkaa.P
open Go.RowKit Go.Proofs.YtmmjkebboonnkaaW.PrintWords Go.Proofs.YtmmjkebboonnkaaW.PrintLast Go.Proofs.YtmmjkebboonnkaaW.PrintMore
attribute [local go_sem] max2_int min2_int max_two min_two max_three min_three max_four min_four   -- for this text's walks alone
set_option linter.unusedVariables false
set_option linter.unusedSimpArgs false
end Go.Proofs.Ytmmjkebboonnkaa.P
/- F49 -/
namespace Go.Proofs.Ytmmjkebboonnkaa.P
open Go.RowKit Go.Proofs.YtmmjkebboonnkaaW.PrintWords Go.Proofs.YtmmjkebboonnkaaW.PrintLast Go.Proofs.YtmmjkebboonnkaaW.PrintMore
attribute [local go_sem] max2_int min2_int max_two min_two max_three min_three max_four min_four   -- for this text's walks alone
set_option linter.unusedVariables false
set_option linter.unusedSimpArgs false
end Go.Proofs.Ytmmjkebboonnkaa.P
