/- P.eventOrders_holds, part 19 of 22: the contracts of the Go functions that the law calls, its own walk, and its plain law, for every input that the statement speaks of. -/
import Derived.Test.YtagdkmcgepidoaaMOrders2
import Derived.Test.YtagdkmcgepidoaaMOrders12
import Derived.Test.YtagdkmcgepidoaaMOrders4
import Derived.Test.YtagdkmcgepidoaaMOrders17
import Derived.Test.YtagdkmcgepidoaaMOrders1
import Derived.Test.YtagdkmcgepidoaaMOrders11
import Derived.Test.YtagdkmcgepidoaaMOrders6
import Derived.Test.YtagdkmcgepidoaaMOrders7
import Derived.Test.YtagdkmcgepidoaaMOrders9
import Derived.Test.YtagdkmcgepidoaaMOrders10
set_option linter.unusedVariables false
set_option linter.unusedSimpArgs false
/- F15 -/
namespace Go.Proofs.Ytagdkmcgepidoaa.P
open Go.RowKit Go.Proofs.YtagdkmcgepidoaaW.PrintWords Go.Proofs.YtagdkmcgepidoaaW.PrintLast Go.Proofs.YtagdkmcgepidoaaW.PrintMore
attribute [local go_sem] max2_int min2_int max_two min_two max_three min_three max_four min_four   -- for this text's walks alone
set_option linter.unusedVariables false
set_option linter.unusedSimpArgs false
def larchlaw05_known.f  : Option (Bool) := (larchlaw05_sample.f).bind fun t125 => ((event_Orders.f t125).bind fun bt128 => ((larchlaw05_sample.f).bind fun t130 => ((event_Ahead.f t130 0 1).bind fun bt133 => (if bt128.1 = 2 then (if bt128.2 = 0 then (if bt133.1 = true then (none) else (some (bt133.2 == 0))) else (none)) else (none)))))
set_option maxHeartbeats 8000000 in
set_option maxRecDepth 100000 in
theorem larchlaw05_known.calls  (r : Bool) (w : World) (h : larchlaw05_known.f  = some r) :
  Calls Try.prog 12 #[] w fun e w' => e = .returned (.bool r) ∧ Below w.heap.size w w' := by
 have HB := asd (Below.refl w.heap.size w)
 have H : ((larchlaw05_sample.f).bind fun t125 => ((event_Orders.f t125).bind fun bt128 => ((larchlaw05_sample.f).bind fun t130 => ((event_Ahead.f t130 0 1).bind fun bt133 => (if bt128.1 = 2 then (if bt128.2 = 0 then (if bt133.1 = true then (none) else (some (bt133.2 == 0))) else (none)) else (none)))))) = some r := h
 clear h
 replace H := Option.bind_eq_some_iff.mp H
 obtain ⟨t125, A10, H⟩ := H
 replace H : ((event_Orders.f t125).bind fun bt128 => ((larchlaw05_sample.f).bind fun t130 => ((event_Ahead.f t130 0 1).bind fun bt133 => (if bt128.1 = 2 then (if bt128.2 = 0 then (if bt133.1 = true then (none) else (some (bt133.2 == 0))) else (none)) else (none))))) = some r := H
 have A1 := asd A10
 clear A10
 replace H := Option.bind_eq_some_iff.mp H
 obtain ⟨⟨t128, t129⟩, A20, H⟩ := H
 replace H : ((larchlaw05_sample.f).bind fun t130 => ((event_Ahead.f t130 0 1).bind fun bt133 => (if t128 = 2 then (if t129 = 0 then (if bt133.1 = true then (none) else (some (bt133.2 == 0))) else (none)) else (none)))) = some r := H
 have A2 := asd A20
 clear A20
 replace H := Option.bind_eq_some_iff.mp H
 obtain ⟨t130, A30, H⟩ := H
 replace H : ((event_Ahead.f t130 0 1).bind fun bt133 => (if t128 = 2 then (if t129 = 0 then (if bt133.1 = true then (none) else (some (bt133.2 == 0))) else (none)) else (none))) = some r := H
 have A3 := asd A30
 clear A30
 replace H := Option.bind_eq_some_iff.mp H
 obtain ⟨⟨t133, t134⟩, A40, H⟩ := H
 replace H : (if t128 = 2 then (if t129 = 0 then (if t133 = true then (none) else (some (t134 == 0))) else (none)) else (none)) = some r := H
 have A4 := asd A40
 clear A40
 by_cases c5 : t128 = 2
 ·
  rw [if_pos c5] at H
  have c5b0 : (t128 == 2) = true := beq_iff_eq.mpr c5
  have c5b1 : (t128 != 2) = false := bne_eq_false_iff_eq.mpr c5
  clear c5
  by_cases c6 : t129 = 0
  ·
   rw [if_pos c6] at H
   have c6b0 : (t129 == 0) = true := beq_iff_eq.mpr c6
   have c6b1 : (t129 != 0) = false := bne_eq_false_iff_eq.mpr c6
   clear c6
   by_cases c7 : t133 = true
   ·
    subst c7
    have H1 : (none) = some r := by rw [if_pos rfl] at H; exact H
    clear H
    have H := H1
    clear H1
    exact absurd H (by simp)
   ·
    replace c7 := Bool.eq_false_iff.mpr c7
    subst c7
    have H1 : (some (t134 == 0)) = some r := by rw [if_neg (show ¬ (false = true) by decide)] at H; exact H
    clear H
    have H := H1
    clear H1
    obtain rfl := Option.some.inj H
    go_enter Try.func12, Try.ntmps12
    go_wp2_with (first | ((with_reducible refine gate_callee (f := 45) rfl ?_); refine goesL_ (some 6) rfl rfl Try.func45 (by kernel_rfl) rfl #[] rfl ags ?_; (with_reducible refine (larchlaw05_sample.calls  t125 _ A1.out).mono ?_); rintro e w8 ⟨v126, rfl, ho0, hb⟩; refine ⟨_, rfl, ?_⟩; have n0_ := asd (Kd.S_lower ho0 (below_size (skB HB.out))); have n1_ := asd (below_step (skB HB.out) hb); clear HB; have HO127 := n0_; have HB := n1_; clear n0_ n1_; (try clear hb); (try clear hb2); (try clear hk); (try clear hi); (try clear ho0); obtain ⟨Ao9, co9, eo9⟩ := Kd.S_slice HO127.out; subst eo9) | ((with_reducible refine gate_callee (f := 19) rfl ?_); refine goesL_ (some 7) rfl rfl Try.func19 (by kernel_rfl) rfl #[.slice Ao9 t125.length co9] rfl ags ?_; (with_reducible refine (event_Orders.calls _ _ t125 t128 t129 _ ?side1 ?side2 A2.out).mono ?_); (case side1 => exact skC (Kd.S_reads' HO127.out).2.2); (case side2 => exact (Kd.S_reads' HO127.out).2.1); rintro e w10 ⟨rfl, hb⟩; refine ⟨_, rfl, ?_⟩; have n0_ := asd (Kd.S_below (by (with_reducible repeat (first | apply Kd.S_alloc | apply Kd.S_drewN | apply Kd.S_drew)); exact HO127.out) hb); have n1_ := asd (below_step (skB HB.out) hb); clear HO127; clear HB; have HO127 := n0_; have HB := n1_; clear n0_ n1_; (try clear hb); (try clear hb2); (try clear hk); (try clear hi)) | ((with_reducible refine gate_callee (f := 45) rfl ?_); refine goesL_ (some 11) rfl rfl Try.func45 (by kernel_rfl) rfl #[] rfl ags ?_; (with_reducible refine (larchlaw05_sample.calls  t130 _ A3.out).mono ?_); rintro e w11 ⟨v131, rfl, ho0, hb⟩; refine ⟨_, rfl, ?_⟩; have n0_ := asd (Kd.S_elder' (by (with_reducible repeat (first | apply Kd.S_alloc | apply Kd.S_drewN | apply Kd.S_drew)); exact HO127.out) (Kd.S_base ho0) hb); have n1_ := asd (Kd.S_lower (Kd.S_new' ho0 (Kd.S_lt (by (with_reducible repeat (first | apply Kd.S_alloc | apply Kd.S_drewN | apply Kd.S_drew)); exact HO127.out))) (below_size (skB HB.out))); have n2_ := asd (below_step (skB HB.out) hb); clear HO127; clear HB; have HO127 := n0_; have HO132 := n1_; have HB := n2_; clear n0_ n1_ n2_; (try clear hb); (try clear hb2); (try clear hk); (try clear hi); (try clear ho0); obtain ⟨Ao12, co12, eo12⟩ := Kd.S_slice HO132.out; subst eo12) | ((with_reducible refine gate_callee (f := 14) rfl ?_); refine goesL_ (some 12) rfl rfl Try.func14 (by kernel_rfl) rfl #[.slice Ao12 t130.length co12, .int .i64 0, .int .i64 1] rfl ags ?_; (with_reducible refine (event_Ahead.calls _ _ t130 0 1 false t134 _ ?side1 ?side2 A4.out).mono ?_); (case side1 => exact skC (Kd.S_reads' HO132.out).2.2); (case side2 => exact (Kd.S_reads' HO132.out).2.1); rintro e w13 ⟨rfl, hb⟩; refine ⟨_, rfl, ?_⟩; have n0_ := asd (Kd.S_below (by (with_reducible repeat (first | apply Kd.S_alloc | apply Kd.S_drewN | apply Kd.S_drew)); exact HO127.out) hb); have n1_ := asd (Kd.S_below (by (with_reducible repeat (first | apply Kd.S_alloc | apply Kd.S_drewN | apply Kd.S_drew)); exact HO132.out) hb); have n2_ := asd (below_step (skB HB.out) hb); clear HO127; clear HO132; clear HB; have HO127 := n0_; have HO132 := n1_; have HB := n2_; clear n0_ n1_ n2_; (try clear hb); (try clear hb2); (try clear hk); (try clear hi)))
    go_ret
    exact ⟨re, skB HB.out⟩
  ·
   rw [if_neg c6] at H
   exact absurd H (by simp)
 ·
  rw [if_neg c5] at H
  exact absurd H (by simp)
end Go.Proofs.Ytagdkmcgepidoaa.P
/- F41 -/
namespace Go.Proofs.Ytagdkmcgepidoaa.P
open Go.RowKit Go.Proofs.YtagdkmcgepidoaaW.PrintWords Go.Proofs.YtagdkmcgepidoaaW.PrintLast Go.Proofs.YtagdkmcgepidoaaW.PrintMore
attribute [local go_sem] max2_int min2_int max_two min_two max_three min_three max_four min_four   -- for this text's walks alone
set_option linter.unusedVariables false
set_option linter.unusedSimpArgs false
end Go.Proofs.Ytagdkmcgepidoaa.P
/- F48 -/
namespace Go.Proofs.Ytagdkmcgepidoaa.P
open Go.RowKit Go.Proofs.YtagdkmcgepidoaaW.PrintWords Go.Proofs.YtagdkmcgepidoaaW.PrintLast Go.Proofs.YtagdkmcgepidoaaW.PrintMore
attribute [local go_sem] max2_int min2_int max_two min_two max_three min_three max_four min_four   -- for this text's walks alone
set_option linter.unusedVariables false
set_option linter.unusedSimpArgs false
end Go.Proofs.Ytagdkmcgepidoaa.P
/- F62 -/
namespace Go.Proofs.Ytagdkmcgepidoaa.P
open Go.RowKit Go.Proofs.YtagdkmcgepidoaaW.PrintWords Go.Proofs.YtagdkmcgepidoaaW.PrintLast Go.Proofs.YtagdkmcgepidoaaW.PrintMore
attribute [local go_sem] max2_int min2_int max_two min_two max_three min_three max_four min_four   -- for this text's walks alone
set_option linter.unusedVariables false
set_option linter.unusedSimpArgs false
def larchlaw05_EventOrders.j0 : Nat → List (S67) → Bool → Option (Bool)
 | 0, _, _ => none
 | k + 1, x0, x32 => if x32 = true then (none) else ((larchref05_Orders.f k x0).bind fun bt482 => ((event_Orders.f x0).bind fun bt484 => (if bt482.1 = bt484.1 then (some (bt482.2 == bt484.2)) else (none))))
def larchlaw05_EventOrders.f (k : Nat) (l0 : List (S67)) (l1 : List Int) : Option (Bool) := (larchlaw05_known.f).bind fun t477 => (if t477 = true then ((larchref05_Fits.f k l0 l1).bind fun bt478 => ((event_Fits.f k l0 l1).bind fun bt480 => (if (bt478.1 != bt480.1) = true then (larchlaw05_EventOrders.j0 k l0 true) else (larchlaw05_EventOrders.j0 k l0 (bt478.2 != bt480.2))))) else (none))
set_option maxHeartbeats 8000000 in
set_option maxRecDepth 100000 in
theorem larchlaw05_EventOrders.calls (k : Nat) (A0 : Option Addr) (c0 : Nat) (l0 : List (S67)) (A1 : Option Addr) (c1 : Nat) (l1 : List Int) (r : Bool) (w : World) (hr0 : Kd.C k67 w A0 l0.length l0) (hc0 : l0.length ≤ c0) (hr1 : Kd.C (Kd.int .i64) w A1 l1.length l1) (hc1 : l1.length ≤ c1) (h : larchlaw05_EventOrders.f k l0 l1 = some r) :
  Calls Try.prog 4 #[.slice A0 l0.length c0, .slice A1 l1.length c1] w fun e w' => e = .returned (.bool r) ∧ Below w.heap.size w w' := by
 have HR0 := asd hr0
 have HC0 := asd hc0
 clear hr0 hc0
 have HR1 := asd hr1
 have HC1 := asd hc1
 clear hr1 hc1
 have HB := asd (Below.refl w.heap.size w)
 have H : ((larchlaw05_known.f).bind fun t477 => (if t477 = true then ((larchref05_Fits.f k l0 l1).bind fun bt478 => ((event_Fits.f k l0 l1).bind fun bt480 => (if (bt478.1 != bt480.1) = true then (larchlaw05_EventOrders.j0 k l0 true) else (larchlaw05_EventOrders.j0 k l0 (bt478.2 != bt480.2))))) else (none))) = some r := h
 clear h
 replace H := Option.bind_eq_some_iff.mp H
 obtain ⟨t477, A30, H⟩ := H
 replace H : (if t477 = true then ((larchref05_Fits.f k l0 l1).bind fun bt478 => ((event_Fits.f k l0 l1).bind fun bt480 => (if (bt478.1 != bt480.1) = true then (larchlaw05_EventOrders.j0 k l0 true) else (larchlaw05_EventOrders.j0 k l0 (bt478.2 != bt480.2))))) else (none)) = some r := H
 have A3 := asd A30
 clear A30
 by_cases c4 : t477 = true
 ·
  subst c4
  have H1 : ((larchref05_Fits.f k l0 l1).bind fun bt478 => ((event_Fits.f k l0 l1).bind fun bt480 => (if (bt478.1 != bt480.1) = true then (larchlaw05_EventOrders.j0 k l0 true) else (larchlaw05_EventOrders.j0 k l0 (bt478.2 != bt480.2))))) = some r := by rw [if_pos rfl] at H; exact H
  clear H
  have H := H1
  clear H1
  replace H := Option.bind_eq_some_iff.mp H
  obtain ⟨⟨t478, t479⟩, A50, H⟩ := H
  replace H : ((event_Fits.f k l0 l1).bind fun bt480 => (if (t478 != bt480.1) = true then (larchlaw05_EventOrders.j0 k l0 true) else (larchlaw05_EventOrders.j0 k l0 (t479 != bt480.2)))) = some r := H
  have A5 := asd A50
  clear A50
  replace H := Option.bind_eq_some_iff.mp H
  obtain ⟨⟨t480, t481⟩, A60, H⟩ := H
  replace H : (if (t478 != t480) = true then (larchlaw05_EventOrders.j0 k l0 true) else (larchlaw05_EventOrders.j0 k l0 (t479 != t481))) = some r := H
  have A6 := asd A60
  clear A60
  have HC7 := asd H
  clear H
  go_enter Try.func4, Try.ntmps4
  go_upto_region 5 with (first | ((with_reducible refine gate_callee (f := 12) rfl ?_); refine goesL_ (some 11) rfl rfl Try.func12 (by kernel_rfl) rfl #[] rfl ags ?_; (with_reducible refine (larchlaw05_known.calls  true _ A3.out).mono ?_); rintro e w8 ⟨rfl, hb⟩; refine ⟨_, rfl, ?_⟩; have n0_ := asd (below_step (skB HB.out) hb); clear HB; have HB := n0_; clear n0_; (try clear hb); (try clear hb2); (try clear hk); (try clear hi)) | ((with_reducible refine gate_callee (f := 16) rfl ?_); refine goesL_ (some 16) rfl rfl Try.func16 (by kernel_rfl) rfl #[.slice A0 l0.length c0, .slice A1 l1.length c1] rfl ags ?_; (with_reducible refine (larchref05_Fits.calls k _ _ l0 _ _ l1 t478 t479 _ ?side1 ?side2 ?side3 ?side4 A5.out).mono ?_); (case side1 => exact skC (Kd.C_below HR0.out HB.out)); (case side2 => exact HC0.out); (case side3 => exact skC (Kd.C_below HR1.out HB.out)); (case side4 => exact HC1.out); rintro e w9 ⟨rfl, hb⟩; refine ⟨_, rfl, ?_⟩; have n0_ := asd (below_step (skB HB.out) hb); clear HB; have HB := n0_; clear n0_; (try clear hb); (try clear hb2); (try clear hk); (try clear hi)) | ((with_reducible refine gate_callee (f := 17) rfl ?_); refine goesL_ (some 22) rfl rfl Try.func17 (by kernel_rfl) rfl #[.slice A0 l0.length c0, .slice A1 l1.length c1] rfl ags ?_; (with_reducible refine (event_Fits.calls k _ _ l0 _ _ l1 t480 t481 _ ?side1 ?side2 ?side3 ?side4 A6.out).mono ?_); (case side1 => exact skC (Kd.C_below HR0.out HB.out)); (case side2 => exact HC0.out); (case side3 => exact skC (Kd.C_below HR1.out HB.out)); (case side4 => exact HC1.out); rintro e w10 ⟨rfl, hb⟩; refine ⟨_, rfl, ?_⟩; have n0_ := asd (below_step (skB HB.out) hb); clear HB; have HB := n0_; clear n0_; (try clear hb); (try clear hb2); (try clear hk); (try clear hi)))
  (try simp only [Act.put, List.setIfInBounds_toArray, List.set_cons_zero, List.set_cons_succ])
  go_cut [32] (fun v32 wc => ∃ (kq : Nat) (x32_6 : Bool), v32 = .bool x32_6 ∧ Aside0 (larchlaw05_EventOrders.j0 kq l0 x32_6 = some r) ∧ Aside0 (kq ≤ k) ∧ Aside0 (Below w.heap.size w wc))
  case first =>
   have H := HC7.out
   clear HC7
   by_cases c11 : (t478 != t480) = true
   ·
    rw [if_pos c11] at H
    have c11b0 : (t478 != t480) = true := c11
    (try (have c11b1 : decide (t478 = t480) = false := by simpa using c11))
    (try (have c11b2 : (t478 == t480) = false := by simpa using c11))
    (try (have c11b3 : ¬ (t478 = t480) := by simpa using c11))
    clear c11
    (first | rw [c11b0] | (simp only [i64_w, i32_w]; rw [c11b0]) | skip)
    have H' := asd H
    clear H
    go_wp2
    go_meet
    case rel => exact ⟨_, (true), rs, H', ⟨by first | omega | exact Nat.le_refl _⟩, ⟨skB HB.out⟩⟩
   ·
    rw [if_neg c11] at H
    have c11b0 : (t478 != t480) = false := by simpa using c11
    (try (have c11b1 : decide (t478 = t480) = true := by simpa using c11))
    (try (have c11b2 : (t478 == t480) = true := by simpa using c11))
    clear c11
    (first | rw [c11b0] | (simp only [i64_w, i32_w]; rw [c11b0]) | skip)
    have H' := asd H
    clear H
    go_wp2
    go_meet
    case rel => exact ⟨_, ((t479 != t481)), rs, H', ⟨by first | omega | exact Nat.le_refl _⟩, ⟨skB HB.out⟩⟩
  case rest =>
   clear HC7
   try clear c1
   try clear p2
   try clear c4
   try clear c11
   try clear c11b0
   try clear c11b1
   try clear c11b2
   obtain ⟨kq, x32_6, rfl, HA, HJ6, HB⟩ := hcut
   cases kq with
   | zero => exact absurd HA.out (by simp [larchlaw05_EventOrders.j0])
   | succ kj6 =>
    have H := HA.out
    clear HA
    simp only [larchlaw05_EventOrders.j0] at H
    by_cases c12 : x32_6 = true
    ·
     subst c12
     have H1 : (none) = some r := by rw [if_pos rfl] at H; exact H
     clear H
     have H := H1
     clear H1
     exact absurd H (by simp)
    ·
     replace c12 := Bool.eq_false_iff.mpr c12
     subst c12
     have H1 : ((larchref05_Orders.f kj6 l0).bind fun bt482 => ((event_Orders.f l0).bind fun bt484 => (if bt482.1 = bt484.1 then (some (bt482.2 == bt484.2)) else (none)))) = some r := by rw [if_neg (show ¬ (false = true) by decide)] at H; exact H
     clear H
     have H := H1
     clear H1
     replace H := Option.bind_eq_some_iff.mp H
     obtain ⟨⟨t482, t483⟩, A130, H⟩ := H
     replace H : ((event_Orders.f l0).bind fun bt484 => (if t482 = bt484.1 then (some (t483 == bt484.2)) else (none))) = some r := H
     have A13 := asd A130
     clear A130
     replace H := Option.bind_eq_some_iff.mp H
     obtain ⟨⟨t484, t485⟩, A140, H⟩ := H
     replace H : (if t482 = t484 then (some (t483 == t485)) else (none)) = some r := H
     have A14 := asd A140
     clear A140
     by_cases c15 : t482 = t484
     ·
      rw [if_pos c15] at H
      have c15b0 : (t482 == t484) = true := beq_iff_eq.mpr c15
      have c15b1 : (t482 != t484) = false := bne_eq_false_iff_eq.mpr c15
      clear c15
      obtain rfl := Option.some.inj H
      go_wp2_with (first | ((with_reducible refine gate_callee (f := 18) rfl ?_); refine goesL_ (some 35) rfl rfl Try.func18 (by kernel_rfl) rfl #[.slice A0 l0.length c0] rfl ags ?_; (with_reducible refine (larchref05_Orders.calls kj6 _ _ l0 t482 t483 _ ?side1 ?side2 A13.out).mono ?_); (case side1 => exact skC (Kd.C_below HR0.out HB.out)); (case side2 => exact HC0.out); rintro e w16 ⟨rfl, hb⟩; refine ⟨_, rfl, ?_⟩; have n0_ := asd (below_step (skB HB.out) hb); clear HB; have HB := n0_; clear n0_; (try clear hb); (try clear hb2); (try clear hk); (try clear hi)) | ((with_reducible refine gate_callee (f := 19) rfl ?_); refine goesL_ (some 40) rfl rfl Try.func19 (by kernel_rfl) rfl #[.slice A0 l0.length c0] rfl ags ?_; (with_reducible refine (event_Orders.calls _ _ l0 t484 t485 _ ?side1 ?side2 A14.out).mono ?_); (case side1 => exact skC (Kd.C_below HR0.out HB.out)); (case side2 => exact HC0.out); rintro e w17 ⟨rfl, hb⟩; refine ⟨_, rfl, ?_⟩; have n0_ := asd (below_step (skB HB.out) hb); clear HB; have HB := n0_; clear n0_; (try clear hb); (try clear hb2); (try clear hk); (try clear hi)))
      go_ret
      exact ⟨re, skB HB.out⟩
     ·
      rw [if_neg c15] at H
      exact absurd H (by simp)
 ·
  replace c4 := Bool.eq_false_iff.mpr c4
  subst c4
  have H1 : (none) = some r := by rw [if_neg (show ¬ (false = true) by decide)] at H; exact H
  clear H
  have H := H1
  clear H1
  exact absurd H (by simp)
end Go.Proofs.Ytagdkmcgepidoaa.P
