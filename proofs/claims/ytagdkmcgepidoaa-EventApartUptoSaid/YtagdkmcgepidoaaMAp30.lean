/- P.eventApart_holds, part 31 of 41: the contracts of the Go functions that the law calls, its own walk, and its plain law, for every input that the statement speaks of. -/
import Derived.Test.YtagdkmcgepidoaaMAp2
import Derived.Test.YtagdkmcgepidoaaMAp14
import Derived.Test.YtagdkmcgepidoaaMAp4
import Derived.Test.YtagdkmcgepidoaaMAp20
import Derived.Test.YtagdkmcgepidoaaMAp1
import Derived.Test.YtagdkmcgepidoaaMAp5
import Derived.Test.YtagdkmcgepidoaaMAp25
import Derived.Test.YtagdkmcgepidoaaMAp8
import Derived.Test.YtagdkmcgepidoaaMAp24
import Derived.Test.YtagdkmcgepidoaaMAp27
import Derived.Test.YtagdkmcgepidoaaMAp29
import Derived.Test.YtagdkmcgepidoaaMAp12
set_option linter.unusedVariables false
set_option linter.unusedSimpArgs false
/- F15 -/
namespace Go.Proofs.Ytagdkmcgepidoaa.P
open Go.RowKit Go.Proofs.YtagdkmcgepidoaaW.PrintWords Go.Proofs.YtagdkmcgepidoaaW.PrintLast Go.Proofs.YtagdkmcgepidoaaW.PrintMore
attribute [local go_sem] max2_int min2_int max_two min_two max_three min_three max_four min_four   -- for this text's walks alone
set_option linter.unusedVariables false
set_option linter.unusedSimpArgs false
def larchlaw05_known.f  : Option (Bool) := (larchlaw05_sample.f).bind fun t125 => ((event_Orders.f t125).bind fun bt128 => ((larchlaw05_sample.f).bind fun t130 => ((event_Ahead.f t130 0 1).bind fun bt133 => (if bt128.1 = 2 then (if bt128.2 = 0 then (if bt133.1 = true then (none) else (some (bt133.2 == 0))) else (none)) else (none)))))
set_option maxHeartbeats 8000000 in
set_option maxRecDepth 100000 in
theorem larchlaw05_known.calls  (r : Bool) (w : World) (h : larchlaw05_known.f  = some r) :
  Calls Try.prog 12 #[] w fun e w' => e = .returned (.bool r) ∧ Below w.heap.size w w' := by
 have HB := asd (Below.refl w.heap.size w)
 have H : ((larchlaw05_sample.f).bind fun t125 => ((event_Orders.f t125).bind fun bt128 => ((larchlaw05_sample.f).bind fun t130 => ((event_Ahead.f t130 0 1).bind fun bt133 => (if bt128.1 = 2 then (if bt128.2 = 0 then (if bt133.1 = true then (none) else (some (bt133.2 == 0))) else (none)) else (none)))))) = some r := h
 clear h
 replace H := Option.bind_eq_some_iff.mp H
 obtain ⟨t125, A10, H⟩ := H
 replace H : ((event_Orders.f t125).bind fun bt128 => ((larchlaw05_sample.f).bind fun t130 => ((event_Ahead.f t130 0 1).bind fun bt133 => (if bt128.1 = 2 then (if bt128.2 = 0 then (if bt133.1 = true then (none) else (some (bt133.2 == 0))) else (none)) else (none))))) = some r := H
 have A1 := asd A10
 clear A10
 replace H := Option.bind_eq_some_iff.mp H
 obtain ⟨⟨t128, t129⟩, A20, H⟩ := H
 replace H : ((larchlaw05_sample.f).bind fun t130 => ((event_Ahead.f t130 0 1).bind fun bt133 => (if t128 = 2 then (if t129 = 0 then (if bt133.1 = true then (none) else (some (bt133.2 == 0))) else (none)) else (none)))) = some r := H
 have A2 := asd A20
 clear A20
 replace H := Option.bind_eq_some_iff.mp H
 obtain ⟨t130, A30, H⟩ := H
 replace H : ((event_Ahead.f t130 0 1).bind fun bt133 => (if t128 = 2 then (if t129 = 0 then (if bt133.1 = true then (none) else (some (bt133.2 == 0))) else (none)) else (none))) = some r := H
 have A3 := asd A30
 clear A30
 replace H := Option.bind_eq_some_iff.mp H
 obtain ⟨⟨t133, t134⟩, A40, H⟩ := H
 replace H : (if t128 = 2 then (if t129 = 0 then (if t133 = true then (none) else (some (t134 == 0))) else (none)) else (none)) = some r := H
 have A4 := asd A40
 clear A40
 by_cases c5 : t128 = 2
 ·
  rw [if_pos c5] at H
  have c5b0 : (t128 == 2) = true := beq_iff_eq.mpr c5
  have c5b1 : (t128 != 2) = false := bne_eq_false_iff_eq.mpr c5
  clear c5
  by_cases c6 : t129 = 0
  ·
   rw [if_pos c6] at H
   have c6b0 : (t129 == 0) = true := beq_iff_eq.mpr c6
   have c6b1 : (t129 != 0) = false := bne_eq_false_iff_eq.mpr c6
   clear c6
   by_cases c7 : t133 = true
   ·
    subst c7
    have H1 : (none) = some r := by rw [if_pos rfl] at H; exact H
    clear H
    have H := H1
    clear H1
    exact absurd H (by simp)
   ·
    replace c7 := Bool.eq_false_iff.mpr c7
    subst c7
    have H1 : (some (t134 == 0)) = some r := by rw [if_neg (show ¬ (false = true) by decide)] at H; exact H
    clear H
    have H := H1
    clear H1
    obtain rfl := Option.some.inj H
    go_enter Try.func12, Try.ntmps12
    go_wp2_with (first | ((with_reducible refine gate_callee (f := 45) rfl ?_); refine goesL_ (some 6) rfl rfl Try.func45 (by kernel_rfl) rfl #[] rfl ags ?_; (with_reducible refine (larchlaw05_sample.calls  t125 _ A1.out).mono ?_); rintro e w8 ⟨v126, rfl, ho0, hb⟩; refine ⟨_, rfl, ?_⟩; have n0_ := asd (Kd.S_lower ho0 (below_size (skB HB.out))); have n1_ := asd (below_step (skB HB.out) hb); clear HB; have HO127 := n0_; have HB := n1_; clear n0_ n1_; (try clear hb); (try clear hb2); (try clear hk); (try clear hi); (try clear ho0); obtain ⟨Ao9, co9, eo9⟩ := Kd.S_slice HO127.out; subst eo9) | ((with_reducible refine gate_callee (f := 19) rfl ?_); refine goesL_ (some 7) rfl rfl Try.func19 (by kernel_rfl) rfl #[.slice Ao9 t125.length co9] rfl ags ?_; (with_reducible refine (event_Orders.calls _ _ t125 t128 t129 _ ?side1 ?side2 A2.out).mono ?_); (case side1 => exact skC (Kd.S_reads' HO127.out).2.2); (case side2 => exact (Kd.S_reads' HO127.out).2.1); rintro e w10 ⟨rfl, hb⟩; refine ⟨_, rfl, ?_⟩; have n0_ := asd (Kd.S_below (by (with_reducible repeat (first | apply Kd.S_alloc | apply Kd.S_drewN | apply Kd.S_drew)); exact HO127.out) hb); have n1_ := asd (below_step (skB HB.out) hb); clear HO127; clear HB; have HO127 := n0_; have HB := n1_; clear n0_ n1_; (try clear hb); (try clear hb2); (try clear hk); (try clear hi)) | ((with_reducible refine gate_callee (f := 45) rfl ?_); refine goesL_ (some 11) rfl rfl Try.func45 (by kernel_rfl) rfl #[] rfl ags ?_; (with_reducible refine (larchlaw05_sample.calls  t130 _ A3.out).mono ?_); rintro e w11 ⟨v131, rfl, ho0, hb⟩; refine ⟨_, rfl, ?_⟩; have n0_ := asd (Kd.S_elder' (by (with_reducible repeat (first | apply Kd.S_alloc | apply Kd.S_drewN | apply Kd.S_drew)); exact HO127.out) (Kd.S_base ho0) hb); have n1_ := asd (Kd.S_lower (Kd.S_new' ho0 (Kd.S_lt (by (with_reducible repeat (first | apply Kd.S_alloc | apply Kd.S_drewN | apply Kd.S_drew)); exact HO127.out))) (below_size (skB HB.out))); have n2_ := asd (below_step (skB HB.out) hb); clear HO127; clear HB; have HO127 := n0_; have HO132 := n1_; have HB := n2_; clear n0_ n1_ n2_; (try clear hb); (try clear hb2); (try clear hk); (try clear hi); (try clear ho0); obtain ⟨Ao12, co12, eo12⟩ := Kd.S_slice HO132.out; subst eo12) | ((with_reducible refine gate_callee (f := 14) rfl ?_); refine goesL_ (some 12) rfl rfl Try.func14 (by kernel_rfl) rfl #[.slice Ao12 t130.length co12, .int .i64 0, .int .i64 1] rfl ags ?_; (with_reducible refine (event_Ahead.calls _ _ t130 0 1 false t134 _ ?side1 ?side2 A4.out).mono ?_); (case side1 => exact skC (Kd.S_reads' HO132.out).2.2); (case side2 => exact (Kd.S_reads' HO132.out).2.1); rintro e w13 ⟨rfl, hb⟩; refine ⟨_, rfl, ?_⟩; have n0_ := asd (Kd.S_below (by (with_reducible repeat (first | apply Kd.S_alloc | apply Kd.S_drewN | apply Kd.S_drew)); exact HO127.out) hb); have n1_ := asd (Kd.S_below (by (with_reducible repeat (first | apply Kd.S_alloc | apply Kd.S_drewN | apply Kd.S_drew)); exact HO132.out) hb); have n2_ := asd (below_step (skB HB.out) hb); clear HO127; clear HO132; clear HB; have HO127 := n0_; have HO132 := n1_; have HB := n2_; clear n0_ n1_ n2_; (try clear hb); (try clear hb2); (try clear hk); (try clear hi)))
    go_ret
    exact ⟨re, skB HB.out⟩
  ·
   rw [if_neg c6] at H
   exact absurd H (by simp)
 ·
  rw [if_neg c5] at H
  exact absurd H (by simp)
end Go.Proofs.Ytagdkmcgepidoaa.P
/- F41 -/
namespace Go.Proofs.Ytagdkmcgepidoaa.P
open Go.RowKit Go.Proofs.YtagdkmcgepidoaaW.PrintWords Go.Proofs.YtagdkmcgepidoaaW.PrintLast Go.Proofs.YtagdkmcgepidoaaW.PrintMore
attribute [local go_sem] max2_int min2_int max_two min_two max_three min_three max_four min_four   -- for this text's walks alone
set_option linter.unusedVariables false
set_option linter.unusedSimpArgs false
end Go.Proofs.Ytagdkmcgepidoaa.P
/- F48 -/
namespace Go.Proofs.Ytagdkmcgepidoaa.P
open Go.RowKit Go.Proofs.YtagdkmcgepidoaaW.PrintWords Go.Proofs.YtagdkmcgepidoaaW.PrintLast Go.Proofs.YtagdkmcgepidoaaW.PrintMore
attribute [local go_sem] max2_int min2_int max_two min_two max_three min_three max_four min_four   -- for this text's walks alone
set_option linter.unusedVariables false
set_option linter.unusedSimpArgs false
end Go.Proofs.Ytagdkmcgepidoaa.P
/- F62 -/
namespace Go.Proofs.Ytagdkmcgepidoaa.P
open Go.RowKit Go.Proofs.YtagdkmcgepidoaaW.PrintWords Go.Proofs.YtagdkmcgepidoaaW.PrintLast Go.Proofs.YtagdkmcgepidoaaW.PrintMore
attribute [local go_sem] max2_int min2_int max_two min_two max_three min_three max_four min_four   -- for this text's walks alone
set_option linter.unusedVariables false
set_option linter.unusedSimpArgs false
end Go.Proofs.Ytagdkmcgepidoaa.P
/- F63 -/
namespace Go.Proofs.Ytagdkmcgepidoaa.P
open Go.RowKit Go.Proofs.YtagdkmcgepidoaaW.PrintWords Go.Proofs.YtagdkmcgepidoaaW.PrintLast Go.Proofs.YtagdkmcgepidoaaW.PrintMore
attribute [local go_sem] max2_int min2_int max_two min_two max_three min_three max_four min_four   -- for this text's walks alone
set_option linter.unusedVariables false
set_option linter.unusedSimpArgs false
end Go.Proofs.Ytagdkmcgepidoaa.P
/- F64 -/
namespace Go.Proofs.Ytagdkmcgepidoaa.P
open Go.RowKit Go.Proofs.YtagdkmcgepidoaaW.PrintWords Go.Proofs.YtagdkmcgepidoaaW.PrintLast Go.Proofs.YtagdkmcgepidoaaW.PrintMore
attribute [local go_sem] max2_int min2_int max_two min_two max_three min_three max_four min_four   -- for this text's walks alone
set_option linter.unusedVariables false
set_option linter.unusedSimpArgs false
end Go.Proofs.Ytagdkmcgepidoaa.P
