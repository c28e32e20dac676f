/- P.eventAhead_holds, part 17 of 20: the contracts of the Go functions that the law calls, its own walk, and its plain law, for every input that the statement speaks of. -/
import Derived.Test.YtagdkmcgepidoaaMAhead2
import Derived.Test.YtagdkmcgepidoaaMAhead10
import Derived.Test.YtagdkmcgepidoaaMAhead15
import Derived.Test.YtagdkmcgepidoaaMAhead1
import Derived.Test.YtagdkmcgepidoaaMAhead9
import Derived.Test.YtagdkmcgepidoaaMAhead4
import Derived.Test.YtagdkmcgepidoaaMAhead5
import Derived.Test.YtagdkmcgepidoaaMAhead7
import Derived.Test.YtagdkmcgepidoaaMAhead8
set_option linter.unusedVariables false
set_option linter.unusedSimpArgs false
/- F15 -/
namespace Go.Proofs.Ytagdkmcgepidoaa.P
open Go.RowKit Go.Proofs.YtagdkmcgepidoaaW.PrintWords Go.Proofs.YtagdkmcgepidoaaW.PrintLast Go.Proofs.YtagdkmcgepidoaaW.PrintMore
attribute [local go_sem] max2_int min2_int max_two min_two max_three min_three max_four min_four   -- for this text's walks alone
set_option linter.unusedVariables false
set_option linter.unusedSimpArgs false
def larchlaw05_known.f  : Option (Bool) := (larchlaw05_sample.f).bind fun t125 => ((event_Orders.f t125).bind fun bt128 => ((larchlaw05_sample.f).bind fun t130 => ((event_Ahead.f t130 0 1).bind fun bt133 => (if bt128.1 = 2 then (if bt128.2 = 0 then (if bt133.1 = true then (none) else (some (bt133.2 == 0))) else (none)) else (none)))))
set_option maxHeartbeats 8000000 in
set_option maxRecDepth 100000 in
theorem larchlaw05_known.calls  (r : Bool) (w : World) (h : larchlaw05_known.f  = some r) :
  Calls Try.prog 12 #[] w fun e w' => e = .returned (.bool r) ∧ Below w.heap.size w w' := by
 have HB := asd (Below.refl w.heap.size w)
 have H : ((larchlaw05_sample.f).bind fun t125 => ((event_Orders.f t125).bind fun bt128 => ((larchlaw05_sample.f).bind fun t130 => ((event_Ahead.f t130 0 1).bind fun bt133 => (if bt128.1 = 2 then (if bt128.2 = 0 then (if bt133.1 = true then (none) else (some (bt133.2 == 0))) else (none)) else (none)))))) = some r := h
 clear h
 replace H := Option.bind_eq_some_iff.mp H
 obtain ⟨t125, A10, H⟩ := H
 replace H : ((event_Orders.f t125).bind fun bt128 => ((larchlaw05_sample.f).bind fun t130 => ((event_Ahead.f t130 0 1).bind fun bt133 => (if bt128.1 = 2 then (if bt128.2 = 0 then (if bt133.1 = true then (none) else (some (bt133.2 == 0))) else (none)) else (none))))) = some r := H
 have A1 := asd A10
 clear A10
 replace H := Option.bind_eq_some_iff.mp H
 obtain ⟨⟨t128, t129⟩, A20, H⟩ := H
 replace H : ((larchlaw05_sample.f).bind fun t130 => ((event_Ahead.f t130 0 1).bind fun bt133 => (if t128 = 2 then (if t129 = 0 then (if bt133.1 = true then (none) else (some (bt133.2 == 0))) else (none)) else (none)))) = some r := H
 have A2 := asd A20
 clear A20
 replace H := Option.bind_eq_some_iff.mp H
 obtain ⟨t130, A30, H⟩ := H
 replace H : ((event_Ahead.f t130 0 1).bind fun bt133 => (if t128 = 2 then (if t129 = 0 then (if bt133.1 = true then (none) else (some (bt133.2 == 0))) else (none)) else (none))) = some r := H
 have A3 := asd A30
 clear A30
 replace H := Option.bind_eq_some_iff.mp H
 obtain ⟨⟨t133, t134⟩, A40, H⟩ := H
 replace H : (if t128 = 2 then (if t129 = 0 then (if t133 = true then (none) else (some (t134 == 0))) else (none)) else (none)) = some r := H
 have A4 := asd A40
 clear A40
 by_cases c5 : t128 = 2
 ·
  rw [if_pos c5] at H
  have c5b0 : (t128 == 2) = true := beq_iff_eq.mpr c5
  have c5b1 : (t128 != 2) = false := bne_eq_false_iff_eq.mpr c5
  clear c5
  by_cases c6 : t129 = 0
  ·
   rw [if_pos c6] at H
   have c6b0 : (t129 == 0) = true := beq_iff_eq.mpr c6
   have c6b1 : (t129 != 0) = false := bne_eq_false_iff_eq.mpr c6
   clear c6
   by_cases c7 : t133 = true
   ·
    subst c7
    have H1 : (none) = some r := by rw [if_pos rfl] at H; exact H
    clear H
    have H := H1
    clear H1
    exact absurd H (by simp)
   ·
    replace c7 := Bool.eq_false_iff.mpr c7
    subst c7
    have H1 : (some (t134 == 0)) = some r := by rw [if_neg (show ¬ (false = true) by decide)] at H; exact H
    clear H
    have H := H1
    clear H1
    obtain rfl := Option.some.inj H
    go_enter Try.func12, Try.ntmps12
    go_wp2_with (first | ((with_reducible refine gate_callee (f := 45) rfl ?_); refine goesL_ (some 6) rfl rfl Try.func45 (by kernel_rfl) rfl #[] rfl ags ?_; (with_reducible refine (larchlaw05_sample.calls  t125 _ A1.out).mono ?_); rintro e w8 ⟨v126, rfl, ho0, hb⟩; refine ⟨_, rfl, ?_⟩; have n0_ := asd (Kd.S_lower ho0 (below_size (skB HB.out))); have n1_ := asd (below_step (skB HB.out) hb); clear HB; have HO127 := n0_; have HB := n1_; clear n0_ n1_; (try clear hb); (try clear hb2); (try clear hk); (try clear hi); (try clear ho0); obtain ⟨Ao9, co9, eo9⟩ := Kd.S_slice HO127.out; subst eo9) | ((with_reducible refine gate_callee (f := 19) rfl ?_); refine goesL_ (some 7) rfl rfl Try.func19 (by kernel_rfl) rfl #[.slice Ao9 t125.length co9] rfl ags ?_; (with_reducible refine (event_Orders.calls _ _ t125 t128 t129 _ ?side1 ?side2 A2.out).mono ?_); (case side1 => exact skC (Kd.S_reads' HO127.out).2.2); (case side2 => exact (Kd.S_reads' HO127.out).2.1); rintro e w10 ⟨rfl, hb⟩; refine ⟨_, rfl, ?_⟩; have n0_ := asd (Kd.S_below (by (with_reducible repeat (first | apply Kd.S_alloc | apply Kd.S_drewN | apply Kd.S_drew)); exact HO127.out) hb); have n1_ := asd (below_step (skB HB.out) hb); clear HO127; clear HB; have HO127 := n0_; have HB := n1_; clear n0_ n1_; (try clear hb); (try clear hb2); (try clear hk); (try clear hi)) | ((with_reducible refine gate_callee (f := 45) rfl ?_); refine goesL_ (some 11) rfl rfl Try.func45 (by kernel_rfl) rfl #[] rfl ags ?_; (with_reducible refine (larchlaw05_sample.calls  t130 _ A3.out).mono ?_); rintro e w11 ⟨v131, rfl, ho0, hb⟩; refine ⟨_, rfl, ?_⟩; have n0_ := asd (Kd.S_elder' (by (with_reducible repeat (first | apply Kd.S_alloc | apply Kd.S_drewN | apply Kd.S_drew)); exact HO127.out) (Kd.S_base ho0) hb); have n1_ := asd (Kd.S_lower (Kd.S_new' ho0 (Kd.S_lt (by (with_reducible repeat (first | apply Kd.S_alloc | apply Kd.S_drewN | apply Kd.S_drew)); exact HO127.out))) (below_size (skB HB.out))); have n2_ := asd (below_step (skB HB.out) hb); clear HO127; clear HB; have HO127 := n0_; have HO132 := n1_; have HB := n2_; clear n0_ n1_ n2_; (try clear hb); (try clear hb2); (try clear hk); (try clear hi); (try clear ho0); obtain ⟨Ao12, co12, eo12⟩ := Kd.S_slice HO132.out; subst eo12) | ((with_reducible refine gate_callee (f := 14) rfl ?_); refine goesL_ (some 12) rfl rfl Try.func14 (by kernel_rfl) rfl #[.slice Ao12 t130.length co12, .int .i64 0, .int .i64 1] rfl ags ?_; (with_reducible refine (event_Ahead.calls _ _ t130 0 1 false t134 _ ?side1 ?side2 A4.out).mono ?_); (case side1 => exact skC (Kd.S_reads' HO132.out).2.2); (case side2 => exact (Kd.S_reads' HO132.out).2.1); rintro e w13 ⟨rfl, hb⟩; refine ⟨_, rfl, ?_⟩; have n0_ := asd (Kd.S_below (by (with_reducible repeat (first | apply Kd.S_alloc | apply Kd.S_drewN | apply Kd.S_drew)); exact HO127.out) hb); have n1_ := asd (Kd.S_below (by (with_reducible repeat (first | apply Kd.S_alloc | apply Kd.S_drewN | apply Kd.S_drew)); exact HO132.out) hb); have n2_ := asd (below_step (skB HB.out) hb); clear HO127; clear HO132; clear HB; have HO127 := n0_; have HO132 := n1_; have HB := n2_; clear n0_ n1_ n2_; (try clear hb); (try clear hb2); (try clear hk); (try clear hi)))
    go_ret
    exact ⟨re, skB HB.out⟩
  ·
   rw [if_neg c6] at H
   exact absurd H (by simp)
 ·
  rw [if_neg c5] at H
  exact absurd H (by simp)
end Go.Proofs.Ytagdkmcgepidoaa.P
/- F41 -/
namespace Go.Proofs.Ytagdkmcgepidoaa.P
open Go.RowKit Go.Proofs.YtagdkmcgepidoaaW.PrintWords Go.Proofs.YtagdkmcgepidoaaW.PrintLast Go.Proofs.YtagdkmcgepidoaaW.PrintMore
attribute [local go_sem] max2_int min2_int max_two min_two max_three min_three max_four min_four   -- for this text's walks alone
set_option linter.unusedVariables false
set_option linter.unusedSimpArgs false
end Go.Proofs.Ytagdkmcgepidoaa.P
/- F48 -/
namespace Go.Proofs.Ytagdkmcgepidoaa.P
open Go.RowKit Go.Proofs.YtagdkmcgepidoaaW.PrintWords Go.Proofs.YtagdkmcgepidoaaW.PrintLast Go.Proofs.YtagdkmcgepidoaaW.PrintMore
attribute [local go_sem] max2_int min2_int max_two min_two max_three min_three max_four min_four   -- for this text's walks alone
set_option linter.unusedVariables false
set_option linter.unusedSimpArgs false
end Go.Proofs.Ytagdkmcgepidoaa.P
/- F62 -/
namespace Go.Proofs.Ytagdkmcgepidoaa.P
open Go.RowKit Go.Proofs.YtagdkmcgepidoaaW.PrintWords Go.Proofs.YtagdkmcgepidoaaW.PrintLast Go.Proofs.YtagdkmcgepidoaaW.PrintMore
attribute [local go_sem] max2_int min2_int max_two min_two max_three min_three max_four min_four   -- for this text's walks alone
set_option linter.unusedVariables false
set_option linter.unusedSimpArgs false
end Go.Proofs.Ytagdkmcgepidoaa.P
/- F63 -/
namespace Go.Proofs.Ytagdkmcgepidoaa.P
open Go.RowKit Go.Proofs.YtagdkmcgepidoaaW.PrintWords Go.Proofs.YtagdkmcgepidoaaW.PrintLast Go.Proofs.YtagdkmcgepidoaaW.PrintMore
attribute [local go_sem] max2_int min2_int max_two min_two max_three min_three max_four min_four   -- for this text's walks alone
set_option linter.unusedVariables false
set_option linter.unusedSimpArgs false
mutual
def larchlaw05_EventAhead.l0 : Nat → List (S67) → List (S38) → Int → List (List Bool) → Bool → Int → Option (Bool)
 | 0, _, _, _, _, _, _ => none
 | k + 1, x0, x3, x7, x8, x9, x10 => if x10 < x7 then (if 0 ≤ x7 then (if (x7 : Int).toNat ≤ 281474976710656 then (if 0 ≤ x10 then (if x10 < (x8.length : Int) then (larchlaw05_EventAhead.l1 k x0 x3 x7 (x8.set (x10 : Int).toNat (List.replicate (x7 : Int).toNat false)) x9 x10 0) else (none)) else (none)) else (none)) else (none)) else (larchlaw05_EventAhead.l2 k x0 x3 x7 x8 x9 0)
def larchlaw05_EventAhead.l1 : Nat → List (S67) → List (S38) → Int → List (List Bool) → Bool → Int → Int → Option (Bool)
 | 0, _, _, _, _, _, _, _ => none
 | k + 1, x0, x3, x7, x8, x9, x10, x11 => if x11 < x7 then ((event_Ahead.f x0 x10 x11).bind fun bt504 => (if bt504.2 = 0 then (if 0 ≤ x10 then (if x10 < (x8.length : Int) then (if 0 ≤ x11 then (if x11 < ((rd_L9 x8 x10).length : Int) then (larchlaw05_EventAhead.l1 k x0 x3 x7 (x8.set (x10 : Int).toNat ((rd_L9 x8 x10).set (x11 : Int).toNat bt504.1)) x9 x10 (wrap64 (x11 + 1))) else (none)) else (none)) else (none)) else (none)) else (none))) else (larchlaw05_EventAhead.l0 k x0 x3 x7 x8 x9 (wrap64 (x10 + 1)))
def larchlaw05_EventAhead.l2 : Nat → List (S67) → List (S38) → Int → List (List Bool) → Bool → Int → Option (Bool)
 | 0, _, _, _, _, _, _ => none
 | k + 1, x0, x3, x7, x8, x9, x14 => if x14 < x7 then (if 0 ≤ x14 then (if x14 < (x8.length : Int) then (if x14 < ((rd_L9 x8 x14).length : Int) then (if rdOf false (rd_L9 x8 x14) x14 = true then (none) else (larchlaw05_EventAhead.l3 k x0 x3 x7 x8 x9 x14 0)) else (none)) else (none)) else (none)) else ((event_Row.f k x0).bind fun bt510 => ((event_Ahead.f x0 x7 0).bind fun bt512 => (if bt510.2 = 0 then (if (bt510.1 == x9) = true then (some (bt512.2 == 1)) else (none)) else (none))))
def larchlaw05_EventAhead.l3 : Nat → List (S67) → List (S38) → Int → List (List Bool) → Bool → Int → Int → Option (Bool)
 | 0, _, _, _, _, _, _, _ => none
 | k + 1, x0, x3, x7, x8, x9, x14, x15 => if x15 < x7 then (if 0 ≤ x14 then (if x14 < (x3.length : Int) then (if 0 ≤ x15 then (if x15 < (x3.length : Int) then (if ((J38 x3 x14).f0) = ((J38 x3 x15).f0) then (if x14 < x15 then (if x14 < (x8.length : Int) then (if x15 < ((rd_L9 x8 x14).length : Int) then (larchlaw05_EventAhead.j4 k x0 x3 x7 x8 x9 x14 x15 (!(rdOf false (rd_L9 x8 x14) x15))) else (none)) else (none)) else (larchlaw05_EventAhead.j4 k x0 x3 x7 x8 x9 x14 x15 false)) else (larchlaw05_EventAhead.j4 k x0 x3 x7 x8 x9 x14 x15 false)) else (none)) else (none)) else (none)) else (none)) else (larchlaw05_EventAhead.l2 k x0 x3 x7 x8 x9 (wrap64 (x14 + 1)))
def larchlaw05_EventAhead.j4 : Nat → List (S67) → List (S38) → Int → List (List Bool) → Bool → Int → Int → Bool → Option (Bool)
 | 0, _, _, _, _, _, _, _, _ => none
 | k + 1, x0, x3, x7, x8, x9, x14, x15, x125 => if x125 = true then (none) else (if x14 < x15 then (if 0 ≤ x14 then (if x14 < (x8.length : Int) then (if 0 ≤ x15 then (if x15 < ((rd_L9 x8 x14).length : Int) then (larchlaw05_EventAhead.j5 k x0 x3 x7 x8 x9 x14 x15 (!(rdOf false (rd_L9 x8 x14) x15))) else (none)) else (none)) else (none)) else (none)) else (larchlaw05_EventAhead.j5 k x0 x3 x7 x8 x9 x14 x15 false))
def larchlaw05_EventAhead.j5 : Nat → List (S67) → List (S38) → Int → List (List Bool) → Bool → Int → Int → Bool → Option (Bool)
 | 0, _, _, _, _, _, _, _, _ => none
 | k + 1, x0, x3, x7, x8, x9, x14, x15, x138 => if x138 = true then (larchlaw05_EventAhead.j6 k x0 x3 x7 x8 false x14 x15) else (larchlaw05_EventAhead.j6 k x0 x3 x7 x8 x9 x14 x15)
def larchlaw05_EventAhead.j6 : Nat → List (S67) → List (S38) → Int → List (List Bool) → Bool → Int → Int → Option (Bool)
 | 0, _, _, _, _, _, _, _ => none
 | k + 1, x0, x3, x7, x8, x9, x14, x15 => larchlaw05_EventAhead.l4 k x0 x3 x7 x8 x9 x14 x15 0
def larchlaw05_EventAhead.l4 : Nat → List (S67) → List (S38) → Int → List (List Bool) → Bool → Int → Int → Int → Option (Bool)
 | 0, _, _, _, _, _, _, _, _ => none
 | k + 1, x0, x3, x7, x8, x9, x14, x15, x16 => if x16 < x7 then (if 0 ≤ x14 then (if x14 < (x8.length : Int) then (if 0 ≤ x15 then (if x15 < ((rd_L9 x8 x14).length : Int) then (if rdOf false (rd_L9 x8 x14) x15 = true then (if x15 < (x8.length : Int) then (if 0 ≤ x16 then (if x16 < ((rd_L9 x8 x15).length : Int) then (if rdOf false (rd_L9 x8 x15) x16 = true then (if x16 < ((rd_L9 x8 x14).length : Int) then (if (rdOf false (rd_L9 x8 x14) x16 = true) then (larchlaw05_EventAhead.l4 k x0 x3 x7 x8 x9 x14 x15 (wrap64 (x16 + 1))) else (none)) else (none)) else (larchlaw05_EventAhead.l4 k x0 x3 x7 x8 x9 x14 x15 (wrap64 (x16 + 1)))) else (none)) else (none)) else (none)) else (larchlaw05_EventAhead.l4 k x0 x3 x7 x8 x9 x14 x15 (wrap64 (x16 + 1)))) else (none)) else (none)) else (none)) else (none)) else (larchlaw05_EventAhead.l3 k x0 x3 x7 x8 x9 x14 (wrap64 (x15 + 1)))
end
def larchlaw05_EventAhead.f (k : Nat) (l0 : List (S67)) : Option (Bool) := (larchlaw05_known.f).bind fun t486 => (if t486 = true then (if 0 ≤ (mn (l0.length : Int) 60) then (if (mn (l0.length : Int) 60) ≤ (l0.length : Int) then ((some (l0.take ((mn (l0.length : Int) 60) : Int).toNat : List (S67))).bind fun y487 => ((event_Calls.f y487).bind fun bt491 => (if bt491.2 = 0 then (if 0 ≤ (bt491.1.length : Int) then (if ((bt491.1.length : Int) : Int).toNat ≤ 11728124029610 then (larchlaw05_EventAhead.l0 k y487 bt491.1 (bt491.1.length : Int) (List.replicate ((bt491.1.length : Int) : Int).toNat []) true 0) else (none)) else (none)) else ((event_Ahead.f y487 0 0).bind fun bt495 => (if bt495.2 = bt491.2 then (some ((bt491.1.length : Int) == 0)) else (none)))))) else (none)) else (none)) else (none))
set_option maxHeartbeats 8000000 in
set_option maxRecDepth 100000 in
theorem larchlaw05_EventAhead.calls (k : Nat) (A0 : Option Addr) (c0 : Nat) (l0 : List (S67)) (r : Bool) (w : World) (hr0 : Kd.C k67 w A0 l0.length l0) (hc0 : l0.length ≤ c0) (h : larchlaw05_EventAhead.f k l0 = some r) :
  Calls Try.prog 3 #[.slice A0 l0.length c0] w fun e w' => e = .returned (.bool r) ∧ Below w.heap.size w w' := by
 have HR0 := asd hr0
 have HC0 := asd hc0
 clear hr0 hc0
 have HB := asd (Below.refl w.heap.size w)
 have H : ((larchlaw05_known.f).bind fun t486 => (if t486 = true then (if 0 ≤ (mn (l0.length : Int) 60) then (if (mn (l0.length : Int) 60) ≤ (l0.length : Int) then ((some (l0.take ((mn (l0.length : Int) 60) : Int).toNat : List (S67))).bind fun y487 => ((event_Calls.f y487).bind fun bt491 => (if bt491.2 = 0 then (if 0 ≤ (bt491.1.length : Int) then (if ((bt491.1.length : Int) : Int).toNat ≤ 11728124029610 then (larchlaw05_EventAhead.l0 k y487 bt491.1 (bt491.1.length : Int) (List.replicate ((bt491.1.length : Int) : Int).toNat []) true 0) else (none)) else (none)) else ((event_Ahead.f y487 0 0).bind fun bt495 => (if bt495.2 = bt491.2 then (some ((bt491.1.length : Int) == 0)) else (none)))))) else (none)) else (none)) else (none))) = some r := h
 clear h
 replace H := Option.bind_eq_some_iff.mp H
 obtain ⟨t486, A20, H⟩ := H
 replace H : (if t486 = true then (if 0 ≤ (mn (l0.length : Int) 60) then (if (mn (l0.length : Int) 60) ≤ (l0.length : Int) then ((some (l0.take ((mn (l0.length : Int) 60) : Int).toNat : List (S67))).bind fun y487 => ((event_Calls.f y487).bind fun bt491 => (if bt491.2 = 0 then (if 0 ≤ (bt491.1.length : Int) then (if ((bt491.1.length : Int) : Int).toNat ≤ 11728124029610 then (larchlaw05_EventAhead.l0 k y487 bt491.1 (bt491.1.length : Int) (List.replicate ((bt491.1.length : Int) : Int).toNat []) true 0) else (none)) else (none)) else ((event_Ahead.f y487 0 0).bind fun bt495 => (if bt495.2 = bt491.2 then (some ((bt491.1.length : Int) == 0)) else (none)))))) else (none)) else (none)) else (none)) = some r := H
 have A2 := asd A20
 clear A20
 by_cases c3 : t486 = true
 ·
  subst c3
  have H1 : (if 0 ≤ (mn (l0.length : Int) 60) then (if (mn (l0.length : Int) 60) ≤ (l0.length : Int) then ((some (l0.take ((mn (l0.length : Int) 60) : Int).toNat : List (S67))).bind fun y487 => ((event_Calls.f y487).bind fun bt491 => (if bt491.2 = 0 then (if 0 ≤ (bt491.1.length : Int) then (if ((bt491.1.length : Int) : Int).toNat ≤ 11728124029610 then (larchlaw05_EventAhead.l0 k y487 bt491.1 (bt491.1.length : Int) (List.replicate ((bt491.1.length : Int) : Int).toNat []) true 0) else (none)) else (none)) else ((event_Ahead.f y487 0 0).bind fun bt495 => (if bt495.2 = bt491.2 then (some ((bt491.1.length : Int) == 0)) else (none)))))) else (none)) else (none)) = some r := by rw [if_pos rfl] at H; exact H
  clear H
  have H := H1
  clear H1
  obtain ⟨ji4, hji4⟩ : ∃ j_ : Int, (mn (l0.length : Int) 60) = j_ := ⟨_, rfl⟩
  replace H : (if 0 ≤ (ji4) then (if (ji4) ≤ (l0.length : Int) then ((some (l0.take ((ji4) : Int).toNat : List (S67))).bind fun y487 => ((event_Calls.f y487).bind fun bt491 => (if bt491.2 = 0 then (if 0 ≤ (bt491.1.length : Int) then (if ((bt491.1.length : Int) : Int).toNat ≤ 11728124029610 then (larchlaw05_EventAhead.l0 k y487 bt491.1 (bt491.1.length : Int) (List.replicate ((bt491.1.length : Int) : Int).toNat []) true 0) else (none)) else (none)) else ((event_Ahead.f y487 0 0).bind fun bt495 => (if bt495.2 = bt491.2 then (some ((bt491.1.length : Int) == 0)) else (none)))))) else (none)) else (none)) = some r := by first | (rw [hji4] at H; exact H) | (simp only [hji4] at H ⊢; exact H)
  (try rw [hji4] at A2)
  (try (have hji4h : ji4 ≤ 60 := by (rw [← hji4]; unfold mn; (repeat' split) <;> omega)))
  (try (have hji4g : ji4 ≤ 64 := by omega))
  (try (have hji4l : 0 ≤ ji4 := by (rw [← hji4]; unfold mn; (repeat' split) <;> omega)))
  (try (have hji4m : 0 ≤ ji4 := by omega))
  have hji4_ : (if 60 < (l0.length : Int) then 60 else (l0.length : Int)) = ji4 := hji4
  by_cases c5 : 0 ≤ (ji4)
  ·
   rw [if_pos c5] at H
   have c5b0 := eq_true c5
   have c5b1 : decide (0 ≤ (ji4)) = true := decide_eq_true c5
   clear c5
   by_cases c6 : (ji4) ≤ (l0.length : Int)
   ·
    rw [if_pos c6] at H
    have c6b0 := eq_true c6
    have c6b1 : decide ((ji4) ≤ (l0.length : Int)) = true := decide_eq_true c6
    clear c6
    obtain ⟨y487, hy487⟩ : ∃ y_ : List (S67), y_ = (l0.take ((ji4) : Int).toNat) := ⟨_, rfl⟩
    replace H : ((event_Calls.f y487).bind fun bt491 => (if bt491.2 = 0 then (if 0 ≤ (bt491.1.length : Int) then (if ((bt491.1.length : Int) : Int).toNat ≤ 11728124029610 then (larchlaw05_EventAhead.l0 k y487 bt491.1 (bt491.1.length : Int) (List.replicate ((bt491.1.length : Int) : Int).toNat []) true 0) else (none)) else (none)) else ((event_Ahead.f y487 0 0).bind fun bt495 => (if bt495.2 = bt491.2 then (some ((bt491.1.length : Int) == 0)) else (none))))) = some r := by first | (rw [hy487]; with_reducible exact H) | (have H2_ := (Option.bind_some _ _).symm.trans H; rw [hy487]; with_reducible exact H2_) | (have H2_ := (Option.bind_some _ _).symm.trans H; with_reducible exact H2_) | with_reducible exact H | (rw [hy487]; exact H) | exact H
    have Ny487 := asd hy487
    clear hy487
    replace H := Option.bind_eq_some_iff.mp H
    obtain ⟨⟨t491, t492⟩, A70, H⟩ := H
    replace H : (if t492 = 0 then (if 0 ≤ (t491.length : Int) then (if ((t491.length : Int) : Int).toNat ≤ 11728124029610 then (larchlaw05_EventAhead.l0 k y487 t491 (t491.length : Int) (List.replicate ((t491.length : Int) : Int).toNat []) true 0) else (none)) else (none)) else ((event_Ahead.f y487 0 0).bind fun bt495 => (if bt495.2 = t492 then (some ((t491.length : Int) == 0)) else (none)))) = some r := H
    have A7 := asd A70
    clear A70
    by_cases c8 : t492 = 0
    ·
     rw [if_pos c8] at H
     have c8b0 : (t492 == 0) = true := beq_iff_eq.mpr c8
     have c8b1 : (t492 != 0) = false := bne_eq_false_iff_eq.mpr c8
     clear c8
     by_cases c9 : 0 ≤ (t491.length : Int)
     ·
      rw [if_pos c9] at H
      have c9b0 := eq_true c9
      have c9b1 : decide (0 ≤ (t491.length : Int)) = true := decide_eq_true c9
      clear c9
      by_cases c10 : ((t491.length : Int) : Int).toNat ≤ 11728124029610
      ·
       rw [if_pos c10] at H
       have c10b0 := eq_true c10
       have c10b1 : decide (((t491.length : Int) : Int).toNat ≤ 11728124029610) = true := decide_eq_true c10
       clear c10
       obtain ⟨y497, hy497⟩ : ∃ y_ : List (List Bool), y_ = (List.replicate ((t491.length : Int) : Int).toNat []) := ⟨_, rfl⟩
       replace H : (larchlaw05_EventAhead.l0 k y487 t491 (t491.length : Int) y497 true 0) = some r := by first | (rw [hy497]; with_reducible exact H) | (have H2_ := (Option.bind_some _ _).symm.trans H; rw [hy497]; with_reducible exact H2_) | (have H2_ := (Option.bind_some _ _).symm.trans H; with_reducible exact H2_) | with_reducible exact H | (rw [hy497]; exact H) | exact H
       have Ny497 := asd hy497
       clear hy497
       have H' := asd H
       clear H
       go_enter Try.func3, Try.ntmps3
       go_wp2_with (first | (go_at_call 12; (with_reducible refine (larchlaw05_known.calls  true _ A2.out).mono ?_); rintro e w11 ⟨rfl, hb⟩; have n0_ := asd (below_step (skB HB.out) hb); clear HB; have HB := n0_; clear n0_; (try clear hb); (try clear hb2); (try clear hk); (try clear hi); have q12 : ((ji4) : Int) ≤ ((l0.length : Int) : Int) := dt; obtain ⟨i012, hi012, _, hsz12, _⟩ := info_parts info67; have hroom12 : l0.length ≤ c0 := HC0.out; have hC12 : Kd.C k67 _ A0 l0.length l0 := HR0.out; have hcut12 := cut_to (P := Try.prog) 22 67 .i64 Try.underlying22 hi012 A0 l0.length c0 (ji4) dt q12 hroom12; have hr12 := Kd.C_take (m := ((ji4) : Int).toNat) hC12 (by omega); have hy12 : y487.length = ((ji4) : Int).toNat := (by rw [Ny487.out, List.length_take]; omega); rw [← Ny487.out] at hr12; rw [← hy12] at hcut12; have HR490 := asd hr12; have HC490 := asd (show y487.length ≤ c0 from by omega); clear hr12 hC12 hroom12 hi012 hsz12; have KY12 := asd hy12; clear hy12; replace q12 := eq_true q12) | (go_at_call 13; (with_reducible refine (event_Calls.calls _ _ y487 t491 t492 _ ?side1 ?side2 A7.out).mono ?_); (case side1 => exact skC (Kd.C_below HR490.out HB.out)); (case side2 => exact HC490.out); rintro e w13 ⟨v493, rfl, ho0, hb⟩; have n0_ := asd (Kd.S_lower ho0 (below_size (skB HB.out))); have n1_ := asd (below_step (skB HB.out) hb); clear HB; have HO494 := n0_; have HB := n1_; clear n0_ n1_; (try clear hb); (try clear hb2); (try clear hk); (try clear hi); (try clear ho0); obtain ⟨Ao14, co14, eo14⟩ := Kd.S_slice HO494.out; subst eo14) | ((with_reducible refine gate_dst (N := 51) rfl ?_); (try (refine gate_guard (by rfl) ?_; dsimp only)); refine Kd.S_make (Kd.slice 4 Kd.bool) _ 31 rfl (N := 51) rfl 30 _ _ rfl (t491.length : Int) rfl rfl Try.underlying30 (.slice none 0 0) 24 info31 rfl (by decide) (by omega) [] (ok := fun _ => True) (okp := fun _ => True) ⟨_, rfl, Kd.R_nil _ _ _ _ _⟩ (fun _ hk => hk) trivial dt (Nat.le_trans (Nat.mul_le_mul_right _ (dt : (t491.length : Int).toNat ≤ 11728124029610)) (by omega)) (Below.refl _ _) (Nat.le_refl _) ?_; intro v498 w15 ho16 hb hg_ hnew_; clear hg_ hnew_; (first | rw [← Ny497.out] at ho16 | (simp only [Int.reduceToNat] at ho16; rw [← Ny497.out] at ho16)); have n0_ := asd (Kd.S_below (by (with_reducible repeat (first | apply Kd.S_alloc | apply Kd.S_drewN | apply Kd.S_drew)); exact HO494.out) hb); have n1_ := asd (Kd.S_lower ho16 (below_size (skB HB.out))); have n2_ := asd (below_step (skB HB.out) hb); clear HO494; clear HB; have HO494 := n0_; have HO499 := n1_; have HB := n2_; clear n0_ n1_ n2_; clear hb ho16))
       repeat (go_quiet (first | (go_at_call 12; (with_reducible refine (larchlaw05_known.calls  true _ A2.out).mono ?_); rintro e w11 ⟨rfl, hb⟩; have n0_ := asd (below_step (skB HB.out) hb); clear HB; have HB := n0_; clear n0_; (try clear hb); (try clear hb2); (try clear hk); (try clear hi); have q12 : ((ji4) : Int) ≤ ((l0.length : Int) : Int) := dt; obtain ⟨i012, hi012, _, hsz12, _⟩ := info_parts info67; have hroom12 : l0.length ≤ c0 := HC0.out; have hC12 : Kd.C k67 _ A0 l0.length l0 := HR0.out; have hcut12 := cut_to (P := Try.prog) 22 67 .i64 Try.underlying22 hi012 A0 l0.length c0 (ji4) dt q12 hroom12; have hr12 := Kd.C_take (m := ((ji4) : Int).toNat) hC12 (by omega); have hy12 : y487.length = ((ji4) : Int).toNat := (by rw [Ny487.out, List.length_take]; omega); rw [← Ny487.out] at hr12; rw [← hy12] at hcut12; have HR490 := asd hr12; have HC490 := asd (show y487.length ≤ c0 from by omega); clear hr12 hC12 hroom12 hi012 hsz12; have KY12 := asd hy12; clear hy12; replace q12 := eq_true q12) | (go_at_call 13; (with_reducible refine (event_Calls.calls _ _ y487 t491 t492 _ ?side1 ?side2 A7.out).mono ?_); (case side1 => exact skC (Kd.C_below HR490.out HB.out)); (case side2 => exact HC490.out); rintro e w13 ⟨v493, rfl, ho0, hb⟩; have n0_ := asd (Kd.S_lower ho0 (below_size (skB HB.out))); have n1_ := asd (below_step (skB HB.out) hb); clear HB; have HO494 := n0_; have HB := n1_; clear n0_ n1_; (try clear hb); (try clear hb2); (try clear hk); (try clear hi); (try clear ho0); obtain ⟨Ao14, co14, eo14⟩ := Kd.S_slice HO494.out; subst eo14) | ((with_reducible refine gate_dst (N := 51) rfl ?_); (try (refine gate_guard (by rfl) ?_; dsimp only)); refine Kd.S_make (Kd.slice 4 Kd.bool) _ 31 rfl (N := 51) rfl 30 _ _ rfl (t491.length : Int) rfl rfl Try.underlying30 (.slice none 0 0) 24 info31 rfl (by decide) (by omega) [] (ok := fun _ => True) (okp := fun _ => True) ⟨_, rfl, Kd.R_nil _ _ _ _ _⟩ (fun _ hk => hk) trivial dt (Nat.le_trans (Nat.mul_le_mul_right _ (dt : (t491.length : Int).toNat ≤ 11728124029610)) (by omega)) (Below.refl _ _) (Nat.le_refl _) ?_; intro v498 w15 ho16 hb hg_ hnew_; clear hg_ hnew_; (first | rw [← Ny497.out] at ho16 | (simp only [Int.reduceToNat] at ho16; rw [← Ny497.out] at ho16)); have n0_ := asd (Kd.S_below (by (with_reducible repeat (first | apply Kd.S_alloc | apply Kd.S_drewN | apply Kd.S_drew)); exact HO494.out) hb); have n1_ := asd (Kd.S_lower ho16 (below_size (skB HB.out))); have n2_ := asd (below_step (skB HB.out) hb); clear HO494; clear HB; have HO494 := n0_; have HO499 := n1_; have HB := n2_; clear n0_ n1_ n2_; clear hb ho16)); try go_wp2_with (first | (go_at_call 12; (with_reducible refine (larchlaw05_known.calls  true _ A2.out).mono ?_); rintro e w11 ⟨rfl, hb⟩; have n0_ := asd (below_step (skB HB.out) hb); clear HB; have HB := n0_; clear n0_; (try clear hb); (try clear hb2); (try clear hk); (try clear hi); have q12 : ((ji4) : Int) ≤ ((l0.length : Int) : Int) := dt; obtain ⟨i012, hi012, _, hsz12, _⟩ := info_parts info67; have hroom12 : l0.length ≤ c0 := HC0.out; have hC12 : Kd.C k67 _ A0 l0.length l0 := HR0.out; have hcut12 := cut_to (P := Try.prog) 22 67 .i64 Try.underlying22 hi012 A0 l0.length c0 (ji4) dt q12 hroom12; have hr12 := Kd.C_take (m := ((ji4) : Int).toNat) hC12 (by omega); have hy12 : y487.length = ((ji4) : Int).toNat := (by rw [Ny487.out, List.length_take]; omega); rw [← Ny487.out] at hr12; rw [← hy12] at hcut12; have HR490 := asd hr12; have HC490 := asd (show y487.length ≤ c0 from by omega); clear hr12 hC12 hroom12 hi012 hsz12; have KY12 := asd hy12; clear hy12; replace q12 := eq_true q12) | (go_at_call 13; (with_reducible refine (event_Calls.calls _ _ y487 t491 t492 _ ?side1 ?side2 A7.out).mono ?_); (case side1 => exact skC (Kd.C_below HR490.out HB.out)); (case side2 => exact HC490.out); rintro e w13 ⟨v493, rfl, ho0, hb⟩; have n0_ := asd (Kd.S_lower ho0 (below_size (skB HB.out))); have n1_ := asd (below_step (skB HB.out) hb); clear HB; have HO494 := n0_; have HB := n1_; clear n0_ n1_; (try clear hb); (try clear hb2); (try clear hk); (try clear hi); (try clear ho0); obtain ⟨Ao14, co14, eo14⟩ := Kd.S_slice HO494.out; subst eo14) | ((with_reducible refine gate_dst (N := 51) rfl ?_); (try (refine gate_guard (by rfl) ?_; dsimp only)); refine Kd.S_make (Kd.slice 4 Kd.bool) _ 31 rfl (N := 51) rfl 30 _ _ rfl (t491.length : Int) rfl rfl Try.underlying30 (.slice none 0 0) 24 info31 rfl (by decide) (by omega) [] (ok := fun _ => True) (okp := fun _ => True) ⟨_, rfl, Kd.R_nil _ _ _ _ _⟩ (fun _ hk => hk) trivial dt (Nat.le_trans (Nat.mul_le_mul_right _ (dt : (t491.length : Int).toNat ≤ 11728124029610)) (by omega)) (Below.refl _ _) (Nat.le_refl _) ?_; intro v498 w15 ho16 hb hg_ hnew_; clear hg_ hnew_; (first | rw [← Ny497.out] at ho16 | (simp only [Int.reduceToNat] at ho16; rw [← Ny497.out] at ho16)); have n0_ := asd (Kd.S_below (by (with_reducible repeat (first | apply Kd.S_alloc | apply Kd.S_drewN | apply Kd.S_drew)); exact HO494.out) hb); have n1_ := asd (Kd.S_lower ho16 (below_size (skB HB.out))); have n2_ := asd (below_step (skB HB.out) hb); clear HO494; clear HB; have HO494 := n0_; have HO499 := n1_; have HB := n2_; clear n0_ n1_ n2_; clear hb ho16)))
       go_loopg [10] k (fun kq v10 w' => ∃ (x8_1 : List (List Bool)) (x10_1 : Int), v10 = .int .i64 x10_1 ∧ Aside0 (larchlaw05_EventAhead.l0 kq y487 t491 (t491.length : Int) x8_1 true x10_1 = some r) ∧ Aside0 (kq ≤ k) ∧ Aside0 (Kd.S k38 38 w' w.heap.size (fun _ => True) (.slice Ao14 t491.length co14) t491) ∧ Aside0 (Kd.S (Kd.slice 4 Kd.bool) 31 w' w.heap.size (fun _ => True) v498 x8_1) ∧ Aside0 (Below w.heap.size w w'))
       case atStart => exact ⟨(y497), (0), rs, H', ⟨Nat.le_refl _⟩, ⟨by (with_reducible repeat (first | apply Kd.S_alloc | apply Kd.S_drewN | apply Kd.S_drew)); exact HO494.out⟩, ⟨by (with_reducible repeat (first | apply Kd.S_alloc | apply Kd.S_drewN | apply Kd.S_drew)); exact HO499.out⟩, ⟨skB HB.out⟩⟩
       case round =>
        clear H'
        try clear c1
        try clear q1
        try clear p2
        try clear c3
        try clear c5
        try clear c5b0
        try clear c5b1
        try clear c6
        try clear c6b0
        try clear c6b1
        try clear c8
        try clear c8b0
        try clear c8b1
        try clear c9
        try clear c9b0
        try clear c9b1
        try clear c10
        try clear c10b0
        try clear c10b1
        try clear q12
        try clear q12
        obtain ⟨x8_1, x10_1, rfl, HA, HK1, HO_3, HO_8, HB⟩ := hrel
        cases gk with
        | zero => exact absurd HA.out (by simp [larchlaw05_EventAhead.l0])
        | succ k1 =>
         have H := HA.out
         clear HA
         simp only [larchlaw05_EventAhead.l0] at H
         by_cases c17 : x10_1 < (t491.length : Int)
         ·
          rw [if_pos c17] at H
          have c17b0 : decide (x10_1 < (t491.length : Int)) = true := decide_eq_true c17
          clear c17
          by_cases c18 : 0 ≤ (t491.length : Int)
          ·
           rw [if_pos c18] at H
           have c18b0 := eq_true c18
           have c18b1 : decide (0 ≤ (t491.length : Int)) = true := decide_eq_true c18
           clear c18
           by_cases c19 : ((t491.length : Int) : Int).toNat ≤ 281474976710656
           ·
            rw [if_pos c19] at H
            have c19b0 := eq_true c19
            have c19b1 : decide (((t491.length : Int) : Int).toNat ≤ 281474976710656) = true := decide_eq_true c19
            clear c19
            obtain ⟨y500, hy500⟩ : ∃ y_ : List Bool, y_ = (List.replicate ((t491.length : Int) : Int).toNat false) := ⟨_, rfl⟩
            replace H : (if 0 ≤ x10_1 then (if x10_1 < (x8_1.length : Int) then (larchlaw05_EventAhead.l1 k1 y487 t491 (t491.length : Int) (x8_1.set (x10_1 : Int).toNat y500) true x10_1 0) else (none)) else (none)) = some r := by first | (rw [hy500]; with_reducible exact H) | (have H2_ := (Option.bind_some _ _).symm.trans H; rw [hy500]; with_reducible exact H2_) | (have H2_ := (Option.bind_some _ _).symm.trans H; with_reducible exact H2_) | with_reducible exact H | (rw [hy500]; exact H) | exact H
            have Ny500 := asd hy500
            clear hy500
            by_cases c20 : 0 ≤ x10_1
            ·
             rw [if_pos c20] at H
             have c20b0 : decide (0 ≤ x10_1) = true := decide_eq_true c20
             clear c20
             by_cases c21 : x10_1 < (x8_1.length : Int)
             ·
              rw [if_pos c21] at H
              have c21b0 : decide (x10_1 < (x8_1.length : Int)) = true := decide_eq_true c21
              clear c21
              obtain ⟨y503, hy503⟩ : ∃ y_ : List (List Bool), y_ = (x8_1.set (x10_1 : Int).toNat y500) := ⟨_, rfl⟩
              replace H : (larchlaw05_EventAhead.l1 k1 y487 t491 (t491.length : Int) y503 true x10_1 0) = some r := by first | (rw [hy503]; with_reducible exact H) | (have H2_ := (Option.bind_some _ _).symm.trans H; rw [hy503]; with_reducible exact H2_) | (have H2_ := (Option.bind_some _ _).symm.trans H; with_reducible exact H2_) | with_reducible exact H | (rw [hy503]; exact H) | exact H
              have Ny503 := asd hy503
              clear hy503
              have H' := asd H
              clear H
              go_wp2_with (first | ((with_reducible refine gate_dst (N := 60) rfl ?_); (try (refine gate_guard (by rfl) ?_; dsimp only)); refine Kd.R_make Kd.bool _ 4 rfl (N := 60) rfl 31 _ _ rfl (t491.length : Int) rfl rfl Try.underlying31 (.bool false) 1 info4 rfl (by decide) (by omega) false (ok := fun _ => True) (okp := fun _ => True) rfl (fun _ hk => hk) trivial dt (Nat.le_trans (Nat.mul_le_mul_right _ (dt : (t491.length : Int).toNat ≤ 281474976710656)) (by omega)) (Below.refl _ _) (Nat.le_refl _) ?_; intro v501 w23 ho24 hb hg_ hnew_; clear hg_ hnew_; (first | rw [← Ny500.out] at ho24 | (simp only [Int.reduceToNat] at ho24; rw [← Ny500.out] at ho24)); have n0_ := asd (Kd.S_below (by (with_reducible repeat (first | apply Kd.S_alloc | apply Kd.S_drewN | apply Kd.S_drew)); exact HO_3.out) hb); have n1_ := asd (Kd.S_elder' (by (with_reducible repeat (first | apply Kd.S_alloc | apply Kd.S_drewN | apply Kd.S_drew)); exact HO_8.out) (Kd.R_base ho24) hb); have n2_ := asd (Kd.R_lower ho24 (below_size (skB HB.out))); have n3_ := asd (below_step (skB HB.out) hb); clear HO_3; clear HO_8; clear HB; have HO_3 := n0_; have HO_8 := n1_; have HO502 := n2_; have HB := n3_; clear n0_ n1_ n2_ n3_; clear hb ho24; have p22 : 0 ≤ (x10_1 : Int) := dt; have q22 : (x10_1 : Int) < ((x8_1.length : Int) : Int) := dt; obtain ⟨go22, co22, eo22, gb22, gl22, cl22, HG22⟩ := Kd.S_form HO_8.out (by omega); (first | cases eo22 | (injection eo22 with ea_ en_ ec_; (first | subst ea_ | (injection ea_ with ea_; subst ea_)); subst ec_; clear en_)); have GB22 := asd gb22; have GG22 := asd HG22; clear gb22 gl22 HG22; obtain ⟨_, ce22, hcl22, hM22, hcc22, hfr22, _, _⟩ := Kd.S_elem HO_8.out [] (x10_1 : Int) p22 q22; obtain ⟨ve22_0, rfl, ge22_0⟩ := hM22; have hx22_0 := hcc22 0 _ rfl; have hf22_0 := hfr22 0; (try simp only [show ((Kd.slice 4 Kd.bool)).sz = 1 from rfl, Nat.mul_one, Nat.add_zero] at hx22_0); (try simp only [show ((Kd.slice 4 Kd.bool)).sz = 1 from rfl, Nat.mul_one, Nat.add_zero] at hf22_0); clear hcl22 hcc22 hfr22; (try clear hM22); replace p22 := eq_true p22; replace q22 := eq_true q22; have n_ := asd (Kd.S_mono (ok' := (fun k_ => some k_ ≠ (v501 : Value).ownBlock)) HO_8.out (fun k_ hk => hk.2)); clear HO_8; have HO_8 := n_; clear n_; have HX25 := asd (show Kd.S (Kd.slice 4 Kd.bool) 31 w23 w.heap.size (fun k_ => ((fun _ => True)) k_ ∧ ¬ ((fun k_ => some k_ = (v501 : Value).ownBlock)) k_) (.slice (some ⟨go22, 0, none⟩) x8_1.length co22) x8_1 from (by (with_reducible repeat (first | apply Kd.S_alloc | apply Kd.S_drewN | apply Kd.S_drew)); exact Kd.S_mono HO_8.out (fun k_ hk => ⟨trivial, fun e_ => hk e_⟩))); obtain ⟨oki25, ce25, hcl25, hM25, hcc25, hfr25, hoki25, hH25⟩ := Kd.S_elem HX25.out [] (x10_1 : Int) dt (by have h_ : (x10_1 : Int) < ((x8_1.length : Int) : Int) := dt; first | exact h_ | (have e_ := (Kd.S_reads' HO_8.out).1; omega) | simpa using h_); obtain ⟨ve25_0, rfl, ge25_0⟩ := hM25; have HP25 := Kd.S_seg hH25 dt (by have h_ : (x10_1 : Int) < ((x8_1.length : Int) : Int) := dt; first | exact h_ | (have e_ := (Kd.S_reads' HO_8.out).1; omega) | simpa using h_) (seg := [v501]) (j := 0) (show 1 ≤ 1 from by decide) (x' := y500) (Kd.M_row (Kd.R_mono (Kd.R_tight rfl (Kd.R_mono (ok' := fun k_ => ((fun _ => True)) k_ ∧ k_ ≠ go22) (Kd.R_apart' (HO502.out) (Kd.S_typed HO_8.out) (by decide)) (fun k_ hk => ⟨trivial, fun e_ => (hk.2) (by rw [e_]; rfl)⟩))) (fun _ h_ => Or.inr (h_)))) (fun _ hk => hk) (fun k_ hk_ => ((Kd.R_mono (ok' := fun k_ => ((fun _ => True)) k_ ∧ k_ ≠ go22) (Kd.R_apart' (HO502.out) (Kd.S_typed HO_8.out) (by decide)) (fun k_ hk => ⟨trivial, fun e_ => (hk.2) (by rw [e_]; rfl)⟩))).1 k_ hk_.symm); have hx25_0 := hcc25 0 _ rfl; (try simp only [show ((Kd.slice 4 Kd.bool)).sz = 1 from rfl, Nat.mul_one, Nat.add_zero] at hx25_0); have hf25_0 := hfr25 0; (try simp only [show ((Kd.slice 4 Kd.bool)).sz = 1 from rfl, Nat.mul_one, Nat.add_zero] at hf25_0); clear hcl25 hcc25 hfr25; (try clear hM25); clear hoki25 hH25; (try simp only [show ((Kd.slice 4 Kd.bool)).sz = 1 from rfl, Nat.mul_one, Nat.add_zero] at HP25)) | ((with_reducible refine gate_store (t := 31) (p := 61) rfl ?_); (try (rw [drewN_self w23]; generalize hq_ : World.drewN w23 _ = w23; have n0_ := asd (Kd.S_at hq_ HO_3.out); have n1_ := asd (Kd.S_at hq_ HO_8.out); have n2_ := asd (below_at hq_ HB.out); clear hq_ HO_3 HO_8 HB; have HO_3 := n0_; have HO_8 := n1_; have HB := n2_; clear n0_ n1_ n2_; (try (have n_ := asd (Kd.S_mono (ok' := (fun k_ => some k_ ≠ (v501 : Value).ownBlock)) HO_8.out (fun k_ hk => hk.2)); clear HO_8; have HO_8 := n_; clear n_)); (try (have HX25 := asd (show Kd.S (Kd.slice 4 Kd.bool) 31 w23 w.heap.size (fun k_ => ((fun _ => True)) k_ ∧ ¬ ((fun k_ => some k_ = (v501 : Value).ownBlock)) k_) (.slice (some ⟨go22, 0, none⟩) x8_1.length co22) x8_1 from (by (with_reducible repeat (first | apply Kd.S_alloc | apply Kd.S_drewN | apply Kd.S_drew)); exact Kd.S_mono HO_8.out (fun k_ hk => ⟨trivial, fun e_ => hk e_⟩))))); (try (obtain ⟨oki25, ce25, hcl25, hM25, hcc25, hfr25, hoki25, hH25⟩ := Kd.S_elem HX25.out [] (x10_1 : Int) dt (by have h_ : (x10_1 : Int) < ((x8_1.length : Int) : Int) := dt; first | exact h_ | (have e_ := (Kd.S_reads' HO_8.out).1; omega) | simpa using h_))); (try (obtain ⟨ve25_0, rfl, ge25_0⟩ := hM25)); (try (have HP25 := Kd.S_seg hH25 dt (by have h_ : (x10_1 : Int) < ((x8_1.length : Int) : Int) := dt; first | exact h_ | (have e_ := (Kd.S_reads' HO_8.out).1; omega) | simpa using h_) (seg := [v501]) (j := 0) (show 1 ≤ 1 from by decide) (x' := y500) (Kd.M_row (Kd.R_mono (Kd.R_tight rfl (Kd.R_mono (ok' := fun k_ => ((fun _ => True)) k_ ∧ k_ ≠ go22) (Kd.R_apart' (HO502.out) (Kd.S_typed HO_8.out) (by decide)) (fun k_ hk => ⟨trivial, fun e_ => (hk.2) (by rw [e_]; rfl)⟩))) (fun _ h_ => Or.inr (h_)))) (fun _ hk => hk) (fun k_ hk_ => ((Kd.R_mono (ok' := fun k_ => ((fun _ => True)) k_ ∧ k_ ≠ go22) (Kd.R_apart' (HO502.out) (Kd.S_typed HO_8.out) (by decide)) (fun k_ hk => ⟨trivial, fun e_ => (hk.2) (by rw [e_]; rfl)⟩))).1 k_ hk_.symm))); (try (have hx25_0 := hcc25 0 _ rfl)); (try (try simp only [show ((Kd.slice 4 Kd.bool)).sz = 1 from rfl, Nat.mul_one, Nat.add_zero] at hx25_0)); (try (have hf25_0 := hfr25 0)); (try (try simp only [show ((Kd.slice 4 Kd.bool)).sz = 1 from rfl, Nat.mul_one, Nat.add_zero] at hf25_0)); (try (clear hcl25 hcc25 hfr25; (try clear hM25); clear hoki25 hH25)); (try (try simp only [show ((Kd.slice 4 Kd.bool)).sz = 1 from rfl, Nat.mul_one, Nat.add_zero] at HP25)))); refine store_event (t := 31) (p := 61) (v := ?vo_w26) (w1 := (w23.setCell ⟨go22, (x10_1 : Int).toNat, none⟩ (v501))) ?hg ?ho ?hn ?hr ?_; (case ho => rfl); (case hg => rfl); (case hn => rfl); (case hr => first | (go_simp; done) | (go_simp; rfl) | (obtain ⟨Am_, cm_, em_⟩ := Kd.R_slice HO502.out; subst em_; first | (go_simp; done) | (go_simp; rfl))); intro w26 hw; have hg : w23.grownBy w26 (some go22) := (by rw [hw]; exact HP25.2); have hp_ : Kd.S (Kd.slice 4 Kd.bool) 31 w26 w.heap.size (fun _ => True) (.slice (some ⟨go22, 0, none⟩) x8_1.length co22) y503 := (by rw [hw, Ny503.out]; exact HP25.1); clear HP25; have n0_ := asd (Kd.S_over' (v := (.slice (some ⟨go22, 0, none⟩) x8_1.length co22)) (by (with_reducible repeat (first | apply Kd.S_alloc | apply Kd.S_drewN | apply Kd.S_drew)); exact HO_3.out) (Kd.S_typed HO_8.out) (by decide) hg); have n1_ := asd (hp_); have n2_ := asd ((by rw [hw]; exact below_set (HB.out) GB22.out : Below w.heap.size w w26)); clear HO_3; clear HO_8; clear HB; clear HO502; have HO_3 := n0_; have HO_8 := n1_; have HB := n2_; clear n0_ n1_ n2_; clear hg hw hp_))
              repeat (go_quiet (first | ((with_reducible refine gate_dst (N := 60) rfl ?_); (try (refine gate_guard (by rfl) ?_; dsimp only)); refine Kd.R_make Kd.bool _ 4 rfl (N := 60) rfl 31 _ _ rfl (t491.length : Int) rfl rfl Try.underlying31 (.bool false) 1 info4 rfl (by decide) (by omega) false (ok := fun _ => True) (okp := fun _ => True) rfl (fun _ hk => hk) trivial dt (Nat.le_trans (Nat.mul_le_mul_right _ (dt : (t491.length : Int).toNat ≤ 281474976710656)) (by omega)) (Below.refl _ _) (Nat.le_refl _) ?_; intro v501 w23 ho24 hb hg_ hnew_; clear hg_ hnew_; (first | rw [← Ny500.out] at ho24 | (simp only [Int.reduceToNat] at ho24; rw [← Ny500.out] at ho24)); have n0_ := asd (Kd.S_below (by (with_reducible repeat (first | apply Kd.S_alloc | apply Kd.S_drewN | apply Kd.S_drew)); exact HO_3.out) hb); have n1_ := asd (Kd.S_elder' (by (with_reducible repeat (first | apply Kd.S_alloc | apply Kd.S_drewN | apply Kd.S_drew)); exact HO_8.out) (Kd.R_base ho24) hb); have n2_ := asd (Kd.R_lower ho24 (below_size (skB HB.out))); have n3_ := asd (below_step (skB HB.out) hb); clear HO_3; clear HO_8; clear HB; have HO_3 := n0_; have HO_8 := n1_; have HO502 := n2_; have HB := n3_; clear n0_ n1_ n2_ n3_; clear hb ho24; have p22 : 0 ≤ (x10_1 : Int) := dt; have q22 : (x10_1 : Int) < ((x8_1.length : Int) : Int) := dt; obtain ⟨go22, co22, eo22, gb22, gl22, cl22, HG22⟩ := Kd.S_form HO_8.out (by omega); (first | cases eo22 | (injection eo22 with ea_ en_ ec_; (first | subst ea_ | (injection ea_ with ea_; subst ea_)); subst ec_; clear en_)); have GB22 := asd gb22; have GG22 := asd HG22; clear gb22 gl22 HG22; obtain ⟨_, ce22, hcl22, hM22, hcc22, hfr22, _, _⟩ := Kd.S_elem HO_8.out [] (x10_1 : Int) p22 q22; obtain ⟨ve22_0, rfl, ge22_0⟩ := hM22; have hx22_0 := hcc22 0 _ rfl; have hf22_0 := hfr22 0; (try simp only [show ((Kd.slice 4 Kd.bool)).sz = 1 from rfl, Nat.mul_one, Nat.add_zero] at hx22_0); (try simp only [show ((Kd.slice 4 Kd.bool)).sz = 1 from rfl, Nat.mul_one, Nat.add_zero] at hf22_0); clear hcl22 hcc22 hfr22; (try clear hM22); replace p22 := eq_true p22; replace q22 := eq_true q22; have n_ := asd (Kd.S_mono (ok' := (fun k_ => some k_ ≠ (v501 : Value).ownBlock)) HO_8.out (fun k_ hk => hk.2)); clear HO_8; have HO_8 := n_; clear n_; have HX25 := asd (show Kd.S (Kd.slice 4 Kd.bool) 31 w23 w.heap.size (fun k_ => ((fun _ => True)) k_ ∧ ¬ ((fun k_ => some k_ = (v501 : Value).ownBlock)) k_) (.slice (some ⟨go22, 0, none⟩) x8_1.length co22) x8_1 from (by (with_reducible repeat (first | apply Kd.S_alloc | apply Kd.S_drewN | apply Kd.S_drew)); exact Kd.S_mono HO_8.out (fun k_ hk => ⟨trivial, fun e_ => hk e_⟩))); obtain ⟨oki25, ce25, hcl25, hM25, hcc25, hfr25, hoki25, hH25⟩ := Kd.S_elem HX25.out [] (x10_1 : Int) dt (by have h_ : (x10_1 : Int) < ((x8_1.length : Int) : Int) := dt; first | exact h_ | (have e_ := (Kd.S_reads' HO_8.out).1; omega) | simpa using h_); obtain ⟨ve25_0, rfl, ge25_0⟩ := hM25; have HP25 := Kd.S_seg hH25 dt (by have h_ : (x10_1 : Int) < ((x8_1.length : Int) : Int) := dt; first | exact h_ | (have e_ := (Kd.S_reads' HO_8.out).1; omega) | simpa using h_) (seg := [v501]) (j := 0) (show 1 ≤ 1 from by decide) (x' := y500) (Kd.M_row (Kd.R_mono (Kd.R_tight rfl (Kd.R_mono (ok' := fun k_ => ((fun _ => True)) k_ ∧ k_ ≠ go22) (Kd.R_apart' (HO502.out) (Kd.S_typed HO_8.out) (by decide)) (fun k_ hk => ⟨trivial, fun e_ => (hk.2) (by rw [e_]; rfl)⟩))) (fun _ h_ => Or.inr (h_)))) (fun _ hk => hk) (fun k_ hk_ => ((Kd.R_mono (ok' := fun k_ => ((fun _ => True)) k_ ∧ k_ ≠ go22) (Kd.R_apart' (HO502.out) (Kd.S_typed HO_8.out) (by decide)) (fun k_ hk => ⟨trivial, fun e_ => (hk.2) (by rw [e_]; rfl)⟩))).1 k_ hk_.symm); have hx25_0 := hcc25 0 _ rfl; (try simp only [show ((Kd.slice 4 Kd.bool)).sz = 1 from rfl, Nat.mul_one, Nat.add_zero] at hx25_0); have hf25_0 := hfr25 0; (try simp only [show ((Kd.slice 4 Kd.bool)).sz = 1 from rfl, Nat.mul_one, Nat.add_zero] at hf25_0); clear hcl25 hcc25 hfr25; (try clear hM25); clear hoki25 hH25; (try simp only [show ((Kd.slice 4 Kd.bool)).sz = 1 from rfl, Nat.mul_one, Nat.add_zero] at HP25)) | ((with_reducible refine gate_store (t := 31) (p := 61) rfl ?_); (try (rw [drewN_self w23]; generalize hq_ : World.drewN w23 _ = w23; have n0_ := asd (Kd.S_at hq_ HO_3.out); have n1_ := asd (Kd.S_at hq_ HO_8.out); have n2_ := asd (below_at hq_ HB.out); clear hq_ HO_3 HO_8 HB; have HO_3 := n0_; have HO_8 := n1_; have HB := n2_; clear n0_ n1_ n2_; (try (have n_ := asd (Kd.S_mono (ok' := (fun k_ => some k_ ≠ (v501 : Value).ownBlock)) HO_8.out (fun k_ hk => hk.2)); clear HO_8; have HO_8 := n_; clear n_)); (try (have HX25 := asd (show Kd.S (Kd.slice 4 Kd.bool) 31 w23 w.heap.size (fun k_ => ((fun _ => True)) k_ ∧ ¬ ((fun k_ => some k_ = (v501 : Value).ownBlock)) k_) (.slice (some ⟨go22, 0, none⟩) x8_1.length co22) x8_1 from (by (with_reducible repeat (first | apply Kd.S_alloc | apply Kd.S_drewN | apply Kd.S_drew)); exact Kd.S_mono HO_8.out (fun k_ hk => ⟨trivial, fun e_ => hk e_⟩))))); (try (obtain ⟨oki25, ce25, hcl25, hM25, hcc25, hfr25, hoki25, hH25⟩ := Kd.S_elem HX25.out [] (x10_1 : Int) dt (by have h_ : (x10_1 : Int) < ((x8_1.length : Int) : Int) := dt; first | exact h_ | (have e_ := (Kd.S_reads' HO_8.out).1; omega) | simpa using h_))); (try (obtain ⟨ve25_0, rfl, ge25_0⟩ := hM25)); (try (have HP25 := Kd.S_seg hH25 dt (by have h_ : (x10_1 : Int) < ((x8_1.length : Int) : Int) := dt; first | exact h_ | (have e_ := (Kd.S_reads' HO_8.out).1; omega) | simpa using h_) (seg := [v501]) (j := 0) (show 1 ≤ 1 from by decide) (x' := y500) (Kd.M_row (Kd.R_mono (Kd.R_tight rfl (Kd.R_mono (ok' := fun k_ => ((fun _ => True)) k_ ∧ k_ ≠ go22) (Kd.R_apart' (HO502.out) (Kd.S_typed HO_8.out) (by decide)) (fun k_ hk => ⟨trivial, fun e_ => (hk.2) (by rw [e_]; rfl)⟩))) (fun _ h_ => Or.inr (h_)))) (fun _ hk => hk) (fun k_ hk_ => ((Kd.R_mono (ok' := fun k_ => ((fun _ => True)) k_ ∧ k_ ≠ go22) (Kd.R_apart' (HO502.out) (Kd.S_typed HO_8.out) (by decide)) (fun k_ hk => ⟨trivial, fun e_ => (hk.2) (by rw [e_]; rfl)⟩))).1 k_ hk_.symm))); (try (have hx25_0 := hcc25 0 _ rfl)); (try (try simp only [show ((Kd.slice 4 Kd.bool)).sz = 1 from rfl, Nat.mul_one, Nat.add_zero] at hx25_0)); (try (have hf25_0 := hfr25 0)); (try (try simp only [show ((Kd.slice 4 Kd.bool)).sz = 1 from rfl, Nat.mul_one, Nat.add_zero] at hf25_0)); (try (clear hcl25 hcc25 hfr25; (try clear hM25); clear hoki25 hH25)); (try (try simp only [show ((Kd.slice 4 Kd.bool)).sz = 1 from rfl, Nat.mul_one, Nat.add_zero] at HP25)))); refine store_event (t := 31) (p := 61) (v := ?vo_w26) (w1 := (w23.setCell ⟨go22, (x10_1 : Int).toNat, none⟩ (v501))) ?hg ?ho ?hn ?hr ?_; (case ho => rfl); (case hg => rfl); (case hn => rfl); (case hr => first | (go_simp; done) | (go_simp; rfl) | (obtain ⟨Am_, cm_, em_⟩ := Kd.R_slice HO502.out; subst em_; first | (go_simp; done) | (go_simp; rfl))); intro w26 hw; have hg : w23.grownBy w26 (some go22) := (by rw [hw]; exact HP25.2); have hp_ : Kd.S (Kd.slice 4 Kd.bool) 31 w26 w.heap.size (fun _ => True) (.slice (some ⟨go22, 0, none⟩) x8_1.length co22) y503 := (by rw [hw, Ny503.out]; exact HP25.1); clear HP25; have n0_ := asd (Kd.S_over' (v := (.slice (some ⟨go22, 0, none⟩) x8_1.length co22)) (by (with_reducible repeat (first | apply Kd.S_alloc | apply Kd.S_drewN | apply Kd.S_drew)); exact HO_3.out) (Kd.S_typed HO_8.out) (by decide) hg); have n1_ := asd (hp_); have n2_ := asd ((by rw [hw]; exact below_set (HB.out) GB22.out : Below w.heap.size w w26)); clear HO_3; clear HO_8; clear HB; clear HO502; have HO_3 := n0_; have HO_8 := n1_; have HB := n2_; clear n0_ n1_ n2_; clear hg hw hp_)); try go_wp2_with (first | ((with_reducible refine gate_dst (N := 60) rfl ?_); (try (refine gate_guard (by rfl) ?_; dsimp only)); refine Kd.R_make Kd.bool _ 4 rfl (N := 60) rfl 31 _ _ rfl (t491.length : Int) rfl rfl Try.underlying31 (.bool false) 1 info4 rfl (by decide) (by omega) false (ok := fun _ => True) (okp := fun _ => True) rfl (fun _ hk => hk) trivial dt (Nat.le_trans (Nat.mul_le_mul_right _ (dt : (t491.length : Int).toNat ≤ 281474976710656)) (by omega)) (Below.refl _ _) (Nat.le_refl _) ?_; intro v501 w23 ho24 hb hg_ hnew_; clear hg_ hnew_; (first | rw [← Ny500.out] at ho24 | (simp only [Int.reduceToNat] at ho24; rw [← Ny500.out] at ho24)); have n0_ := asd (Kd.S_below (by (with_reducible repeat (first | apply Kd.S_alloc | apply Kd.S_drewN | apply Kd.S_drew)); exact HO_3.out) hb); have n1_ := asd (Kd.S_elder' (by (with_reducible repeat (first | apply Kd.S_alloc | apply Kd.S_drewN | apply Kd.S_drew)); exact HO_8.out) (Kd.R_base ho24) hb); have n2_ := asd (Kd.R_lower ho24 (below_size (skB HB.out))); have n3_ := asd (below_step (skB HB.out) hb); clear HO_3; clear HO_8; clear HB; have HO_3 := n0_; have HO_8 := n1_; have HO502 := n2_; have HB := n3_; clear n0_ n1_ n2_ n3_; clear hb ho24; have p22 : 0 ≤ (x10_1 : Int) := dt; have q22 : (x10_1 : Int) < ((x8_1.length : Int) : Int) := dt; obtain ⟨go22, co22, eo22, gb22, gl22, cl22, HG22⟩ := Kd.S_form HO_8.out (by omega); (first | cases eo22 | (injection eo22 with ea_ en_ ec_; (first | subst ea_ | (injection ea_ with ea_; subst ea_)); subst ec_; clear en_)); have GB22 := asd gb22; have GG22 := asd HG22; clear gb22 gl22 HG22; obtain ⟨_, ce22, hcl22, hM22, hcc22, hfr22, _, _⟩ := Kd.S_elem HO_8.out [] (x10_1 : Int) p22 q22; obtain ⟨ve22_0, rfl, ge22_0⟩ := hM22; have hx22_0 := hcc22 0 _ rfl; have hf22_0 := hfr22 0; (try simp only [show ((Kd.slice 4 Kd.bool)).sz = 1 from rfl, Nat.mul_one, Nat.add_zero] at hx22_0); (try simp only [show ((Kd.slice 4 Kd.bool)).sz = 1 from rfl, Nat.mul_one, Nat.add_zero] at hf22_0); clear hcl22 hcc22 hfr22; (try clear hM22); replace p22 := eq_true p22; replace q22 := eq_true q22; have n_ := asd (Kd.S_mono (ok' := (fun k_ => some k_ ≠ (v501 : Value).ownBlock)) HO_8.out (fun k_ hk => hk.2)); clear HO_8; have HO_8 := n_; clear n_; have HX25 := asd (show Kd.S (Kd.slice 4 Kd.bool) 31 w23 w.heap.size (fun k_ => ((fun _ => True)) k_ ∧ ¬ ((fun k_ => some k_ = (v501 : Value).ownBlock)) k_) (.slice (some ⟨go22, 0, none⟩) x8_1.length co22) x8_1 from (by (with_reducible repeat (first | apply Kd.S_alloc | apply Kd.S_drewN | apply Kd.S_drew)); exact Kd.S_mono HO_8.out (fun k_ hk => ⟨trivial, fun e_ => hk e_⟩))); obtain ⟨oki25, ce25, hcl25, hM25, hcc25, hfr25, hoki25, hH25⟩ := Kd.S_elem HX25.out [] (x10_1 : Int) dt (by have h_ : (x10_1 : Int) < ((x8_1.length : Int) : Int) := dt; first | exact h_ | (have e_ := (Kd.S_reads' HO_8.out).1; omega) | simpa using h_); obtain ⟨ve25_0, rfl, ge25_0⟩ := hM25; have HP25 := Kd.S_seg hH25 dt (by have h_ : (x10_1 : Int) < ((x8_1.length : Int) : Int) := dt; first | exact h_ | (have e_ := (Kd.S_reads' HO_8.out).1; omega) | simpa using h_) (seg := [v501]) (j := 0) (show 1 ≤ 1 from by decide) (x' := y500) (Kd.M_row (Kd.R_mono (Kd.R_tight rfl (Kd.R_mono (ok' := fun k_ => ((fun _ => True)) k_ ∧ k_ ≠ go22) (Kd.R_apart' (HO502.out) (Kd.S_typed HO_8.out) (by decide)) (fun k_ hk => ⟨trivial, fun e_ => (hk.2) (by rw [e_]; rfl)⟩))) (fun _ h_ => Or.inr (h_)))) (fun _ hk => hk) (fun k_ hk_ => ((Kd.R_mono (ok' := fun k_ => ((fun _ => True)) k_ ∧ k_ ≠ go22) (Kd.R_apart' (HO502.out) (Kd.S_typed HO_8.out) (by decide)) (fun k_ hk => ⟨trivial, fun e_ => (hk.2) (by rw [e_]; rfl)⟩))).1 k_ hk_.symm); have hx25_0 := hcc25 0 _ rfl; (try simp only [show ((Kd.slice 4 Kd.bool)).sz = 1 from rfl, Nat.mul_one, Nat.add_zero] at hx25_0); have hf25_0 := hfr25 0; (try simp only [show ((Kd.slice 4 Kd.bool)).sz = 1 from rfl, Nat.mul_one, Nat.add_zero] at hf25_0); clear hcl25 hcc25 hfr25; (try clear hM25); clear hoki25 hH25; (try simp only [show ((Kd.slice 4 Kd.bool)).sz = 1 from rfl, Nat.mul_one, Nat.add_zero] at HP25)) | ((with_reducible refine gate_store (t := 31) (p := 61) rfl ?_); (try (rw [drewN_self w23]; generalize hq_ : World.drewN w23 _ = w23; have n0_ := asd (Kd.S_at hq_ HO_3.out); have n1_ := asd (Kd.S_at hq_ HO_8.out); have n2_ := asd (below_at hq_ HB.out); clear hq_ HO_3 HO_8 HB; have HO_3 := n0_; have HO_8 := n1_; have HB := n2_; clear n0_ n1_ n2_; (try (have n_ := asd (Kd.S_mono (ok' := (fun k_ => some k_ ≠ (v501 : Value).ownBlock)) HO_8.out (fun k_ hk => hk.2)); clear HO_8; have HO_8 := n_; clear n_)); (try (have HX25 := asd (show Kd.S (Kd.slice 4 Kd.bool) 31 w23 w.heap.size (fun k_ => ((fun _ => True)) k_ ∧ ¬ ((fun k_ => some k_ = (v501 : Value).ownBlock)) k_) (.slice (some ⟨go22, 0, none⟩) x8_1.length co22) x8_1 from (by (with_reducible repeat (first | apply Kd.S_alloc | apply Kd.S_drewN | apply Kd.S_drew)); exact Kd.S_mono HO_8.out (fun k_ hk => ⟨trivial, fun e_ => hk e_⟩))))); (try (obtain ⟨oki25, ce25, hcl25, hM25, hcc25, hfr25, hoki25, hH25⟩ := Kd.S_elem HX25.out [] (x10_1 : Int) dt (by have h_ : (x10_1 : Int) < ((x8_1.length : Int) : Int) := dt; first | exact h_ | (have e_ := (Kd.S_reads' HO_8.out).1; omega) | simpa using h_))); (try (obtain ⟨ve25_0, rfl, ge25_0⟩ := hM25)); (try (have HP25 := Kd.S_seg hH25 dt (by have h_ : (x10_1 : Int) < ((x8_1.length : Int) : Int) := dt; first | exact h_ | (have e_ := (Kd.S_reads' HO_8.out).1; omega) | simpa using h_) (seg := [v501]) (j := 0) (show 1 ≤ 1 from by decide) (x' := y500) (Kd.M_row (Kd.R_mono (Kd.R_tight rfl (Kd.R_mono (ok' := fun k_ => ((fun _ => True)) k_ ∧ k_ ≠ go22) (Kd.R_apart' (HO502.out) (Kd.S_typed HO_8.out) (by decide)) (fun k_ hk => ⟨trivial, fun e_ => (hk.2) (by rw [e_]; rfl)⟩))) (fun _ h_ => Or.inr (h_)))) (fun _ hk => hk) (fun k_ hk_ => ((Kd.R_mono (ok' := fun k_ => ((fun _ => True)) k_ ∧ k_ ≠ go22) (Kd.R_apart' (HO502.out) (Kd.S_typed HO_8.out) (by decide)) (fun k_ hk => ⟨trivial, fun e_ => (hk.2) (by rw [e_]; rfl)⟩))).1 k_ hk_.symm))); (try (have hx25_0 := hcc25 0 _ rfl)); (try (try simp only [show ((Kd.slice 4 Kd.bool)).sz = 1 from rfl, Nat.mul_one, Nat.add_zero] at hx25_0)); (try (have hf25_0 := hfr25 0)); (try (try simp only [show ((Kd.slice 4 Kd.bool)).sz = 1 from rfl, Nat.mul_one, Nat.add_zero] at hf25_0)); (try (clear hcl25 hcc25 hfr25; (try clear hM25); clear hoki25 hH25)); (try (try simp only [show ((Kd.slice 4 Kd.bool)).sz = 1 from rfl, Nat.mul_one, Nat.add_zero] at HP25)))); refine store_event (t := 31) (p := 61) (v := ?vo_w26) (w1 := (w23.setCell ⟨go22, (x10_1 : Int).toNat, none⟩ (v501))) ?hg ?ho ?hn ?hr ?_; (case ho => rfl); (case hg => rfl); (case hn => rfl); (case hr => first | (go_simp; done) | (go_simp; rfl) | (obtain ⟨Am_, cm_, em_⟩ := Kd.R_slice HO502.out; subst em_; first | (go_simp; done) | (go_simp; rfl))); intro w26 hw; have hg : w23.grownBy w26 (some go22) := (by rw [hw]; exact HP25.2); have hp_ : Kd.S (Kd.slice 4 Kd.bool) 31 w26 w.heap.size (fun _ => True) (.slice (some ⟨go22, 0, none⟩) x8_1.length co22) y503 := (by rw [hw, Ny503.out]; exact HP25.1); clear HP25; have n0_ := asd (Kd.S_over' (v := (.slice (some ⟨go22, 0, none⟩) x8_1.length co22)) (by (with_reducible repeat (first | apply Kd.S_alloc | apply Kd.S_drewN | apply Kd.S_drew)); exact HO_3.out) (Kd.S_typed HO_8.out) (by decide) hg); have n1_ := asd (hp_); have n2_ := asd ((by rw [hw]; exact below_set (HB.out) GB22.out : Below w.heap.size w w26)); clear HO_3; clear HO_8; clear HB; clear HO502; have HO_3 := n0_; have HO_8 := n1_; have HB := n2_; clear n0_ n1_ n2_; clear hg hw hp_)))
              go_loopg [11] k1 (fun kq v11 w' => ∃ (x8_2 : List (List Bool)) (x11_2 : Int), v11 = .int .i64 x11_2 ∧ Aside0 (larchlaw05_EventAhead.l1 kq y487 t491 (t491.length : Int) x8_2 true x10_1 x11_2 = some r) ∧ Aside0 (kq ≤ k1) ∧ Aside0 (Kd.S k38 38 w' w.heap.size (fun _ => True) (.slice Ao14 t491.length co14) t491) ∧ Aside0 (Kd.S (Kd.slice 4 Kd.bool) 31 w' w.heap.size (fun _ => True) (.slice (some ⟨go22, 0, none⟩) x8_1.length co22) x8_2) ∧ Aside0 (Below w.heap.size w w'))
              case atStart => exact ⟨(y503), (0), rs, H', ⟨Nat.le_refl _⟩, ⟨by (with_reducible repeat (first | apply Kd.S_alloc | apply Kd.S_drewN | apply Kd.S_drew)); exact HO_3.out⟩, ⟨by (with_reducible repeat (first | apply Kd.S_alloc | apply Kd.S_drewN | apply Kd.S_drew)); exact HO_8.out⟩, ⟨skB HB.out⟩⟩
              case round =>
               clear H'
               try clear c1
               try clear q1
               try clear c2
               try clear p2
               try clear q2
               try clear hx2
               try clear hf2
               try clear c3
               try clear c5
               try clear c5b0
               try clear c5b1
               try clear c6
               try clear c6b0
               try clear c6b1
               try clear c8
               try clear c8b0
               try clear c8b1
               try clear c9
               try clear c9b0
               try clear c9b1
               try clear c10
               try clear c10b0
               try clear c10b1
               try clear q12
               try clear c17
               try clear c17b0
               try clear c18
               try clear c18b0
               try clear c18b1
               try clear c19
               try clear c19b0
               try clear c19b1
               try clear c20
               try clear c20b0
               try clear c21
               try clear c21b0
               try clear c22
               try clear p22
               try clear q22
               try clear hx22
               try clear hf22
               try clear c25
               try clear hx25
               try clear hf25
               try clear hx22_0
               try clear hx25_0
               try clear p2
               try clear p22
               try clear q1
               try clear q12
               try clear q22
               obtain ⟨x8_2, x11_2, rfl, HA, HK2, HO_3, HO_8, HB⟩ := hrel
               have hl8_2 := (Kd.S_reads' HO_8.out).1
               rw [hl8_2] at HO_8
               (try simp only [hl8_2])
               (try simp only [hl8_2] at HO_3)
               cases gk with
               | zero => exact absurd HA.out (by simp [larchlaw05_EventAhead.l1])
               | succ k2 =>
                have H := HA.out
                clear HA
                simp only [larchlaw05_EventAhead.l1] at H
                by_cases c27 : x11_2 < (t491.length : Int)
                ·
                 rw [if_pos c27] at H
                 have c27b0 : decide (x11_2 < (t491.length : Int)) = true := decide_eq_true c27
                 clear c27
                 replace H := Option.bind_eq_some_iff.mp H
                 obtain ⟨⟨t504, t505⟩, A280, H⟩ := H
                 replace H : (if t505 = 0 then (if 0 ≤ x10_1 then (if x10_1 < (x8_2.length : Int) then (if 0 ≤ x11_2 then (if x11_2 < ((rd_L9 x8_2 x10_1).length : Int) then (larchlaw05_EventAhead.l1 k2 y487 t491 (t491.length : Int) (x8_2.set (x10_1 : Int).toNat ((rd_L9 x8_2 x10_1).set (x11_2 : Int).toNat t504)) true x10_1 (wrap64 (x11_2 + 1))) else (none)) else (none)) else (none)) else (none)) else (none)) = some r := H
                 have A28 := asd A280
                 clear A280
                 by_cases c29 : t505 = 0
                 ·
                  rw [if_pos c29] at H
                  have c29b0 : (t505 == 0) = true := beq_iff_eq.mpr c29
                  have c29b1 : (t505 != 0) = false := bne_eq_false_iff_eq.mpr c29
                  clear c29
                  by_cases c30 : 0 ≤ x10_1
                  ·
                   rw [if_pos c30] at H
                   have c30b0 : decide (0 ≤ x10_1) = true := decide_eq_true c30
                   clear c30
                   by_cases c31 : x10_1 < (x8_2.length : Int)
                   ·
                    rw [if_pos c31] at H
                    have c31b0 : decide (x10_1 < (x8_2.length : Int)) = true := decide_eq_true c31
                    clear c31
                    by_cases c32 : 0 ≤ x11_2
                    ·
                     rw [if_pos c32] at H
                     have c32b0 : decide (0 ≤ x11_2) = true := decide_eq_true c32
                     clear c32
                     by_cases c33 : x11_2 < ((rd_L9 x8_2 x10_1).length : Int)
                     ·
                      rw [if_pos c33] at H
                      have c33b0 : decide (x11_2 < ((rd_L9 x8_2 x10_1).length : Int)) = true := decide_eq_true c33
                      clear c33
                      obtain ⟨y507, hy507⟩ : ∃ y_ : List Bool, y_ = ((rd_L9 x8_2 x10_1).set (x11_2 : Int).toNat t504) := ⟨_, rfl⟩
                      replace H : (larchlaw05_EventAhead.l1 k2 y487 t491 (t491.length : Int) (x8_2.set (x10_1 : Int).toNat y507) true x10_1 (wrap64 (x11_2 + 1))) = some r := by first | (rw [hy507]; with_reducible exact H) | (have H2_ := (Option.bind_some _ _).symm.trans H; rw [hy507]; with_reducible exact H2_) | (have H2_ := (Option.bind_some _ _).symm.trans H; with_reducible exact H2_) | with_reducible exact H | (rw [hy507]; exact H) | exact H
                      have Ny507 := asd hy507
                      clear hy507
                      obtain ⟨y509, hy509⟩ : ∃ y_ : List (List Bool), y_ = (x8_2.set (x10_1 : Int).toNat y507) := ⟨_, rfl⟩
                      replace H : (larchlaw05_EventAhead.l1 k2 y487 t491 (t491.length : Int) y509 true x10_1 (wrap64 (x11_2 + 1))) = some r := by first | (rw [hy509]; with_reducible exact H) | (have H2_ := (Option.bind_some _ _).symm.trans H; rw [hy509]; with_reducible exact H2_) | (have H2_ := (Option.bind_some _ _).symm.trans H; with_reducible exact H2_) | with_reducible exact H | (rw [hy509]; exact H) | exact H
                      have Ny509 := asd hy509
                      clear hy509
                      have H' := asd H
                      clear H
                      go_wp2_with (first | (go_at_call 14; (with_reducible refine (event_Ahead.calls _ _ y487 x10_1 x11_2 t504 t505 _ ?side1 ?side2 A28.out).mono ?_); (case side1 => exact skC (Kd.C_below HR490.out HB.out)); (case side2 => exact HC490.out); rintro e w35 ⟨rfl, hb⟩; have n0_ := asd (Kd.S_below (by (with_reducible repeat (first | apply Kd.S_alloc | apply Kd.S_drewN | apply Kd.S_drew)); exact HO_3.out) hb); have n1_ := asd (Kd.S_below (by (with_reducible repeat (first | apply Kd.S_alloc | apply Kd.S_drewN | apply Kd.S_drew)); exact HO_8.out) hb); have n2_ := asd (below_step (skB HB.out) hb); clear HO_3; clear HO_8; clear HB; have HO_3 := n0_; have HO_8 := n1_; have HB := n2_; clear n0_ n1_ n2_; (try clear hb); (try clear hb2); (try clear hk); (try clear hi); have p506 : 0 ≤ (x10_1 : Int) := dt; have q506 : x10_1 < (x8_2.length : Int) := dt; obtain ⟨ad506, A506_0, c506_0, e506, hx506_0, hl506_0, hi506_0⟩ := at_L9 (Kd.S_reads' HO_8.out).2.2 x10_1 p506 q506; obtain rfl : (⟨go22, 0, none⟩ : Addr) = ad506 := (by injection e506); obtain ⟨ce506, hce506, hMe506, hcc506⟩ := Kd.S_get HO_8.out [] x10_1 p506 (by first | exact q506 | exact dt | (have e_ := (Kd.S_reads' HO_8.out).1; omega)); obtain ⟨ve506_0, rfl, ge506_0⟩ := hMe506; have hv506_0 := hcc506 0 _ rfl; rw [Nat.add_zero, show ((Kd.slice 4 Kd.bool)).sz = 1 from rfl, Nat.mul_one] at hv506_0; replace hv506_0 := Option.some.inj (hv506_0.symm.trans hx506_0); rw [hv506_0] at ge506_0; have HL506_0 := asd (show Kd.R Kd.bool 4 _ _ _ _ (rd_L9 x8_2 x10_1) from ge506_0); clear hv506_0 ge506_0; have HX506_0 := asd hx506_0; clear hcc506 hce506; (first | simp only [add_plain] at hx506_0 | simp only [add_at] at hx506_0 | simp only [Addr.add, Nat.zero_add] at hx506_0 | skip); have HR506_0 := asd hi506_0; have HC506_0 := asd hl506_0; clear hi506_0 hl506_0; replace p506 := eq_true p506; replace q506 := eq_true q506; have p34 : 0 ≤ (x11_2 : Int) := dt; have q34 : (x11_2 : Int) < (((rd_L9 x8_2 x10_1).length : Int) : Int) := dt; obtain ⟨go34, co34, eo34, gb34, gl34, cl34, HG34⟩ := Kd.R_form HL506_0.out (by omega); (first | cases eo34 | (injection eo34 with ea_ en_ ec_; (first | subst ea_ | (injection ea_ with ea_; subst ea_)); subst ec_; clear en_)); have GB34 := asd gb34; have GG34 := asd HG34; clear gb34 gl34 HG34; obtain ⟨hx34_0, hf34_0⟩ := Kd.R_celln false HL506_0.out (x11_2 : Int) p34 q34; replace p34 := eq_true p34; replace q34 := eq_true q34; have hq36 : (x10_1 : Int) < (x8_2.length : Int) := (by have h_ : (x10_1 : Int) < ((x8_2.length : Int) : Int) := dt; first | exact h_ | (have e_ := (Kd.S_reads' HO_8.out).1; omega) | simpa only [List.length_set, List.length_set] using h_); obtain ⟨oki36, ce36, hcl36, hM36, hcc36, hok36, hbk36⟩ := Kd.S_borrow HO_8.out [] (x10_1 : Int) dt hq36; obtain ⟨ve36_0, rfl, ge36_0⟩ := hM36; have hv36 := hcc36 0 _ rfl; rw [Nat.add_zero, show ((Kd.slice 4 Kd.bool)).sz = 1 from rfl, Nat.mul_one] at hv36; replace hv36 := Option.some.inj (hv36.symm.trans HX506_0.out); subst hv36; clear hcc36 hcl36; replace ge36_0 := (show Kd.R Kd.bool 4 _ _ _ _ (rd_L9 x8_2 x10_1) from ge36_0); have HP36 := Kd.R_putg ge36_0 (x11_2 : Int) t504) | ((with_reducible refine gate_store (t := 4) (p := 82) rfl ?_); (try (rw [drewN_self w35]; generalize hq_ : World.drewN w35 _ = w35; have n0_ := asd (Kd.S_at hq_ HO_3.out); have n1_ := asd (Kd.S_at hq_ HO_8.out); have n2_ := asd (Kd.R_at hq_ HL528.out); have n3_ := asd (below_at hq_ HB.out); clear hq_ HO_3 HO_8 HL528 HB; have HO_3 := n0_; have HO_8 := n1_; have HL528 := n2_; have HB := n3_; clear n0_ n1_ n2_ n3_; (try (have hq36 : (x10_1 : Int) < (x8_2.length : Int) := (by have h_ : (x10_1 : Int) < ((x8_2.length : Int) : Int) := dt; first | exact h_ | (have e_ := (Kd.S_reads' HO_8.out).1; omega) | simpa only [List.length_set, List.length_set] using h_))); (try (obtain ⟨oki36, ce36, hcl36, hM36, hcc36, hok36, hbk36⟩ := Kd.S_borrow HO_8.out [] (x10_1 : Int) dt hq36)); (try (obtain ⟨ve36_0, rfl, ge36_0⟩ := hM36)); (try (have hv36 := hcc36 0 _ rfl)); (try (rw [Nat.add_zero, show ((Kd.slice 4 Kd.bool)).sz = 1 from rfl, Nat.mul_one] at hv36)); (try (replace hv36 := Option.some.inj (hv36.symm.trans HX506_0.out))); (try (subst hv36)); (try (clear hcc36 hcl36)); (try (replace ge36_0 := (show Kd.R Kd.bool 4 _ _ _ _ (rd_L9 x8_2 x10_1) from ge36_0))); (try (have HP36 := Kd.R_putg ge36_0 (x11_2 : Int) t504)))); refine store_event (t := 4) (p := 82) (v := ?vo_w37) (w1 := (w35.setCell ⟨go34, (x11_2 : Int).toNat, none⟩ (.bool t504))) ?hg ?ho ?hn ?hr ?_; (case ho => rfl); (case hg => rfl); (case hn => rfl); (case hr => first | (go_simp; done) | (go_simp; rfl)); intro w37 hw; have hg : w35.grownBy w37 (some go34) := (by rw [hw]; exact HP36.2); have hz_ : Kd.R Kd.bool 4 w37 w.heap.size oki36 (.slice (some ⟨go34, 0, none⟩) (rd_L9 x8_2 x10_1).length c506_0) y507 := (by rw [hw, Ny507.out]; exact HP36.1); have hp_ : Kd.S (Kd.slice 4 Kd.bool) 31 w37 w.heap.size (fun _ => True) (.slice (some ⟨go22, 0, none⟩) x8_2.length co22) y509 := (by rw [Ny509.out]; exact hbk36 hg (fun k_ e_ => by injection e_ with e_; subst e_; exact ge36_0.1 _ rfl) (Kd.M_row hz_)); have hm_ := Kd.R_mono hz_ hok36; clear HP36 hbk36; have n0_ := asd (Kd.S_over' (v := (.slice (some ⟨go34, 0, none⟩) (rd_L9 x8_2 x10_1).length c506_0)) (by (with_reducible repeat (first | apply Kd.S_alloc | apply Kd.S_drewN | apply Kd.S_drew)); exact HO_3.out) (Kd.R_typed HL506_0.out) (by decide) hg); have n1_ := asd (hp_); have n2_ := asd ((by rw [hw]; exact below_set (HB.out) GB34.out : Below w.heap.size w w37)); have n3_ := asd (hm_); have n4_ := asd ((Kd.R_reads' hm_).2.1); clear HO_3; clear HO_8; clear HB; clear HL506_0; have HO_3 := n0_; have HO_8 := n1_; have HB := n2_; have HL528 := n3_; have HC508 := n4_; clear n0_ n1_ n2_ n3_ n4_; clear hg hw hp_ hz_ hm_ hok36))
                      repeat (go_quiet (first | (go_at_call 14; (with_reducible refine (event_Ahead.calls _ _ y487 x10_1 x11_2 t504 t505 _ ?side1 ?side2 A28.out).mono ?_); (case side1 => exact skC (Kd.C_below HR490.out HB.out)); (case side2 => exact HC490.out); rintro e w35 ⟨rfl, hb⟩; have n0_ := asd (Kd.S_below (by (with_reducible repeat (first | apply Kd.S_alloc | apply Kd.S_drewN | apply Kd.S_drew)); exact HO_3.out) hb); have n1_ := asd (Kd.S_below (by (with_reducible repeat (first | apply Kd.S_alloc | apply Kd.S_drewN | apply Kd.S_drew)); exact HO_8.out) hb); have n2_ := asd (below_step (skB HB.out) hb); clear HO_3; clear HO_8; clear HB; have HO_3 := n0_; have HO_8 := n1_; have HB := n2_; clear n0_ n1_ n2_; (try clear hb); (try clear hb2); (try clear hk); (try clear hi); have p506 : 0 ≤ (x10_1 : Int) := dt; have q506 : x10_1 < (x8_2.length : Int) := dt; obtain ⟨ad506, A506_0, c506_0, e506, hx506_0, hl506_0, hi506_0⟩ := at_L9 (Kd.S_reads' HO_8.out).2.2 x10_1 p506 q506; obtain rfl : (⟨go22, 0, none⟩ : Addr) = ad506 := (by injection e506); obtain ⟨ce506, hce506, hMe506, hcc506⟩ := Kd.S_get HO_8.out [] x10_1 p506 (by first | exact q506 | exact dt | (have e_ := (Kd.S_reads' HO_8.out).1; omega)); obtain ⟨ve506_0, rfl, ge506_0⟩ := hMe506; have hv506_0 := hcc506 0 _ rfl; rw [Nat.add_zero, show ((Kd.slice 4 Kd.bool)).sz = 1 from rfl, Nat.mul_one] at hv506_0; replace hv506_0 := Option.some.inj (hv506_0.symm.trans hx506_0); rw [hv506_0] at ge506_0; have HL506_0 := asd (show Kd.R Kd.bool 4 _ _ _ _ (rd_L9 x8_2 x10_1) from ge506_0); clear hv506_0 ge506_0; have HX506_0 := asd hx506_0; clear hcc506 hce506; (first | simp only [add_plain] at hx506_0 | simp only [add_at] at hx506_0 | simp only [Addr.add, Nat.zero_add] at hx506_0 | skip); have HR506_0 := asd hi506_0; have HC506_0 := asd hl506_0; clear hi506_0 hl506_0; replace p506 := eq_true p506; replace q506 := eq_true q506; have p34 : 0 ≤ (x11_2 : Int) := dt; have q34 : (x11_2 : Int) < (((rd_L9 x8_2 x10_1).length : Int) : Int) := dt; obtain ⟨go34, co34, eo34, gb34, gl34, cl34, HG34⟩ := Kd.R_form HL506_0.out (by omega); (first | cases eo34 | (injection eo34 with ea_ en_ ec_; (first | subst ea_ | (injection ea_ with ea_; subst ea_)); subst ec_; clear en_)); have GB34 := asd gb34; have GG34 := asd HG34; clear gb34 gl34 HG34; obtain ⟨hx34_0, hf34_0⟩ := Kd.R_celln false HL506_0.out (x11_2 : Int) p34 q34; replace p34 := eq_true p34; replace q34 := eq_true q34; have hq36 : (x10_1 : Int) < (x8_2.length : Int) := (by have h_ : (x10_1 : Int) < ((x8_2.length : Int) : Int) := dt; first | exact h_ | (have e_ := (Kd.S_reads' HO_8.out).1; omega) | simpa only [List.length_set, List.length_set] using h_); obtain ⟨oki36, ce36, hcl36, hM36, hcc36, hok36, hbk36⟩ := Kd.S_borrow HO_8.out [] (x10_1 : Int) dt hq36; obtain ⟨ve36_0, rfl, ge36_0⟩ := hM36; have hv36 := hcc36 0 _ rfl; rw [Nat.add_zero, show ((Kd.slice 4 Kd.bool)).sz = 1 from rfl, Nat.mul_one] at hv36; replace hv36 := Option.some.inj (hv36.symm.trans HX506_0.out); subst hv36; clear hcc36 hcl36; replace ge36_0 := (show Kd.R Kd.bool 4 _ _ _ _ (rd_L9 x8_2 x10_1) from ge36_0); have HP36 := Kd.R_putg ge36_0 (x11_2 : Int) t504) | ((with_reducible refine gate_store (t := 4) (p := 82) rfl ?_); (try (rw [drewN_self w35]; generalize hq_ : World.drewN w35 _ = w35; have n0_ := asd (Kd.S_at hq_ HO_3.out); have n1_ := asd (Kd.S_at hq_ HO_8.out); have n2_ := asd (Kd.R_at hq_ HL528.out); have n3_ := asd (below_at hq_ HB.out); clear hq_ HO_3 HO_8 HL528 HB; have HO_3 := n0_; have HO_8 := n1_; have HL528 := n2_; have HB := n3_; clear n0_ n1_ n2_ n3_; (try (have hq36 : (x10_1 : Int) < (x8_2.length : Int) := (by have h_ : (x10_1 : Int) < ((x8_2.length : Int) : Int) := dt; first | exact h_ | (have e_ := (Kd.S_reads' HO_8.out).1; omega) | simpa only [List.length_set, List.length_set] using h_))); (try (obtain ⟨oki36, ce36, hcl36, hM36, hcc36, hok36, hbk36⟩ := Kd.S_borrow HO_8.out [] (x10_1 : Int) dt hq36)); (try (obtain ⟨ve36_0, rfl, ge36_0⟩ := hM36)); (try (have hv36 := hcc36 0 _ rfl)); (try (rw [Nat.add_zero, show ((Kd.slice 4 Kd.bool)).sz = 1 from rfl, Nat.mul_one] at hv36)); (try (replace hv36 := Option.some.inj (hv36.symm.trans HX506_0.out))); (try (subst hv36)); (try (clear hcc36 hcl36)); (try (replace ge36_0 := (show Kd.R Kd.bool 4 _ _ _ _ (rd_L9 x8_2 x10_1) from ge36_0))); (try (have HP36 := Kd.R_putg ge36_0 (x11_2 : Int) t504)))); refine store_event (t := 4) (p := 82) (v := ?vo_w37) (w1 := (w35.setCell ⟨go34, (x11_2 : Int).toNat, none⟩ (.bool t504))) ?hg ?ho ?hn ?hr ?_; (case ho => rfl); (case hg => rfl); (case hn => rfl); (case hr => first | (go_simp; done) | (go_simp; rfl)); intro w37 hw; have hg : w35.grownBy w37 (some go34) := (by rw [hw]; exact HP36.2); have hz_ : Kd.R Kd.bool 4 w37 w.heap.size oki36 (.slice (some ⟨go34, 0, none⟩) (rd_L9 x8_2 x10_1).length c506_0) y507 := (by rw [hw, Ny507.out]; exact HP36.1); have hp_ : Kd.S (Kd.slice 4 Kd.bool) 31 w37 w.heap.size (fun _ => True) (.slice (some ⟨go22, 0, none⟩) x8_2.length co22) y509 := (by rw [Ny509.out]; exact hbk36 hg (fun k_ e_ => by injection e_ with e_; subst e_; exact ge36_0.1 _ rfl) (Kd.M_row hz_)); have hm_ := Kd.R_mono hz_ hok36; clear HP36 hbk36; have n0_ := asd (Kd.S_over' (v := (.slice (some ⟨go34, 0, none⟩) (rd_L9 x8_2 x10_1).length c506_0)) (by (with_reducible repeat (first | apply Kd.S_alloc | apply Kd.S_drewN | apply Kd.S_drew)); exact HO_3.out) (Kd.R_typed HL506_0.out) (by decide) hg); have n1_ := asd (hp_); have n2_ := asd ((by rw [hw]; exact below_set (HB.out) GB34.out : Below w.heap.size w w37)); have n3_ := asd (hm_); have n4_ := asd ((Kd.R_reads' hm_).2.1); clear HO_3; clear HO_8; clear HB; clear HL506_0; have HO_3 := n0_; have HO_8 := n1_; have HB := n2_; have HL528 := n3_; have HC508 := n4_; clear n0_ n1_ n2_ n3_ n4_; clear hg hw hp_ hz_ hm_ hok36)); try go_wp2_with (first | (go_at_call 14; (with_reducible refine (event_Ahead.calls _ _ y487 x10_1 x11_2 t504 t505 _ ?side1 ?side2 A28.out).mono ?_); (case side1 => exact skC (Kd.C_below HR490.out HB.out)); (case side2 => exact HC490.out); rintro e w35 ⟨rfl, hb⟩; have n0_ := asd (Kd.S_below (by (with_reducible repeat (first | apply Kd.S_alloc | apply Kd.S_drewN | apply Kd.S_drew)); exact HO_3.out) hb); have n1_ := asd (Kd.S_below (by (with_reducible repeat (first | apply Kd.S_alloc | apply Kd.S_drewN | apply Kd.S_drew)); exact HO_8.out) hb); have n2_ := asd (below_step (skB HB.out) hb); clear HO_3; clear HO_8; clear HB; have HO_3 := n0_; have HO_8 := n1_; have HB := n2_; clear n0_ n1_ n2_; (try clear hb); (try clear hb2); (try clear hk); (try clear hi); have p506 : 0 ≤ (x10_1 : Int) := dt; have q506 : x10_1 < (x8_2.length : Int) := dt; obtain ⟨ad506, A506_0, c506_0, e506, hx506_0, hl506_0, hi506_0⟩ := at_L9 (Kd.S_reads' HO_8.out).2.2 x10_1 p506 q506; obtain rfl : (⟨go22, 0, none⟩ : Addr) = ad506 := (by injection e506); obtain ⟨ce506, hce506, hMe506, hcc506⟩ := Kd.S_get HO_8.out [] x10_1 p506 (by first | exact q506 | exact dt | (have e_ := (Kd.S_reads' HO_8.out).1; omega)); obtain ⟨ve506_0, rfl, ge506_0⟩ := hMe506; have hv506_0 := hcc506 0 _ rfl; rw [Nat.add_zero, show ((Kd.slice 4 Kd.bool)).sz = 1 from rfl, Nat.mul_one] at hv506_0; replace hv506_0 := Option.some.inj (hv506_0.symm.trans hx506_0); rw [hv506_0] at ge506_0; have HL506_0 := asd (show Kd.R Kd.bool 4 _ _ _ _ (rd_L9 x8_2 x10_1) from ge506_0); clear hv506_0 ge506_0; have HX506_0 := asd hx506_0; clear hcc506 hce506; (first | simp only [add_plain] at hx506_0 | simp only [add_at] at hx506_0 | simp only [Addr.add, Nat.zero_add] at hx506_0 | skip); have HR506_0 := asd hi506_0; have HC506_0 := asd hl506_0; clear hi506_0 hl506_0; replace p506 := eq_true p506; replace q506 := eq_true q506; have p34 : 0 ≤ (x11_2 : Int) := dt; have q34 : (x11_2 : Int) < (((rd_L9 x8_2 x10_1).length : Int) : Int) := dt; obtain ⟨go34, co34, eo34, gb34, gl34, cl34, HG34⟩ := Kd.R_form HL506_0.out (by omega); (first | cases eo34 | (injection eo34 with ea_ en_ ec_; (first | subst ea_ | (injection ea_ with ea_; subst ea_)); subst ec_; clear en_)); have GB34 := asd gb34; have GG34 := asd HG34; clear gb34 gl34 HG34; obtain ⟨hx34_0, hf34_0⟩ := Kd.R_celln false HL506_0.out (x11_2 : Int) p34 q34; replace p34 := eq_true p34; replace q34 := eq_true q34; have hq36 : (x10_1 : Int) < (x8_2.length : Int) := (by have h_ : (x10_1 : Int) < ((x8_2.length : Int) : Int) := dt; first | exact h_ | (have e_ := (Kd.S_reads' HO_8.out).1; omega) | simpa only [List.length_set, List.length_set] using h_); obtain ⟨oki36, ce36, hcl36, hM36, hcc36, hok36, hbk36⟩ := Kd.S_borrow HO_8.out [] (x10_1 : Int) dt hq36; obtain ⟨ve36_0, rfl, ge36_0⟩ := hM36; have hv36 := hcc36 0 _ rfl; rw [Nat.add_zero, show ((Kd.slice 4 Kd.bool)).sz = 1 from rfl, Nat.mul_one] at hv36; replace hv36 := Option.some.inj (hv36.symm.trans HX506_0.out); subst hv36; clear hcc36 hcl36; replace ge36_0 := (show Kd.R Kd.bool 4 _ _ _ _ (rd_L9 x8_2 x10_1) from ge36_0); have HP36 := Kd.R_putg ge36_0 (x11_2 : Int) t504) | ((with_reducible refine gate_store (t := 4) (p := 82) rfl ?_); (try (rw [drewN_self w35]; generalize hq_ : World.drewN w35 _ = w35; have n0_ := asd (Kd.S_at hq_ HO_3.out); have n1_ := asd (Kd.S_at hq_ HO_8.out); have n2_ := asd (Kd.R_at hq_ HL528.out); have n3_ := asd (below_at hq_ HB.out); clear hq_ HO_3 HO_8 HL528 HB; have HO_3 := n0_; have HO_8 := n1_; have HL528 := n2_; have HB := n3_; clear n0_ n1_ n2_ n3_; (try (have hq36 : (x10_1 : Int) < (x8_2.length : Int) := (by have h_ : (x10_1 : Int) < ((x8_2.length : Int) : Int) := dt; first | exact h_ | (have e_ := (Kd.S_reads' HO_8.out).1; omega) | simpa only [List.length_set, List.length_set] using h_))); (try (obtain ⟨oki36, ce36, hcl36, hM36, hcc36, hok36, hbk36⟩ := Kd.S_borrow HO_8.out [] (x10_1 : Int) dt hq36)); (try (obtain ⟨ve36_0, rfl, ge36_0⟩ := hM36)); (try (have hv36 := hcc36 0 _ rfl)); (try (rw [Nat.add_zero, show ((Kd.slice 4 Kd.bool)).sz = 1 from rfl, Nat.mul_one] at hv36)); (try (replace hv36 := Option.some.inj (hv36.symm.trans HX506_0.out))); (try (subst hv36)); (try (clear hcc36 hcl36)); (try (replace ge36_0 := (show Kd.R Kd.bool 4 _ _ _ _ (rd_L9 x8_2 x10_1) from ge36_0))); (try (have HP36 := Kd.R_putg ge36_0 (x11_2 : Int) t504)))); refine store_event (t := 4) (p := 82) (v := ?vo_w37) (w1 := (w35.setCell ⟨go34, (x11_2 : Int).toNat, none⟩ (.bool t504))) ?hg ?ho ?hn ?hr ?_; (case ho => rfl); (case hg => rfl); (case hn => rfl); (case hr => first | (go_simp; done) | (go_simp; rfl)); intro w37 hw; have hg : w35.grownBy w37 (some go34) := (by rw [hw]; exact HP36.2); have hz_ : Kd.R Kd.bool 4 w37 w.heap.size oki36 (.slice (some ⟨go34, 0, none⟩) (rd_L9 x8_2 x10_1).length c506_0) y507 := (by rw [hw, Ny507.out]; exact HP36.1); have hp_ : Kd.S (Kd.slice 4 Kd.bool) 31 w37 w.heap.size (fun _ => True) (.slice (some ⟨go22, 0, none⟩) x8_2.length co22) y509 := (by rw [Ny509.out]; exact hbk36 hg (fun k_ e_ => by injection e_ with e_; subst e_; exact ge36_0.1 _ rfl) (Kd.M_row hz_)); have hm_ := Kd.R_mono hz_ hok36; clear HP36 hbk36; have n0_ := asd (Kd.S_over' (v := (.slice (some ⟨go34, 0, none⟩) (rd_L9 x8_2 x10_1).length c506_0)) (by (with_reducible repeat (first | apply Kd.S_alloc | apply Kd.S_drewN | apply Kd.S_drew)); exact HO_3.out) (Kd.R_typed HL506_0.out) (by decide) hg); have n1_ := asd (hp_); have n2_ := asd ((by rw [hw]; exact below_set (HB.out) GB34.out : Below w.heap.size w w37)); have n3_ := asd (hm_); have n4_ := asd ((Kd.R_reads' hm_).2.1); clear HO_3; clear HO_8; clear HB; clear HL506_0; have HO_3 := n0_; have HO_8 := n1_; have HB := n2_; have HL528 := n3_; have HC508 := n4_; clear n0_ n1_ n2_ n3_ n4_; clear hg hw hp_ hz_ hm_ hok36)))
                      (try simp only [← hl8_2])
                      go_roundg k2
                      case measure => have := HK1.out; have := HK2.out; omega
                      case rel => exact ⟨(y509), (wrap64 (x11_2 + 1)), rs, H', ⟨by have := HK1.out; have := HK2.out; omega⟩, ⟨by (try simp only [hl8_2]); (with_reducible repeat (first | apply Kd.S_alloc | apply Kd.S_drewN | apply Kd.S_drew)); exact HO_3.out⟩, ⟨by (try simp only [hl8_2]); (with_reducible repeat (first | apply Kd.S_alloc | apply Kd.S_drewN | apply Kd.S_drew)); exact HO_8.out⟩, ⟨skB HB.out⟩⟩
                     ·
                      rw [if_neg c33] at H
                      exact absurd H (by simp)
                    ·
                     rw [if_neg c32] at H
                     exact absurd H (by simp)
                   ·
                    rw [if_neg c31] at H
                    exact absurd H (by simp)
                  ·
                   rw [if_neg c30] at H
                   exact absurd H (by simp)
                 ·
                  rw [if_neg c29] at H
                  exact absurd H (by simp)
                ·
                 rw [if_neg c27] at H
                 have c27b0 : decide (x11_2 < (t491.length : Int)) = false := decide_eq_false c27
                 clear c27
                 have H' := asd H
                 clear H
                 go_wp2
                 repeat (go_quiet (fail); try go_wp2)
                 (try simp only [← hl8_2])
                 go_roundg k2
                 case measure => have := HK1.out; have := HK2.out; omega
                 case rel => exact ⟨(x8_2), (wrap64 (x10_1 + 1)), rs, H', ⟨by have := HK1.out; have := HK2.out; omega⟩, ⟨by (try simp only [hl8_2]); (with_reducible repeat (first | apply Kd.S_alloc | apply Kd.S_drewN | apply Kd.S_drew)); exact HO_3.out⟩, ⟨by (try simp only [hl8_2]); (with_reducible repeat (first | apply Kd.S_alloc | apply Kd.S_drewN | apply Kd.S_drew)); exact HO_8.out⟩, ⟨skB HB.out⟩⟩
             ·
              rw [if_neg c21] at H
              exact absurd H (by simp)
            ·
             rw [if_neg c20] at H
             exact absurd H (by simp)
           ·
            rw [if_neg c19] at H
            exact absurd H (by simp)
          ·
           rw [if_neg c18] at H
           exact absurd H (by simp)
         ·
          rw [if_neg c17] at H
          have c17b0 : decide (x10_1 < (t491.length : Int)) = false := decide_eq_false c17
          clear c17
          have H' := asd H
          clear H
          go_wp2
          repeat (go_quiet (fail); try go_wp2)
          go_loopg [9, 14] k1 (fun kq v9 v14 w' => ∃ (x9_2 : Bool) (x14_2 : Int), v9 = .bool x9_2 ∧ v14 = .int .i64 x14_2 ∧ Aside0 (larchlaw05_EventAhead.l2 kq y487 t491 (t491.length : Int) x8_1 x9_2 x14_2 = some r) ∧ Aside0 (kq ≤ k1) ∧ Aside0 (Kd.S k38 38 w' w.heap.size (fun _ => True) (.slice Ao14 t491.length co14) t491) ∧ Aside0 (Kd.S (Kd.slice 4 Kd.bool) 31 w' w.heap.size (fun _ => True) v498 x8_1) ∧ Aside0 (Below w.heap.size w w'))
          case atStart => exact ⟨(true), (0), rs, rs, H', ⟨Nat.le_refl _⟩, ⟨by (with_reducible repeat (first | apply Kd.S_alloc | apply Kd.S_drewN | apply Kd.S_drew)); exact HO_3.out⟩, ⟨by (with_reducible repeat (first | apply Kd.S_alloc | apply Kd.S_drewN | apply Kd.S_drew)); exact HO_8.out⟩, ⟨skB HB.out⟩⟩
          case round =>
           clear H'
           try clear c1
           try clear q1
           try clear c2
           try clear p2
           try clear q2
           try clear hx2
           try clear hf2
           try clear c3
           try clear p3
           try clear q3
           try clear hx3
           try clear hf3
           try clear c5
           try clear c5b0
           try clear c5b1
           try clear p5
           try clear q5
           try clear hx5
           try clear c6
           try clear c6b0
           try clear c6b1
           try clear p6
           try clear c8
           try clear c8b0
           try clear c8b1
           try clear c9
           try clear c9b0
           try clear c9b1
           try clear c10
           try clear c10b0
           try clear c10b1
           try clear q12
           try clear c17
           try clear c17b0
           try clear c18
           try clear c18b0
           try clear c18b1
           try clear c19
           try clear c19b0
           try clear c19b1
           try clear c20
           try clear c20b0
           try clear c21
           try clear c21b0
           try clear c22
           try clear p22
           try clear q22
           try clear hx22
           try clear hf22
           try clear c25
           try clear hx25
           try clear hf25
           try clear c27
           try clear c27b0
           try clear c29
           try clear c29b0
           try clear c29b1
           try clear c30
           try clear c30b0
           try clear c31
           try clear c31b0
           try clear c32
           try clear c32b0
           try clear c33
           try clear c33b0
           try clear p34
           try clear q34
           try clear hx34
           try clear hf34
           try clear c36
           try clear q36
           try clear hx22_0
           try clear hx25_0
           try clear hx34_0
           try clear hx506_0
           try clear p2
           try clear p22
           try clear p34
           try clear p506
           try clear q1
           try clear q12
           try clear q2
           try clear q22
           try clear q34
           try clear q506
           obtain ⟨x9_2, x14_2, rfl, rfl, HA, HK2, HO_3, HO_8, HB⟩ := hrel
           cases gk with
           | zero => exact absurd HA.out (by simp [larchlaw05_EventAhead.l2])
           | succ k2 =>
            have H := HA.out
            clear HA
            simp only [larchlaw05_EventAhead.l2] at H
            by_cases c38 : x14_2 < (t491.length : Int)
            ·
             rw [if_pos c38] at H
             have c38b0 : decide (x14_2 < (t491.length : Int)) = true := decide_eq_true c38
             clear c38
             by_cases c39 : 0 ≤ x14_2
             ·
              rw [if_pos c39] at H
              have c39b0 : decide (0 ≤ x14_2) = true := decide_eq_true c39
              clear c39
              by_cases c40 : x14_2 < (x8_1.length : Int)
              ·
               rw [if_pos c40] at H
               have c40b0 : decide (x14_2 < (x8_1.length : Int)) = true := decide_eq_true c40
               clear c40
               by_cases c41 : x14_2 < ((rd_L9 x8_1 x14_2).length : Int)
               ·
                rw [if_pos c41] at H
                have c41b0 : decide (x14_2 < ((rd_L9 x8_1 x14_2).length : Int)) = true := decide_eq_true c41
                clear c41
                obtain ⟨bq42, hbq42⟩ : ∃ b_ : Bool, b_ = (rdOf false (rd_L9 x8_1 x14_2) x14_2) := ⟨_, rfl⟩
                replace H : (if bq42 = true then (none) else (larchlaw05_EventAhead.l3 k2 y487 t491 (t491.length : Int) x8_1 x9_2 x14_2 0)) = some r := by rw [← hbq42] at H; exact H
                have Nbq42 := asd hbq42
                clear hbq42
                by_cases c43 : bq42 = true
                ·
                 subst c43
                 have H1 : (none) = some r := by rw [if_pos rfl] at H; exact H
                 clear H
                 have H := H1
                 clear H1
                 exact absurd H (by simp)
                ·
                 replace c43 := Bool.eq_false_iff.mpr c43
                 subst c43
                 have H1 : (larchlaw05_EventAhead.l3 k2 y487 t491 (t491.length : Int) x8_1 x9_2 x14_2 0) = some r := by rw [if_neg (show ¬ (false = true) by decide)] at H; exact H
                 clear H
                 have H := H1
                 clear H1
                 have H' := asd H
                 clear H
                 obtain ⟨Ao44, co44, eo44⟩ := Kd.S_slice HO_8.out
                 subst eo44
                 have p514 : 0 ≤ (x14_2 : Int) := dt
                 have q514 : x14_2 < (x8_1.length : Int) := dt
                 obtain ⟨ad514, A514_0, c514_0, e514, hx514_0, hl514_0, hi514_0⟩ := at_L9 (Kd.S_reads' HO_8.out).2.2 x14_2 p514 q514
                 cases e514
                 obtain ⟨ce514, hce514, hMe514, hcc514⟩ := Kd.S_get HO_8.out [] x14_2 p514 (by first | exact q514 | exact dt | (have e_ := (Kd.S_reads' HO_8.out).1; omega))
                 obtain ⟨ve514_0, rfl, ge514_0⟩ := hMe514
                 have hv514_0 := hcc514 0 _ rfl
                 rw [Nat.add_zero, show ((Kd.slice 4 Kd.bool)).sz = 1 from rfl, Nat.mul_one] at hv514_0
                 replace hv514_0 := Option.some.inj (hv514_0.symm.trans hx514_0)
                 rw [hv514_0] at ge514_0
                 have HL514_0 := asd (show Kd.R Kd.bool 4 _ _ _ _ (rd_L9 x8_1 x14_2) from ge514_0)
                 clear hv514_0 ge514_0
                 have HX514_0 := asd hx514_0
                 clear hcc514 hce514
                 have HR514_0 := asd hi514_0
                 have HC514_0 := asd hl514_0
                 clear hi514_0 hl514_0
                 replace p514 := eq_true p514
                 replace q514 := eq_true q514
                 have p515 : 0 ≤ (x14_2 : Int) := dt
                 have q515 : x14_2 < ((rd_L9 x8_1 x14_2).length : Int) := dt
                 obtain ⟨ad515, e515, hx515_0⟩ := Kd.at_bool (by repeat (first | (with_reducible exact HR514_0.out) | (with_reducible refine Kd.C_alloc ?_ _) | (with_reducible refine Kd.C_drewN ?_ _) | (with_reducible refine Kd.C_drew ?_) | exact HR514_0.out)) x14_2 p515 q515
                 (try rw [← Nbq42.out] at hx515_0)
                 cases e515
                 replace p515 := eq_true p515
                 replace q515 := eq_true q515
                 go_wp2
                 repeat (go_quiet (fail); try go_wp2)
                 go_loopg [9, 15] k2 (fun kq v9 v15 w' => ∃ (x9_3 : Bool) (x15_3 : Int), v9 = .bool x9_3 ∧ v15 = .int .i64 x15_3 ∧ Aside0 (larchlaw05_EventAhead.l3 kq y487 t491 (t491.length : Int) x8_1 x9_3 x14_2 x15_3 = some r) ∧ Aside0 (kq ≤ k2) ∧ Aside0 (Kd.S k38 38 w' w.heap.size (fun _ => True) (.slice Ao14 t491.length co14) t491) ∧ Aside0 (Kd.S (Kd.slice 4 Kd.bool) 31 w' w.heap.size (fun _ => True) (.slice (some ad514) x8_1.length co44) x8_1) ∧ Aside0 (Kd.C Kd.bool w' (some ad515) (rd_L9 x8_1 x14_2).length (rd_L9 x8_1 x14_2)) ∧ Aside0 (Below w.heap.size w w'))
                 case atStart => exact ⟨(x9_2), (0), rs, rs, H', ⟨Nat.le_refl _⟩, ⟨by (with_reducible repeat (first | apply Kd.S_alloc | apply Kd.S_drewN | apply Kd.S_drew)); exact HO_3.out⟩, ⟨by (with_reducible repeat (first | apply Kd.S_alloc | apply Kd.S_drewN | apply Kd.S_drew)); exact HO_8.out⟩, ⟨by repeat (first | (with_reducible exact HR514_0.out) | (with_reducible refine Kd.C_alloc ?_ _) | (with_reducible refine Kd.C_drewN ?_ _) | (with_reducible refine Kd.C_drew ?_) | exact HR514_0.out)⟩, ⟨skB HB.out⟩⟩
                 case round =>
                  clear H'
                  try clear c1
                  try clear q1
                  try clear c2
                  try clear p2
                  try clear q2
                  try clear hx2
                  try clear hf2
                  try clear c3
                  try clear p3
                  try clear q3
                  try clear hx3
                  try clear hf3
                  try clear c4
                  try clear q4
                  try clear c5
                  try clear c5b0
                  try clear c5b1
                  try clear p5
                  try clear q5
                  try clear hx5
                  try clear c6
                  try clear c6b0
                  try clear c6b1
                  try clear p6
                  try clear c8
                  try clear c8b0
                  try clear c8b1
                  try clear c9
                  try clear c9b0
                  try clear c9b1
                  try clear c10
                  try clear c10b0
                  try clear c10b1
                  try clear q12
                  try clear c17
                  try clear c17b0
                  try clear c18
                  try clear c18b0
                  try clear c18b1
                  try clear c19
                  try clear c19b0
                  try clear c19b1
                  try clear c20
                  try clear c20b0
                  try clear c21
                  try clear c21b0
                  try clear c22
                  try clear p22
                  try clear q22
                  try clear hx22
                  try clear hf22
                  try clear c25
                  try clear hx25
                  try clear hf25
                  try clear c27
                  try clear c27b0
                  try clear c29
                  try clear c29b0
                  try clear c29b1
                  try clear c30
                  try clear c30b0
                  try clear c31
                  try clear c31b0
                  try clear c32
                  try clear c32b0
                  try clear c33
                  try clear c33b0
                  try clear p34
                  try clear q34
                  try clear hx34
                  try clear hf34
                  try clear c36
                  try clear q36
                  try clear c38
                  try clear c38b0
                  try clear c39
                  try clear c39b0
                  try clear c40
                  try clear c40b0
                  try clear c41
                  try clear c41b0
                  try clear q42
                  try clear c43
                  try clear hx22_0
                  try clear hx25_0
                  try clear hx34_0
                  try clear hx506_0
                  try clear hx514_0
                  try clear hx515_0
                  try clear p2
                  try clear p22
                  try clear p3
                  try clear p34
                  try clear p5
                  try clear p506
                  try clear p514
                  try clear p515
                  try clear p6
                  try clear q1
                  try clear q12
                  try clear q2
                  try clear q22
                  try clear q3
                  try clear q34
                  try clear q36
                  try clear q5
                  try clear q506
                  try clear q514
                  try clear q515
                  obtain ⟨x9_3, x15_3, rfl, rfl, HA, HK3, HO_3, HO_8, HR514_0, HB⟩ := hrel
                  cases gk with
                  | zero => exact absurd HA.out (by simp [larchlaw05_EventAhead.l3])
                  | succ k3 =>
                   have H := HA.out
                   clear HA
                   simp only [larchlaw05_EventAhead.l3] at H
                   by_cases c45 : x15_3 < (t491.length : Int)
                   ·
                    rw [if_pos c45] at H
                    have c45b0 : decide (x15_3 < (t491.length : Int)) = true := decide_eq_true c45
                    clear c45
                    have HC46 := asd H
                    clear H
                    go_upto_region 30 with (fail)
                    repeat (go_quiet (fail); go_upto_region 30 with (fail))
                    go_cut [125] (fun v125 wc => ∃ (kq : Nat) (x125_45 : Bool), v125 = .bool x125_45 ∧ Aside0 (larchlaw05_EventAhead.j4 kq y487 t491 (t491.length : Int) x8_1 x9_3 x14_2 x15_3 x125_45 = some r) ∧ Aside0 (kq ≤ k3) ∧ Aside0 (Kd.S k38 38 wc w.heap.size (fun _ => True) (.slice Ao14 t491.length co14) t491) ∧ Aside0 (Kd.S (Kd.slice 4 Kd.bool) 31 wc w.heap.size (fun _ => True) (.slice (some ad514) x8_1.length co44) x8_1) ∧ Aside0 (Kd.C Kd.bool wc (some ad515) (rd_L9 x8_1 x14_2).length (rd_L9 x8_1 x14_2)) ∧ Aside0 (Below w.heap.size w wc))
                    case first =>
                     have H := HC46.out
                     clear HC46
                     by_cases c47 : 0 ≤ x14_2
                     ·
                      rw [if_pos c47] at H
                      have c47b0 : decide (0 ≤ x14_2) = true := decide_eq_true c47
                      clear c47
                      (first | rw [c47b0] | (simp only [i64_w, i32_w]; rw [c47b0]) | skip)
                      by_cases c48 : x14_2 < (t491.length : Int)
                      ·
                       rw [if_pos c48] at H
                       have c48b0 : decide (x14_2 < (t491.length : Int)) = true := decide_eq_true c48
                       clear c48
                       by_cases c49 : 0 ≤ x15_3
                       ·
                        rw [if_pos c49] at H
                        have c49b0 : decide (0 ≤ x15_3) = true := decide_eq_true c49
                        clear c49
                        by_cases c50 : x15_3 < (t491.length : Int)
                        ·
                         rw [if_pos c50] at H
                         have c50b0 : decide (x15_3 < (t491.length : Int)) = true := decide_eq_true c50
                         clear c50
                         by_cases c51 : ((J38 t491 x14_2).f0) = ((J38 t491 x15_3).f0)
                         ·
                          rw [if_pos c51] at H
                          have c51b0 : (((J38 t491 x14_2).f0) == ((J38 t491 x15_3).f0)) = true := beq_iff_eq.mpr c51
                          have c51b1 : (((J38 t491 x14_2).f0) != ((J38 t491 x15_3).f0)) = false := bne_eq_false_iff_eq.mpr c51
                          clear c51
                          by_cases c52 : x14_2 < x15_3
                          ·
                           rw [if_pos c52] at H
                           have c52b0 : decide (x14_2 < x15_3) = true := decide_eq_true c52
                           clear c52
                           by_cases c53 : x14_2 < (x8_1.length : Int)
                           ·
                            rw [if_pos c53] at H
                            have c53b0 : decide (x14_2 < (x8_1.length : Int)) = true := decide_eq_true c53
                            clear c53
                            by_cases c54 : x15_3 < ((rd_L9 x8_1 x14_2).length : Int)
                            ·
                             rw [if_pos c54] at H
                             have c54b0 : decide (x15_3 < ((rd_L9 x8_1 x14_2).length : Int)) = true := decide_eq_true c54
                             clear c54
                             have H' := asd H
                             clear H
                             have p516 : 0 ≤ (x14_2 : Int) := dt
                             have q516 : x14_2 < (t491.length : Int) := dt
                             obtain ⟨ad516, A516_8, c516_8, e516, hx516_0, hx516_1, hx516_2, hx516_3, hx516_4, hx516_5, hx516_6, hx516_7, hx516_8, hx516_9, hx516_10, hl516_8, hi516_8⟩ := at_T38 (Kd.S_reads' HO_3.out).2.2 x14_2 p516 q516
                             (try rw [← Nbq42.out] at hx516_5)
                             cases e516
                             obtain ⟨ce516, hce516, hMe516, hcc516⟩ := Kd.S_get HO_3.out z38 x14_2 p516 (by first | exact q516 | exact dt | (have e_ := (Kd.S_reads' HO_3.out).1; omega))
                             obtain ⟨ve516_8, rfl, ge516_8⟩ := k38_openM hMe516
                             have hv516_8 := hcc516 8 _ rfl
                             rw [add_field _ _ 8 (by omega)] at hv516_8
                             replace hv516_8 := Option.some.inj (hv516_8.symm.trans hx516_8)
                             rw [hv516_8] at ge516_8
                             have HL516_8 := asd (show Kd.R k70 70 _ _ _ _ ((J38 t491 x14_2).f2.f3) from ge516_8)
                             clear hv516_8 ge516_8
                             have HX516_8 := asd hx516_8
                             clear hcc516 hce516
                             have HR516_8 := asd hi516_8
                             have HC516_8 := asd hl516_8
                             clear hi516_8 hl516_8
                             replace p516 := eq_true p516
                             replace q516 := eq_true q516
                             have p517 : 0 ≤ (x15_3 : Int) := dt
                             have q517 : x15_3 < (t491.length : Int) := dt
                             obtain ⟨ad517, A517_8, c517_8, e517, hx517_0, hx517_1, hx517_2, hx517_3, hx517_4, hx517_5, hx517_6, hx517_7, hx517_8, hx517_9, hx517_10, hl517_8, hi517_8⟩ := at_T38 (Kd.S_reads' HO_3.out).2.2 x15_3 p517 q517
                             (try rw [← Nbq42.out] at hx517_5)
                             obtain rfl : ad516 = ad517 := (by injection e517)
                             obtain ⟨ce517, hce517, hMe517, hcc517⟩ := Kd.S_get HO_3.out z38 x15_3 p517 (by first | exact q517 | exact dt | (have e_ := (Kd.S_reads' HO_3.out).1; omega))
                             obtain ⟨ve517_8, rfl, ge517_8⟩ := k38_openM hMe517
                             have hv517_8 := hcc517 8 _ rfl
                             rw [add_field _ _ 8 (by omega)] at hv517_8
                             replace hv517_8 := Option.some.inj (hv517_8.symm.trans hx517_8)
                             rw [hv517_8] at ge517_8
                             have HL517_8 := asd (show Kd.R k70 70 _ _ _ _ ((J38 t491 x15_3).f2.f3) from ge517_8)
                             clear hv517_8 ge517_8
                             have HX517_8 := asd hx517_8
                             clear hcc517 hce517
                             have HR517_8 := asd hi517_8
                             have HC517_8 := asd hl517_8
                             clear hi517_8 hl517_8
                             replace p517 := eq_true p517
                             replace q517 := eq_true q517
                             have p518 : 0 ≤ (x14_2 : Int) := dt
                             have q518 : x14_2 < (x8_1.length : Int) := dt
                             obtain ⟨ad518, A518_0, c518_0, e518, hx518_0, hl518_0, hi518_0⟩ := at_L9 (Kd.S_reads' HO_8.out).2.2 x14_2 p518 q518
                             obtain rfl : ad514 = ad518 := (by injection e518)
                             obtain ⟨ce518, hce518, hMe518, hcc518⟩ := Kd.S_get HO_8.out [] x14_2 p518 (by first | exact q518 | exact dt | (have e_ := (Kd.S_reads' HO_8.out).1; omega))
                             obtain ⟨ve518_0, rfl, ge518_0⟩ := hMe518
                             have hv518_0 := hcc518 0 _ rfl
                             rw [Nat.add_zero, show ((Kd.slice 4 Kd.bool)).sz = 1 from rfl, Nat.mul_one] at hv518_0
                             replace hv518_0 := Option.some.inj (hv518_0.symm.trans hx518_0)
                             rw [hv518_0] at ge518_0
                             have HL518_0 := asd (show Kd.R Kd.bool 4 _ _ _ _ (rd_L9 x8_1 x14_2) from ge518_0)
                             clear hv518_0 ge518_0
                             have HX518_0 := asd hx518_0
                             clear hcc518 hce518
                             have HR518_0 := asd hi518_0
                             have HC518_0 := asd hl518_0
                             clear hi518_0 hl518_0
                             replace p518 := eq_true p518
                             replace q518 := eq_true q518
                             have p519 : 0 ≤ (x15_3 : Int) := dt
                             have q519 : x15_3 < ((rd_L9 x8_1 x14_2).length : Int) := dt
                             obtain ⟨ad519, e519, hx519_0⟩ := Kd.at_bool (by repeat (first | (with_reducible exact HR518_0.out) | (with_reducible refine Kd.C_alloc ?_ _) | (with_reducible refine Kd.C_drewN ?_ _) | (with_reducible refine Kd.C_drew ?_) | exact HR518_0.out)) x15_3 p519 q519
                             (try rw [← Nbq42.out] at hx519_0)
                             cases e519
                             replace p519 := eq_true p519
                             replace q519 := eq_true q519
                             go_wp2
                             repeat (go_quiet (fail); try go_wp2)
                             go_meet
                             case rel => exact ⟨_, (!(rdOf false (rd_L9 x8_1 x14_2) x15_3)), rs, H', ⟨by have := HK1.out; have := HK2.out; have := HK3.out; first | omega | exact Nat.le_refl _⟩, ⟨by (with_reducible repeat (first | apply Kd.S_alloc | apply Kd.S_drewN | apply Kd.S_drew)); exact HO_3.out⟩, ⟨by (with_reducible repeat (first | apply Kd.S_alloc | apply Kd.S_drewN | apply Kd.S_drew)); exact HO_8.out⟩, ⟨by repeat (first | (with_reducible exact HR514_0.out) | (with_reducible refine Kd.C_alloc ?_ _) | (with_reducible refine Kd.C_drewN ?_ _) | (with_reducible refine Kd.C_drew ?_) | exact HR514_0.out)⟩, ⟨skB HB.out⟩⟩
                            ·
                             rw [if_neg c54] at H
                             exact absurd H (by simp)
                           ·
                            rw [if_neg c53] at H
                            exact absurd H (by simp)
                          ·
                           rw [if_neg c52] at H
                           have c52b0 : decide (x14_2 < x15_3) = false := decide_eq_false c52
                           clear c52
                           have H' := asd H
                           clear H
                           have p516 : 0 ≤ (x14_2 : Int) := dt
                           have q516 : x14_2 < (t491.length : Int) := dt
                           obtain ⟨ad516, A516_8, c516_8, e516, hx516_0, hx516_1, hx516_2, hx516_3, hx516_4, hx516_5, hx516_6, hx516_7, hx516_8, hx516_9, hx516_10, hl516_8, hi516_8⟩ := at_T38 (Kd.S_reads' HO_3.out).2.2 x14_2 p516 q516
                           (try rw [← Nbq42.out] at hx516_5)
                           cases e516
                           obtain ⟨ce516, hce516, hMe516, hcc516⟩ := Kd.S_get HO_3.out z38 x14_2 p516 (by first | exact q516 | exact dt | (have e_ := (Kd.S_reads' HO_3.out).1; omega))
                           obtain ⟨ve516_8, rfl, ge516_8⟩ := k38_openM hMe516
                           have hv516_8 := hcc516 8 _ rfl
                           rw [add_field _ _ 8 (by omega)] at hv516_8
                           replace hv516_8 := Option.some.inj (hv516_8.symm.trans hx516_8)
                           rw [hv516_8] at ge516_8
                           have HL516_8 := asd (show Kd.R k70 70 _ _ _ _ ((J38 t491 x14_2).f2.f3) from ge516_8)
                           clear hv516_8 ge516_8
                           have HX516_8 := asd hx516_8
                           clear hcc516 hce516
                           have HR516_8 := asd hi516_8
                           have HC516_8 := asd hl516_8
                           clear hi516_8 hl516_8
                           replace p516 := eq_true p516
                           replace q516 := eq_true q516
                           have p517 : 0 ≤ (x15_3 : Int) := dt
                           have q517 : x15_3 < (t491.length : Int) := dt
                           obtain ⟨ad517, A517_8, c517_8, e517, hx517_0, hx517_1, hx517_2, hx517_3, hx517_4, hx517_5, hx517_6, hx517_7, hx517_8, hx517_9, hx517_10, hl517_8, hi517_8⟩ := at_T38 (Kd.S_reads' HO_3.out).2.2 x15_3 p517 q517
                           (try rw [← Nbq42.out] at hx517_5)
                           obtain rfl : ad516 = ad517 := (by injection e517)
                           obtain ⟨ce517, hce517, hMe517, hcc517⟩ := Kd.S_get HO_3.out z38 x15_3 p517 (by first | exact q517 | exact dt | (have e_ := (Kd.S_reads' HO_3.out).1; omega))
                           obtain ⟨ve517_8, rfl, ge517_8⟩ := k38_openM hMe517
                           have hv517_8 := hcc517 8 _ rfl
                           rw [add_field _ _ 8 (by omega)] at hv517_8
                           replace hv517_8 := Option.some.inj (hv517_8.symm.trans hx517_8)
                           rw [hv517_8] at ge517_8
                           have HL517_8 := asd (show Kd.R k70 70 _ _ _ _ ((J38 t491 x15_3).f2.f3) from ge517_8)
                           clear hv517_8 ge517_8
                           have HX517_8 := asd hx517_8
                           clear hcc517 hce517
                           have HR517_8 := asd hi517_8
                           have HC517_8 := asd hl517_8
                           clear hi517_8 hl517_8
                           replace p517 := eq_true p517
                           replace q517 := eq_true q517
                           go_wp2
                           repeat (go_quiet (fail); try go_wp2)
                           go_meet
                           case rel => exact ⟨_, (false), rs, H', ⟨by have := HK1.out; have := HK2.out; have := HK3.out; first | omega | exact Nat.le_refl _⟩, ⟨by (with_reducible repeat (first | apply Kd.S_alloc | apply Kd.S_drewN | apply Kd.S_drew)); exact HO_3.out⟩, ⟨by (with_reducible repeat (first | apply Kd.S_alloc | apply Kd.S_drewN | apply Kd.S_drew)); exact HO_8.out⟩, ⟨by repeat (first | (with_reducible exact HR514_0.out) | (with_reducible refine Kd.C_alloc ?_ _) | (with_reducible refine Kd.C_drewN ?_ _) | (with_reducible refine Kd.C_drew ?_) | exact HR514_0.out)⟩, ⟨skB HB.out⟩⟩
                         ·
                          rw [if_neg c51] at H
                          have c51b0 : (((J38 t491 x14_2).f0) == ((J38 t491 x15_3).f0)) = false := beq_eq_false_iff_ne.mpr c51
                          have c51b1 : (((J38 t491 x14_2).f0) != ((J38 t491 x15_3).f0)) = true := bne_iff_ne.mpr c51
                          have H' := asd H
                          clear H
                          have p516 : 0 ≤ (x14_2 : Int) := dt
                          have q516 : x14_2 < (t491.length : Int) := dt
                          obtain ⟨ad516, A516_8, c516_8, e516, hx516_0, hx516_1, hx516_2, hx516_3, hx516_4, hx516_5, hx516_6, hx516_7, hx516_8, hx516_9, hx516_10, hl516_8, hi516_8⟩ := at_T38 (Kd.S_reads' HO_3.out).2.2 x14_2 p516 q516
                          (try rw [← Nbq42.out] at hx516_5)
                          cases e516
                          obtain ⟨ce516, hce516, hMe516, hcc516⟩ := Kd.S_get HO_3.out z38 x14_2 p516 (by first | exact q516 | exact dt | (have e_ := (Kd.S_reads' HO_3.out).1; omega))
                          obtain ⟨ve516_8, rfl, ge516_8⟩ := k38_openM hMe516
                          have hv516_8 := hcc516 8 _ rfl
                          rw [add_field _ _ 8 (by omega)] at hv516_8
                          replace hv516_8 := Option.some.inj (hv516_8.symm.trans hx516_8)
                          rw [hv516_8] at ge516_8
                          have HL516_8 := asd (show Kd.R k70 70 _ _ _ _ ((J38 t491 x14_2).f2.f3) from ge516_8)
                          clear hv516_8 ge516_8
                          have HX516_8 := asd hx516_8
                          clear hcc516 hce516
                          have HR516_8 := asd hi516_8
                          have HC516_8 := asd hl516_8
                          clear hi516_8 hl516_8
                          replace p516 := eq_true p516
                          replace q516 := eq_true q516
                          have p517 : 0 ≤ (x15_3 : Int) := dt
                          have q517 : x15_3 < (t491.length : Int) := dt
                          obtain ⟨ad517, A517_8, c517_8, e517, hx517_0, hx517_1, hx517_2, hx517_3, hx517_4, hx517_5, hx517_6, hx517_7, hx517_8, hx517_9, hx517_10, hl517_8, hi517_8⟩ := at_T38 (Kd.S_reads' HO_3.out).2.2 x15_3 p517 q517
                          (try rw [← Nbq42.out] at hx517_5)
                          obtain rfl : ad516 = ad517 := (by injection e517)
                          obtain ⟨ce517, hce517, hMe517, hcc517⟩ := Kd.S_get HO_3.out z38 x15_3 p517 (by first | exact q517 | exact dt | (have e_ := (Kd.S_reads' HO_3.out).1; omega))
                          obtain ⟨ve517_8, rfl, ge517_8⟩ := k38_openM hMe517
                          have hv517_8 := hcc517 8 _ rfl
                          rw [add_field _ _ 8 (by omega)] at hv517_8
                          replace hv517_8 := Option.some.inj (hv517_8.symm.trans hx517_8)
                          rw [hv517_8] at ge517_8
                          have HL517_8 := asd (show Kd.R k70 70 _ _ _ _ ((J38 t491 x15_3).f2.f3) from ge517_8)
                          clear hv517_8 ge517_8
                          have HX517_8 := asd hx517_8
                          clear hcc517 hce517
                          have HR517_8 := asd hi517_8
                          have HC517_8 := asd hl517_8
                          clear hi517_8 hl517_8
                          replace p517 := eq_true p517
                          replace q517 := eq_true q517
                          go_wp2
                          repeat (go_quiet (fail); try go_wp2)
                          go_meet
                          case rel => exact ⟨_, (false), rs, H', ⟨by have := HK1.out; have := HK2.out; have := HK3.out; first | omega | exact Nat.le_refl _⟩, ⟨by (with_reducible repeat (first | apply Kd.S_alloc | apply Kd.S_drewN | apply Kd.S_drew)); exact HO_3.out⟩, ⟨by (with_reducible repeat (first | apply Kd.S_alloc | apply Kd.S_drewN | apply Kd.S_drew)); exact HO_8.out⟩, ⟨by repeat (first | (with_reducible exact HR514_0.out) | (with_reducible refine Kd.C_alloc ?_ _) | (with_reducible refine Kd.C_drewN ?_ _) | (with_reducible refine Kd.C_drew ?_) | exact HR514_0.out)⟩, ⟨skB HB.out⟩⟩
                        ·
                         rw [if_neg c50] at H
                         exact absurd H (by simp)
                       ·
                        rw [if_neg c49] at H
                        exact absurd H (by simp)
                      ·
                       rw [if_neg c48] at H
                       exact absurd H (by simp)
                     ·
                      rw [if_neg c47] at H
                      exact absurd H (by simp)
                    case rest =>
                     clear HC46
                     try clear c1
                     try clear q1
                     try clear c2
                     try clear p2
                     try clear q2
                     try clear hx2
                     try clear hf2
                     try clear c3
                     try clear p3
                     try clear q3
                     try clear hx3
                     try clear hf3
                     try clear c4
                     try clear q4
                     try clear c5
                     try clear c5b0
                     try clear c5b1
                     try clear p5
                     try clear q5
                     try clear hx5
                     try clear c6
                     try clear c6b0
                     try clear c6b1
                     try clear p6
                     try clear c8
                     try clear c8b0
                     try clear c8b1
                     try clear c9
                     try clear c9b0
                     try clear c9b1
                     try clear c10
                     try clear c10b0
                     try clear c10b1
                     try clear q12
                     try clear c17
                     try clear c17b0
                     try clear c18
                     try clear c18b0
                     try clear c18b1
                     try clear c19
                     try clear c19b0
                     try clear c19b1
                     try clear c20
                     try clear c20b0
                     try clear c21
                     try clear c21b0
                     try clear c22
                     try clear p22
                     try clear q22
                     try clear hx22
                     try clear hf22
                     try clear c25
                     try clear hx25
                     try clear hf25
                     try clear c27
                     try clear c27b0
                     try clear c29
                     try clear c29b0
                     try clear c29b1
                     try clear c30
                     try clear c30b0
                     try clear c31
                     try clear c31b0
                     try clear c32
                     try clear c32b0
                     try clear c33
                     try clear c33b0
                     try clear p34
                     try clear q34
                     try clear hx34
                     try clear hf34
                     try clear c36
                     try clear q36
                     try clear c38
                     try clear c38b0
                     try clear c39
                     try clear c39b0
                     try clear c40
                     try clear c40b0
                     try clear c41
                     try clear c41b0
                     try clear q42
                     try clear c43
                     try clear c45
                     try clear c45b0
                     try clear c47
                     try clear c47b0
                     try clear c48
                     try clear c48b0
                     try clear c49
                     try clear c49b0
                     try clear c50
                     try clear c50b0
                     try clear p50
                     try clear q50
                     try clear hx50
                     try clear c51
                     try clear c51b0
                     try clear c51b1
                     try clear p51
                     try clear q51
                     try clear hx51
                     try clear c52
                     try clear c52b0
                     try clear c53
                     try clear c53b0
                     try clear c54
                     try clear c54b0
                     try clear hx22_0
                     try clear hx25_0
                     try clear hx34_0
                     try clear hx506_0
                     try clear hx514_0
                     try clear hx515_0
                     try clear hx516_0
                     try clear hx516_1
                     try clear hx516_10
                     try clear hx516_2
                     try clear hx516_3
                     try clear hx516_4
                     try clear hx516_5
                     try clear hx516_6
                     try clear hx516_7
                     try clear hx516_8
                     try clear hx516_9
                     try clear hx517_0
                     try clear hx517_1
                     try clear hx517_10
                     try clear hx517_2
                     try clear hx517_3
                     try clear hx517_4
                     try clear hx517_5
                     try clear hx517_6
                     try clear hx517_7
                     try clear hx517_8
                     try clear hx517_9
                     try clear hx518_0
                     try clear hx519_0
                     try clear p2
                     try clear p22
                     try clear p3
                     try clear p34
                     try clear p5
                     try clear p506
                     try clear p514
                     try clear p515
                     try clear p516
                     try clear p517
                     try clear p518
                     try clear p519
                     try clear p6
                     try clear q1
                     try clear q12
                     try clear q2
                     try clear q22
                     try clear q3
                     try clear q34
                     try clear q36
                     try clear q4
                     try clear q42
                     try clear q5
                     try clear q506
                     try clear q514
                     try clear q515
                     try clear q516
                     try clear q517
                     try clear q518
                     try clear q519
                     obtain ⟨kq, x125_45, rfl, HA, HJ45, HO_3, HO_8, HR514_0, HB⟩ := hcut
                     cases kq with
                     | zero => exact absurd HA.out (by simp [larchlaw05_EventAhead.j4])
                     | succ kj45 =>
                      have H := HA.out
                      clear HA
                      simp only [larchlaw05_EventAhead.j4] at H
                      by_cases c55 : x125_45 = true
                      ·
                       subst c55
                       have H1 : (none) = some r := by rw [if_pos rfl] at H; exact H
                       clear H
                       have H := H1
                       clear H1
                       exact absurd H (by simp)
                      ·
                       replace c55 := Bool.eq_false_iff.mpr c55
                       subst c55
                       have H1 : (if x14_2 < x15_3 then (if 0 ≤ x14_2 then (if x14_2 < (x8_1.length : Int) then (if 0 ≤ x15_3 then (if x15_3 < ((rd_L9 x8_1 x14_2).length : Int) then (larchlaw05_EventAhead.j5 kj45 y487 t491 (t491.length : Int) x8_1 x9_3 x14_2 x15_3 (!(rdOf false (rd_L9 x8_1 x14_2) x15_3))) else (none)) else (none)) else (none)) else (none)) else (larchlaw05_EventAhead.j5 kj45 y487 t491 (t491.length : Int) x8_1 x9_3 x14_2 x15_3 false)) = some r := by rw [if_neg (show ¬ (false = true) by decide)] at H; exact H
                       clear H
                       have H := H1
                       clear H1
                       have HC56 := asd H
                       clear H
                       go_upto_region 32 with (fail)
                       repeat (go_quiet (fail); go_upto_region 32 with (fail))
                       go_cut [138] (fun v138 wc => ∃ (kq : Nat) (x138_55 : Bool), v138 = .bool x138_55 ∧ Aside0 (larchlaw05_EventAhead.j5 kq y487 t491 (t491.length : Int) x8_1 x9_3 x14_2 x15_3 x138_55 = some r) ∧ Aside0 (kq ≤ kj45) ∧ Aside0 (Kd.S k38 38 wc w.heap.size (fun _ => True) (.slice Ao14 t491.length co14) t491) ∧ Aside0 (Kd.S (Kd.slice 4 Kd.bool) 31 wc w.heap.size (fun _ => True) (.slice (some ad514) x8_1.length co44) x8_1) ∧ Aside0 (Kd.C Kd.bool wc (some ad515) (rd_L9 x8_1 x14_2).length (rd_L9 x8_1 x14_2)) ∧ Aside0 (Below w.heap.size w wc))
                       case first =>
                        have H := HC56.out
                        clear HC56
                        by_cases c57 : x14_2 < x15_3
                        ·
                         rw [if_pos c57] at H
                         have c57b0 : decide (x14_2 < x15_3) = true := decide_eq_true c57
                         clear c57
                         (first | rw [c57b0] | (simp only [i64_w, i32_w]; rw [c57b0]) | skip)
                         by_cases c58 : 0 ≤ x14_2
                         ·
                          rw [if_pos c58] at H
                          have c58b0 : decide (0 ≤ x14_2) = true := decide_eq_true c58
                          clear c58
                          by_cases c59 : x14_2 < (x8_1.length : Int)
                          ·
                           rw [if_pos c59] at H
                           have c59b0 : decide (x14_2 < (x8_1.length : Int)) = true := decide_eq_true c59
                           clear c59
                           by_cases c60 : 0 ≤ x15_3
                           ·
                            rw [if_pos c60] at H
                            have c60b0 : decide (0 ≤ x15_3) = true := decide_eq_true c60
                            clear c60
                            by_cases c61 : x15_3 < ((rd_L9 x8_1 x14_2).length : Int)
                            ·
                             rw [if_pos c61] at H
                             have c61b0 : decide (x15_3 < ((rd_L9 x8_1 x14_2).length : Int)) = true := decide_eq_true c61
                             clear c61
                             have H' := asd H
                             clear H
                             have p520 : 0 ≤ (x14_2 : Int) := dt
                             have q520 : x14_2 < (x8_1.length : Int) := dt
                             obtain ⟨ad520, A520_0, c520_0, e520, hx520_0, hl520_0, hi520_0⟩ := at_L9 (Kd.S_reads' HO_8.out).2.2 x14_2 p520 q520
                             obtain rfl : ad514 = ad520 := (by injection e520)
                             obtain ⟨ce520, hce520, hMe520, hcc520⟩ := Kd.S_get HO_8.out [] x14_2 p520 (by first | exact q520 | exact dt | (have e_ := (Kd.S_reads' HO_8.out).1; omega))
                             obtain ⟨ve520_0, rfl, ge520_0⟩ := hMe520
                             have hv520_0 := hcc520 0 _ rfl
                             rw [Nat.add_zero, show ((Kd.slice 4 Kd.bool)).sz = 1 from rfl, Nat.mul_one] at hv520_0
                             replace hv520_0 := Option.some.inj (hv520_0.symm.trans hx520_0)
                             rw [hv520_0] at ge520_0
                             have HL520_0 := asd (show Kd.R Kd.bool 4 _ _ _ _ (rd_L9 x8_1 x14_2) from ge520_0)
                             clear hv520_0 ge520_0
                             have HX520_0 := asd hx520_0
                             clear hcc520 hce520
                             have HR520_0 := asd hi520_0
                             have HC520_0 := asd hl520_0
                             clear hi520_0 hl520_0
                             replace p520 := eq_true p520
                             replace q520 := eq_true q520
                             have p521 : 0 ≤ (x15_3 : Int) := dt
                             have q521 : x15_3 < ((rd_L9 x8_1 x14_2).length : Int) := dt
                             obtain ⟨ad521, e521, hx521_0⟩ := Kd.at_bool (by repeat (first | (with_reducible exact HR520_0.out) | (with_reducible refine Kd.C_alloc ?_ _) | (with_reducible refine Kd.C_drewN ?_ _) | (with_reducible refine Kd.C_drew ?_) | exact HR520_0.out)) x15_3 p521 q521
                             (try rw [← Nbq42.out] at hx521_0)
                             cases e521
                             replace p521 := eq_true p521
                             replace q521 := eq_true q521
                             go_wp2
                             repeat (go_quiet (fail); try go_wp2)
                             go_meet
                             case rel => exact ⟨_, (!(rdOf false (rd_L9 x8_1 x14_2) x15_3)), rs, H', ⟨by have := HK1.out; have := HK2.out; have := HK3.out; have := HJ45.out; first | omega | exact Nat.le_refl _⟩, ⟨by (with_reducible repeat (first | apply Kd.S_alloc | apply Kd.S_drewN | apply Kd.S_drew)); exact HO_3.out⟩, ⟨by (with_reducible repeat (first | apply Kd.S_alloc | apply Kd.S_drewN | apply Kd.S_drew)); exact HO_8.out⟩, ⟨by repeat (first | (with_reducible exact HR514_0.out) | (with_reducible refine Kd.C_alloc ?_ _) | (with_reducible refine Kd.C_drewN ?_ _) | (with_reducible refine Kd.C_drew ?_) | exact HR514_0.out)⟩, ⟨skB HB.out⟩⟩
                            ·
                             rw [if_neg c61] at H
                             exact absurd H (by simp)
                           ·
                            rw [if_neg c60] at H
                            exact absurd H (by simp)
                          ·
                           rw [if_neg c59] at H
                           exact absurd H (by simp)
                         ·
                          rw [if_neg c58] at H
                          exact absurd H (by simp)
                        ·
                         rw [if_neg c57] at H
                         have c57b0 : decide (x14_2 < x15_3) = false := decide_eq_false c57
                         clear c57
                         (first | rw [c57b0] | (simp only [i64_w, i32_w]; rw [c57b0]) | skip)
                         have H' := asd H
                         clear H
                         go_wp2
                         repeat (go_quiet (fail); try go_wp2)
                         go_meet
                         case rel => exact ⟨_, (false), rs, H', ⟨by have := HK1.out; have := HK2.out; have := HK3.out; have := HJ45.out; first | omega | exact Nat.le_refl _⟩, ⟨by (with_reducible repeat (first | apply Kd.S_alloc | apply Kd.S_drewN | apply Kd.S_drew)); exact HO_3.out⟩, ⟨by (with_reducible repeat (first | apply Kd.S_alloc | apply Kd.S_drewN | apply Kd.S_drew)); exact HO_8.out⟩, ⟨by repeat (first | (with_reducible exact HR514_0.out) | (with_reducible refine Kd.C_alloc ?_ _) | (with_reducible refine Kd.C_drewN ?_ _) | (with_reducible refine Kd.C_drew ?_) | exact HR514_0.out)⟩, ⟨skB HB.out⟩⟩
                       case rest =>
                        clear HC56
                        try clear c1
                        try clear q1
                        try clear c2
                        try clear p2
                        try clear q2
                        try clear hx2
                        try clear hf2
                        try clear c3
                        try clear p3
                        try clear q3
                        try clear hx3
                        try clear hf3
                        try clear c4
                        try clear q4
                        try clear c5
                        try clear c5b0
                        try clear c5b1
                        try clear p5
                        try clear q5
                        try clear hx5
                        try clear c6
                        try clear c6b0
                        try clear c6b1
                        try clear p6
                        try clear c8
                        try clear c8b0
                        try clear c8b1
                        try clear c9
                        try clear c9b0
                        try clear c9b1
                        try clear c10
                        try clear c10b0
                        try clear c10b1
                        try clear q12
                        try clear c17
                        try clear c17b0
                        try clear c18
                        try clear c18b0
                        try clear c18b1
                        try clear c19
                        try clear c19b0
                        try clear c19b1
                        try clear c20
                        try clear c20b0
                        try clear c21
                        try clear c21b0
                        try clear c22
                        try clear p22
                        try clear q22
                        try clear hx22
                        try clear hf22
                        try clear c25
                        try clear hx25
                        try clear hf25
                        try clear c27
                        try clear c27b0
                        try clear c29
                        try clear c29b0
                        try clear c29b1
                        try clear c30
                        try clear c30b0
                        try clear c31
                        try clear c31b0
                        try clear c32
                        try clear c32b0
                        try clear c33
                        try clear c33b0
                        try clear p34
                        try clear q34
                        try clear hx34
                        try clear hf34
                        try clear c36
                        try clear q36
                        try clear c38
                        try clear c38b0
                        try clear c39
                        try clear c39b0
                        try clear c40
                        try clear c40b0
                        try clear c41
                        try clear c41b0
                        try clear q42
                        try clear c43
                        try clear c45
                        try clear c45b0
                        try clear c47
                        try clear c47b0
                        try clear c48
                        try clear c48b0
                        try clear c49
                        try clear c49b0
                        try clear c50
                        try clear c50b0
                        try clear p50
                        try clear q50
                        try clear hx50
                        try clear c51
                        try clear c51b0
                        try clear c51b1
                        try clear p51
                        try clear q51
                        try clear hx51
                        try clear c52
                        try clear c52b0
                        try clear p52
                        try clear q52
                        try clear hx52
                        try clear c53
                        try clear c53b0
                        try clear c54
                        try clear c54b0
                        try clear c55
                        try clear c57
                        try clear c57b0
                        try clear c58
                        try clear c58b0
                        try clear c59
                        try clear c59b0
                        try clear c60
                        try clear c60b0
                        try clear c61
                        try clear c61b0
                        try clear hx22_0
                        try clear hx25_0
                        try clear hx34_0
                        try clear hx506_0
                        try clear hx514_0
                        try clear hx515_0
                        try clear hx516_0
                        try clear hx516_1
                        try clear hx516_10
                        try clear hx516_2
                        try clear hx516_3
                        try clear hx516_4
                        try clear hx516_5
                        try clear hx516_6
                        try clear hx516_7
                        try clear hx516_8
                        try clear hx516_9
                        try clear hx517_0
                        try clear hx517_1
                        try clear hx517_10
                        try clear hx517_2
                        try clear hx517_3
                        try clear hx517_4
                        try clear hx517_5
                        try clear hx517_6
                        try clear hx517_7
                        try clear hx517_8
                        try clear hx517_9
                        try clear hx518_0
                        try clear hx519_0
                        try clear hx520_0
                        try clear hx521_0
                        try clear p2
                        try clear p22
                        try clear p3
                        try clear p34
                        try clear p5
                        try clear p50
                        try clear p506
                        try clear p51
                        try clear p514
                        try clear p515
                        try clear p516
                        try clear p517
                        try clear p518
                        try clear p519
                        try clear p520
                        try clear p521
                        try clear p6
                        try clear q1
                        try clear q12
                        try clear q2
                        try clear q22
                        try clear q3
                        try clear q34
                        try clear q36
                        try clear q4
                        try clear q42
                        try clear q5
                        try clear q50
                        try clear q506
                        try clear q51
                        try clear q514
                        try clear q515
                        try clear q516
                        try clear q517
                        try clear q518
                        try clear q519
                        try clear q520
                        try clear q521
                        obtain ⟨kq, x138_55, rfl, HA, HJ55, HO_3, HO_8, HR514_0, HB⟩ := hcut
                        cases kq with
                        | zero => exact absurd HA.out (by simp [larchlaw05_EventAhead.j5])
                        | succ kj55 =>
                         have H := HA.out
                         clear HA
                         simp only [larchlaw05_EventAhead.j5] at H
                         have HC62 := asd H
                         clear H
                         go_upto_if 138 with (fail)
                         repeat (go_quiet (fail); go_upto_if 138 with (fail))
                         go_cut [9] (fun v9 wc => ∃ (kq : Nat) (x9_61 : Bool), v9 = .bool x9_61 ∧ Aside0 (larchlaw05_EventAhead.j6 kq y487 t491 (t491.length : Int) x8_1 x9_61 x14_2 x15_3 = some r) ∧ Aside0 (kq ≤ kj55) ∧ Aside0 (Kd.S k38 38 wc w.heap.size (fun _ => True) (.slice Ao14 t491.length co14) t491) ∧ Aside0 (Kd.S (Kd.slice 4 Kd.bool) 31 wc w.heap.size (fun _ => True) (.slice (some ad514) x8_1.length co44) x8_1) ∧ Aside0 (Kd.C Kd.bool wc (some ad515) (rd_L9 x8_1 x14_2).length (rd_L9 x8_1 x14_2)) ∧ Aside0 (Below w.heap.size w wc))
                         case first =>
                          have H := HC62.out
                          clear HC62
                          by_cases c63 : x138_55 = true
                          ·
                           subst c63
                           have H1 : (larchlaw05_EventAhead.j6 kj55 y487 t491 (t491.length : Int) x8_1 false x14_2 x15_3) = some r := by rw [if_pos rfl] at H; exact H
                           clear H
                           have H := H1
                           clear H1
                           have H' := asd H
                           clear H
                           go_wp2
                           repeat (go_quiet (fail); try go_wp2)
                           go_meet
                           case rel => exact ⟨_, (false), rs, H', ⟨by have := HK1.out; have := HK2.out; have := HK3.out; have := HJ45.out; have := HJ55.out; first | omega | exact Nat.le_refl _⟩, ⟨by (with_reducible repeat (first | apply Kd.S_alloc | apply Kd.S_drewN | apply Kd.S_drew)); exact HO_3.out⟩, ⟨by (with_reducible repeat (first | apply Kd.S_alloc | apply Kd.S_drewN | apply Kd.S_drew)); exact HO_8.out⟩, ⟨by repeat (first | (with_reducible exact HR514_0.out) | (with_reducible refine Kd.C_alloc ?_ _) | (with_reducible refine Kd.C_drewN ?_ _) | (with_reducible refine Kd.C_drew ?_) | exact HR514_0.out)⟩, ⟨skB HB.out⟩⟩
                          ·
                           replace c63 := Bool.eq_false_iff.mpr c63
                           subst c63
                           have H1 : (larchlaw05_EventAhead.j6 kj55 y487 t491 (t491.length : Int) x8_1 x9_3 x14_2 x15_3) = some r := by rw [if_neg (show ¬ (false = true) by decide)] at H; exact H
                           clear H
                           have H := H1
                           clear H1
                           have H' := asd H
                           clear H
                           go_wp2
                           repeat (go_quiet (fail); try go_wp2)
                           go_meet
                           case rel => exact ⟨_, (x9_3), rs, H', ⟨by have := HK1.out; have := HK2.out; have := HK3.out; have := HJ45.out; have := HJ55.out; first | omega | exact Nat.le_refl _⟩, ⟨by (with_reducible repeat (first | apply Kd.S_alloc | apply Kd.S_drewN | apply Kd.S_drew)); exact HO_3.out⟩, ⟨by (with_reducible repeat (first | apply Kd.S_alloc | apply Kd.S_drewN | apply Kd.S_drew)); exact HO_8.out⟩, ⟨by repeat (first | (with_reducible exact HR514_0.out) | (with_reducible refine Kd.C_alloc ?_ _) | (with_reducible refine Kd.C_drewN ?_ _) | (with_reducible refine Kd.C_drew ?_) | exact HR514_0.out)⟩, ⟨skB HB.out⟩⟩
                         case rest =>
                          clear HC62
                          try clear c1
                          try clear q1
                          try clear c2
                          try clear p2
                          try clear q2
                          try clear hx2
                          try clear hf2
                          try clear c3
                          try clear p3
                          try clear q3
                          try clear hx3
                          try clear hf3
                          try clear c4
                          try clear q4
                          try clear c5
                          try clear c5b0
                          try clear c5b1
                          try clear p5
                          try clear q5
                          try clear hx5
                          try clear c6
                          try clear c6b0
                          try clear c6b1
                          try clear p6
                          try clear c8
                          try clear c8b0
                          try clear c8b1
                          try clear c9
                          try clear c9b0
                          try clear c9b1
                          try clear c10
                          try clear c10b0
                          try clear c10b1
                          try clear q12
                          try clear c17
                          try clear c17b0
                          try clear c18
                          try clear c18b0
                          try clear c18b1
                          try clear c19
                          try clear c19b0
                          try clear c19b1
                          try clear c20
                          try clear c20b0
                          try clear c21
                          try clear c21b0
                          try clear c22
                          try clear p22
                          try clear q22
                          try clear hx22
                          try clear hf22
                          try clear c25
                          try clear hx25
                          try clear hf25
                          try clear c27
                          try clear c27b0
                          try clear c29
                          try clear c29b0
                          try clear c29b1
                          try clear c30
                          try clear c30b0
                          try clear c31
                          try clear c31b0
                          try clear c32
                          try clear c32b0
                          try clear c33
                          try clear c33b0
                          try clear p34
                          try clear q34
                          try clear hx34
                          try clear hf34
                          try clear c36
                          try clear q36
                          try clear c38
                          try clear c38b0
                          try clear c39
                          try clear c39b0
                          try clear c40
                          try clear c40b0
                          try clear c41
                          try clear c41b0
                          try clear q42
                          try clear c43
                          try clear c45
                          try clear c45b0
                          try clear c47
                          try clear c47b0
                          try clear c48
                          try clear c48b0
                          try clear c49
                          try clear c49b0
                          try clear c50
                          try clear c50b0
                          try clear p50
                          try clear q50
                          try clear hx50
                          try clear c51
                          try clear c51b0
                          try clear c51b1
                          try clear p51
                          try clear q51
                          try clear hx51
                          try clear c52
                          try clear c52b0
                          try clear p52
                          try clear q52
                          try clear hx52
                          try clear c53
                          try clear c53b0
                          try clear c54
                          try clear c54b0
                          try clear c55
                          try clear c57
                          try clear c57b0
                          try clear c58
                          try clear c58b0
                          try clear c59
                          try clear c59b0
                          try clear c60
                          try clear c60b0
                          try clear c61
                          try clear c61b0
                          try clear c63
                          try clear hx22_0
                          try clear hx25_0
                          try clear hx34_0
                          try clear hx506_0
                          try clear hx514_0
                          try clear hx515_0
                          try clear hx516_0
                          try clear hx516_1
                          try clear hx516_10
                          try clear hx516_2
                          try clear hx516_3
                          try clear hx516_4
                          try clear hx516_5
                          try clear hx516_6
                          try clear hx516_7
                          try clear hx516_8
                          try clear hx516_9
                          try clear hx517_0
                          try clear hx517_1
                          try clear hx517_10
                          try clear hx517_2
                          try clear hx517_3
                          try clear hx517_4
                          try clear hx517_5
                          try clear hx517_6
                          try clear hx517_7
                          try clear hx517_8
                          try clear hx517_9
                          try clear hx518_0
                          try clear hx519_0
                          try clear hx520_0
                          try clear hx521_0
                          try clear p2
                          try clear p22
                          try clear p3
                          try clear p34
                          try clear p5
                          try clear p50
                          try clear p506
                          try clear p51
                          try clear p514
                          try clear p515
                          try clear p516
                          try clear p517
                          try clear p518
                          try clear p519
                          try clear p52
                          try clear p520
                          try clear p521
                          try clear p6
                          try clear q1
                          try clear q12
                          try clear q2
                          try clear q22
                          try clear q3
                          try clear q34
                          try clear q36
                          try clear q4
                          try clear q42
                          try clear q5
                          try clear q50
                          try clear q506
                          try clear q51
                          try clear q514
                          try clear q515
                          try clear q516
                          try clear q517
                          try clear q518
                          try clear q519
                          try clear q52
                          try clear q520
                          try clear q521
                          obtain ⟨kq, x9_61, rfl, HA, HJ61, HO_3, HO_8, HR514_0, HB⟩ := hcut
                          cases kq with
                          | zero => exact absurd HA.out (by simp [larchlaw05_EventAhead.j6])
                          | succ kj61 =>
                           have H := HA.out
                           clear HA
                           simp only [larchlaw05_EventAhead.j6] at H
                           have H' := asd H
                           clear H
                           go_wp2
                           repeat (go_quiet (fail); try go_wp2)
                           go_loopg [16] kj61 (fun kq v16 w' => ∃ (x16_7 : Int), v16 = .int .i64 x16_7 ∧ Aside0 (larchlaw05_EventAhead.l4 kq y487 t491 (t491.length : Int) x8_1 x9_61 x14_2 x15_3 x16_7 = some r) ∧ Aside0 (kq ≤ kj61) ∧ Aside0 (Kd.S k38 38 w' w.heap.size (fun _ => True) (.slice Ao14 t491.length co14) t491) ∧ Aside0 (Kd.S (Kd.slice 4 Kd.bool) 31 w' w.heap.size (fun _ => True) (.slice (some ad514) x8_1.length co44) x8_1) ∧ Aside0 (Kd.C Kd.bool w' (some ad515) (rd_L9 x8_1 x14_2).length (rd_L9 x8_1 x14_2)) ∧ Aside0 (Below w.heap.size w w'))
                           case atStart => exact ⟨(0), rs, H', ⟨Nat.le_refl _⟩, ⟨by (with_reducible repeat (first | apply Kd.S_alloc | apply Kd.S_drewN | apply Kd.S_drew)); exact HO_3.out⟩, ⟨by (with_reducible repeat (first | apply Kd.S_alloc | apply Kd.S_drewN | apply Kd.S_drew)); exact HO_8.out⟩, ⟨by repeat (first | (with_reducible exact HR514_0.out) | (with_reducible refine Kd.C_alloc ?_ _) | (with_reducible refine Kd.C_drewN ?_ _) | (with_reducible refine Kd.C_drew ?_) | exact HR514_0.out)⟩, ⟨skB HB.out⟩⟩
                           case round =>
                            clear H'
                            try clear c1
                            try clear q1
                            try clear c2
                            try clear p2
                            try clear q2
                            try clear hx2
                            try clear hf2
                            try clear c3
                            try clear p3
                            try clear q3
                            try clear hx3
                            try clear hf3
                            try clear c4
                            try clear q4
                            try clear c5
                            try clear c5b0
                            try clear c5b1
                            try clear p5
                            try clear q5
                            try clear hx5
                            try clear c6
                            try clear c6b0
                            try clear c6b1
                            try clear p6
                            try clear c8
                            try clear c8b0
                            try clear c8b1
                            try clear c9
                            try clear c9b0
                            try clear c9b1
                            try clear c10
                            try clear c10b0
                            try clear c10b1
                            try clear q12
                            try clear c17
                            try clear c17b0
                            try clear c18
                            try clear c18b0
                            try clear c18b1
                            try clear c19
                            try clear c19b0
                            try clear c19b1
                            try clear c20
                            try clear c20b0
                            try clear c21
                            try clear c21b0
                            try clear c22
                            try clear p22
                            try clear q22
                            try clear hx22
                            try clear hf22
                            try clear c25
                            try clear hx25
                            try clear hf25
                            try clear c27
                            try clear c27b0
                            try clear c29
                            try clear c29b0
                            try clear c29b1
                            try clear c30
                            try clear c30b0
                            try clear c31
                            try clear c31b0
                            try clear c32
                            try clear c32b0
                            try clear c33
                            try clear c33b0
                            try clear p34
                            try clear q34
                            try clear hx34
                            try clear hf34
                            try clear c36
                            try clear q36
                            try clear c38
                            try clear c38b0
                            try clear c39
                            try clear c39b0
                            try clear c40
                            try clear c40b0
                            try clear c41
                            try clear c41b0
                            try clear q42
                            try clear c43
                            try clear c45
                            try clear c45b0
                            try clear c47
                            try clear c47b0
                            try clear c48
                            try clear c48b0
                            try clear c49
                            try clear c49b0
                            try clear c50
                            try clear c50b0
                            try clear p50
                            try clear q50
                            try clear hx50
                            try clear c51
                            try clear c51b0
                            try clear c51b1
                            try clear p51
                            try clear q51
                            try clear hx51
                            try clear c52
                            try clear c52b0
                            try clear p52
                            try clear q52
                            try clear hx52
                            try clear c53
                            try clear c53b0
                            try clear c54
                            try clear c54b0
                            try clear c55
                            try clear c57
                            try clear c57b0
                            try clear c58
                            try clear c58b0
                            try clear c59
                            try clear c59b0
                            try clear c60
                            try clear c60b0
                            try clear c61
                            try clear c61b0
                            try clear c63
                            try clear hx22_0
                            try clear hx25_0
                            try clear hx34_0
                            try clear hx506_0
                            try clear hx514_0
                            try clear hx515_0
                            try clear hx516_0
                            try clear hx516_1
                            try clear hx516_10
                            try clear hx516_2
                            try clear hx516_3
                            try clear hx516_4
                            try clear hx516_5
                            try clear hx516_6
                            try clear hx516_7
                            try clear hx516_8
                            try clear hx516_9
                            try clear hx517_0
                            try clear hx517_1
                            try clear hx517_10
                            try clear hx517_2
                            try clear hx517_3
                            try clear hx517_4
                            try clear hx517_5
                            try clear hx517_6
                            try clear hx517_7
                            try clear hx517_8
                            try clear hx517_9
                            try clear hx518_0
                            try clear hx519_0
                            try clear hx520_0
                            try clear hx521_0
                            try clear p2
                            try clear p22
                            try clear p3
                            try clear p34
                            try clear p5
                            try clear p50
                            try clear p506
                            try clear p51
                            try clear p514
                            try clear p515
                            try clear p516
                            try clear p517
                            try clear p518
                            try clear p519
                            try clear p52
                            try clear p520
                            try clear p521
                            try clear p6
                            try clear q1
                            try clear q12
                            try clear q2
                            try clear q22
                            try clear q3
                            try clear q34
                            try clear q36
                            try clear q4
                            try clear q42
                            try clear q5
                            try clear q50
                            try clear q506
                            try clear q51
                            try clear q514
                            try clear q515
                            try clear q516
                            try clear q517
                            try clear q518
                            try clear q519
                            try clear q52
                            try clear q520
                            try clear q521
                            obtain ⟨x16_7, rfl, HA, HK7, HO_3, HO_8, HR514_0, HB⟩ := hrel
                            cases gk with
                            | zero => exact absurd HA.out (by simp [larchlaw05_EventAhead.l4])
                            | succ k7 =>
                             have H := HA.out
                             clear HA
                             simp only [larchlaw05_EventAhead.l4] at H
                             by_cases c64 : x16_7 < (t491.length : Int)
                             ·
                              rw [if_pos c64] at H
                              have c64b0 : decide (x16_7 < (t491.length : Int)) = true := decide_eq_true c64
                              clear c64
                              by_cases c65 : 0 ≤ x14_2
                              ·
                               rw [if_pos c65] at H
                               have c65b0 : decide (0 ≤ x14_2) = true := decide_eq_true c65
                               clear c65
                               by_cases c66 : x14_2 < (x8_1.length : Int)
                               ·
                                rw [if_pos c66] at H
                                have c66b0 : decide (x14_2 < (x8_1.length : Int)) = true := decide_eq_true c66
                                clear c66
                                by_cases c67 : 0 ≤ x15_3
                                ·
                                 rw [if_pos c67] at H
                                 have c67b0 : decide (0 ≤ x15_3) = true := decide_eq_true c67
                                 clear c67
                                 by_cases c68 : x15_3 < ((rd_L9 x8_1 x14_2).length : Int)
                                 ·
                                  rw [if_pos c68] at H
                                  have c68b0 : decide (x15_3 < ((rd_L9 x8_1 x14_2).length : Int)) = true := decide_eq_true c68
                                  clear c68
                                  obtain ⟨bq69, hbq69⟩ : ∃ b_ : Bool, b_ = (rdOf false (rd_L9 x8_1 x14_2) x15_3) := ⟨_, rfl⟩
                                  replace H : (if bq69 = true then (if x15_3 < (x8_1.length : Int) then (if 0 ≤ x16_7 then (if x16_7 < ((rd_L9 x8_1 x15_3).length : Int) then (if rdOf false (rd_L9 x8_1 x15_3) x16_7 = true then (if x16_7 < ((rd_L9 x8_1 x14_2).length : Int) then (if (rdOf false (rd_L9 x8_1 x14_2) x16_7 = true) then (larchlaw05_EventAhead.l4 k7 y487 t491 (t491.length : Int) x8_1 x9_61 x14_2 x15_3 (wrap64 (x16_7 + 1))) else (none)) else (none)) else (larchlaw05_EventAhead.l4 k7 y487 t491 (t491.length : Int) x8_1 x9_61 x14_2 x15_3 (wrap64 (x16_7 + 1)))) else (none)) else (none)) else (none)) else (larchlaw05_EventAhead.l4 k7 y487 t491 (t491.length : Int) x8_1 x9_61 x14_2 x15_3 (wrap64 (x16_7 + 1)))) = some r := by rw [← hbq69] at H; exact H
                                  have Nbq69 := asd hbq69
                                  clear hbq69
                                  by_cases c70 : bq69 = true
                                  ·
                                   subst c70
                                   have H1 : (if x15_3 < (x8_1.length : Int) then (if 0 ≤ x16_7 then (if x16_7 < ((rd_L9 x8_1 x15_3).length : Int) then (if rdOf false (rd_L9 x8_1 x15_3) x16_7 = true then (if x16_7 < ((rd_L9 x8_1 x14_2).length : Int) then (if (rdOf false (rd_L9 x8_1 x14_2) x16_7 = true) then (larchlaw05_EventAhead.l4 k7 y487 t491 (t491.length : Int) x8_1 x9_61 x14_2 x15_3 (wrap64 (x16_7 + 1))) else (none)) else (none)) else (larchlaw05_EventAhead.l4 k7 y487 t491 (t491.length : Int) x8_1 x9_61 x14_2 x15_3 (wrap64 (x16_7 + 1)))) else (none)) else (none)) else (none)) = some r := by rw [if_pos rfl] at H; exact H
                                   clear H
                                   have H := H1
                                   clear H1
                                   by_cases c71 : x15_3 < (x8_1.length : Int)
                                   ·
                                    rw [if_pos c71] at H
                                    have c71b0 : decide (x15_3 < (x8_1.length : Int)) = true := decide_eq_true c71
                                    clear c71
                                    by_cases c72 : 0 ≤ x16_7
                                    ·
                                     rw [if_pos c72] at H
                                     have c72b0 : decide (0 ≤ x16_7) = true := decide_eq_true c72
                                     clear c72
                                     by_cases c73 : x16_7 < ((rd_L9 x8_1 x15_3).length : Int)
                                     ·
                                      rw [if_pos c73] at H
                                      have c73b0 : decide (x16_7 < ((rd_L9 x8_1 x15_3).length : Int)) = true := decide_eq_true c73
                                      clear c73
                                      obtain ⟨bq74, hbq74⟩ : ∃ b_ : Bool, b_ = (rdOf false (rd_L9 x8_1 x15_3) x16_7) := ⟨_, rfl⟩
                                      replace H : (if bq74 = true then (if x16_7 < ((rd_L9 x8_1 x14_2).length : Int) then (if (rdOf false (rd_L9 x8_1 x14_2) x16_7 = true) then (larchlaw05_EventAhead.l4 k7 y487 t491 (t491.length : Int) x8_1 x9_61 x14_2 x15_3 (wrap64 (x16_7 + 1))) else (none)) else (none)) else (larchlaw05_EventAhead.l4 k7 y487 t491 (t491.length : Int) x8_1 x9_61 x14_2 x15_3 (wrap64 (x16_7 + 1)))) = some r := by rw [← hbq74] at H; exact H
                                      have Nbq74 := asd hbq74
                                      clear hbq74
                                      by_cases c75 : bq74 = true
                                      ·
                                       subst c75
                                       have H1 : (if x16_7 < ((rd_L9 x8_1 x14_2).length : Int) then (if (rdOf false (rd_L9 x8_1 x14_2) x16_7 = true) then (larchlaw05_EventAhead.l4 k7 y487 t491 (t491.length : Int) x8_1 x9_61 x14_2 x15_3 (wrap64 (x16_7 + 1))) else (none)) else (none)) = some r := by rw [if_pos rfl] at H; exact H
                                       clear H
                                       have H := H1
                                       clear H1
                                       by_cases c76 : x16_7 < ((rd_L9 x8_1 x14_2).length : Int)
                                       ·
                                        rw [if_pos c76] at H
                                        have c76b0 : decide (x16_7 < ((rd_L9 x8_1 x14_2).length : Int)) = true := decide_eq_true c76
                                        clear c76
                                        obtain ⟨bq77, hbq77⟩ : ∃ b_ : Bool, b_ = (rdOf false (rd_L9 x8_1 x14_2) x16_7) := ⟨_, rfl⟩
                                        replace H : (if (bq77 = true) then (larchlaw05_EventAhead.l4 k7 y487 t491 (t491.length : Int) x8_1 x9_61 x14_2 x15_3 (wrap64 (x16_7 + 1))) else (none)) = some r := by rw [← hbq77] at H; exact H
                                        have Nbq77 := asd hbq77
                                        clear hbq77
                                        by_cases c78 : (bq77 = true)
                                        ·
                                         subst c78
                                         have H1 : (larchlaw05_EventAhead.l4 k7 y487 t491 (t491.length : Int) x8_1 x9_61 x14_2 x15_3 (wrap64 (x16_7 + 1))) = some r := by rw [if_pos rfl] at H; exact H
                                         clear H
                                         have H := H1
                                         clear H1
                                         have H' := asd H
                                         clear H
                                         have p522 : 0 ≤ (x14_2 : Int) := dt
                                         have q522 : x14_2 < (x8_1.length : Int) := dt
                                         obtain ⟨ad522, A522_0, c522_0, e522, hx522_0, hl522_0, hi522_0⟩ := at_L9 (Kd.S_reads' HO_8.out).2.2 x14_2 p522 q522
                                         obtain rfl : ad514 = ad522 := (by injection e522)
                                         obtain ⟨ce522, hce522, hMe522, hcc522⟩ := Kd.S_get HO_8.out [] x14_2 p522 (by first | exact q522 | exact dt | (have e_ := (Kd.S_reads' HO_8.out).1; omega))
                                         obtain ⟨ve522_0, rfl, ge522_0⟩ := hMe522
                                         have hv522_0 := hcc522 0 _ rfl
                                         rw [Nat.add_zero, show ((Kd.slice 4 Kd.bool)).sz = 1 from rfl, Nat.mul_one] at hv522_0
                                         replace hv522_0 := Option.some.inj (hv522_0.symm.trans hx522_0)
                                         rw [hv522_0] at ge522_0
                                         have HL522_0 := asd (show Kd.R Kd.bool 4 _ _ _ _ (rd_L9 x8_1 x14_2) from ge522_0)
                                         clear hv522_0 ge522_0
                                         have HX522_0 := asd hx522_0
                                         clear hcc522 hce522
                                         have HR522_0 := asd hi522_0
                                         have HC522_0 := asd hl522_0
                                         clear hi522_0 hl522_0
                                         replace p522 := eq_true p522
                                         replace q522 := eq_true q522
                                         have p523 : 0 ≤ (x15_3 : Int) := dt
                                         have q523 : x15_3 < ((rd_L9 x8_1 x14_2).length : Int) := dt
                                         obtain ⟨ad523, e523, hx523_0⟩ := Kd.at_bool (by repeat (first | (with_reducible exact HR522_0.out) | (with_reducible refine Kd.C_alloc ?_ _) | (with_reducible refine Kd.C_drewN ?_ _) | (with_reducible refine Kd.C_drew ?_) | exact HR522_0.out)) x15_3 p523 q523
                                         (try rw [← Nbq42.out] at hx523_0)
                                         (try rw [← Nbq69.out] at hx523_0)
                                         (try rw [← Nbq74.out] at hx523_0)
                                         (try rw [← Nbq77.out] at hx523_0)
                                         cases e523
                                         replace p523 := eq_true p523
                                         replace q523 := eq_true q523
                                         have p524 : 0 ≤ (x15_3 : Int) := dt
                                         have q524 : x15_3 < (x8_1.length : Int) := dt
                                         obtain ⟨ad524, A524_0, c524_0, e524, hx524_0, hl524_0, hi524_0⟩ := at_L9 (Kd.S_reads' HO_8.out).2.2 x15_3 p524 q524
                                         obtain rfl : ad514 = ad524 := (by injection e524)
                                         obtain ⟨ce524, hce524, hMe524, hcc524⟩ := Kd.S_get HO_8.out [] x15_3 p524 (by first | exact q524 | exact dt | (have e_ := (Kd.S_reads' HO_8.out).1; omega))
                                         obtain ⟨ve524_0, rfl, ge524_0⟩ := hMe524
                                         have hv524_0 := hcc524 0 _ rfl
                                         rw [Nat.add_zero, show ((Kd.slice 4 Kd.bool)).sz = 1 from rfl, Nat.mul_one] at hv524_0
                                         replace hv524_0 := Option.some.inj (hv524_0.symm.trans hx524_0)
                                         rw [hv524_0] at ge524_0
                                         have HL524_0 := asd (show Kd.R Kd.bool 4 _ _ _ _ (rd_L9 x8_1 x15_3) from ge524_0)
                                         clear hv524_0 ge524_0
                                         have HX524_0 := asd hx524_0
                                         clear hcc524 hce524
                                         have HR524_0 := asd hi524_0
                                         have HC524_0 := asd hl524_0
                                         clear hi524_0 hl524_0
                                         replace p524 := eq_true p524
                                         replace q524 := eq_true q524
                                         have p525 : 0 ≤ (x16_7 : Int) := dt
                                         have q525 : x16_7 < ((rd_L9 x8_1 x15_3).length : Int) := dt
                                         obtain ⟨ad525, e525, hx525_0⟩ := Kd.at_bool (by repeat (first | (with_reducible exact HR524_0.out) | (with_reducible refine Kd.C_alloc ?_ _) | (with_reducible refine Kd.C_drewN ?_ _) | (with_reducible refine Kd.C_drew ?_) | exact HR524_0.out)) x16_7 p525 q525
                                         (try rw [← Nbq42.out] at hx525_0)
                                         (try rw [← Nbq69.out] at hx525_0)
                                         (try rw [← Nbq74.out] at hx525_0)
                                         (try rw [← Nbq77.out] at hx525_0)
                                         cases e525
                                         replace p525 := eq_true p525
                                         replace q525 := eq_true q525
                                         have p526 : 0 ≤ (x14_2 : Int) := dt
                                         have q526 : x14_2 < (x8_1.length : Int) := dt
                                         obtain ⟨ad526, A526_0, c526_0, e526, hx526_0, hl526_0, hi526_0⟩ := at_L9 (Kd.S_reads' HO_8.out).2.2 x14_2 p526 q526
                                         obtain rfl : ad514 = ad526 := (by injection e526)
                                         obtain ⟨ce526, hce526, hMe526, hcc526⟩ := Kd.S_get HO_8.out [] x14_2 p526 (by first | exact q526 | exact dt | (have e_ := (Kd.S_reads' HO_8.out).1; omega))
                                         obtain ⟨ve526_0, rfl, ge526_0⟩ := hMe526
                                         have hv526_0 := hcc526 0 _ rfl
                                         rw [Nat.add_zero, show ((Kd.slice 4 Kd.bool)).sz = 1 from rfl, Nat.mul_one] at hv526_0
                                         replace hv526_0 := Option.some.inj (hv526_0.symm.trans hx526_0)
                                         rw [hv526_0] at ge526_0
                                         have HL526_0 := asd (show Kd.R Kd.bool 4 _ _ _ _ (rd_L9 x8_1 x14_2) from ge526_0)
                                         clear hv526_0 ge526_0
                                         have HX526_0 := asd hx526_0
                                         clear hcc526 hce526
                                         have HR526_0 := asd hi526_0
                                         have HC526_0 := asd hl526_0
                                         clear hi526_0 hl526_0
                                         replace p526 := eq_true p526
                                         replace q526 := eq_true q526
                                         have ea_ := Option.some.inj (hx522_0.symm.trans hx526_0)
                                         injection ea_ with ea_ en_ ec_
                                         subst ea_
                                         subst ec_
                                         clear en_
                                         have p527 : 0 ≤ (x16_7 : Int) := dt
                                         have q527 : x16_7 < ((rd_L9 x8_1 x14_2).length : Int) := dt
                                         obtain ⟨ad527, e527, hx527_0⟩ := Kd.at_bool (by repeat (first | (with_reducible exact HR526_0.out) | (with_reducible refine Kd.C_alloc ?_ _) | (with_reducible refine Kd.C_drewN ?_ _) | (with_reducible refine Kd.C_drew ?_) | exact HR526_0.out)) x16_7 p527 q527
                                         (try rw [← Nbq42.out] at hx527_0)
                                         (try rw [← Nbq69.out] at hx527_0)
                                         (try rw [← Nbq74.out] at hx527_0)
                                         (try rw [← Nbq77.out] at hx527_0)
                                         cases e527
                                         replace p527 := eq_true p527
                                         replace q527 := eq_true q527
                                         go_wp2
                                         repeat (go_quiet (fail); try go_wp2)
                                         go_roundg k7
                                         case measure => have := HK1.out; have := HK2.out; have := HK3.out; have := HJ45.out; have := HJ55.out; have := HJ61.out; have := HK7.out; omega
                                         case rel => exact ⟨(wrap64 (x16_7 + 1)), rs, H', ⟨by have := HK1.out; have := HK2.out; have := HK3.out; have := HJ45.out; have := HJ55.out; have := HJ61.out; have := HK7.out; omega⟩, ⟨by (with_reducible repeat (first | apply Kd.S_alloc | apply Kd.S_drewN | apply Kd.S_drew)); exact HO_3.out⟩, ⟨by (with_reducible repeat (first | apply Kd.S_alloc | apply Kd.S_drewN | apply Kd.S_drew)); exact HO_8.out⟩, ⟨by repeat (first | (with_reducible exact HR514_0.out) | (with_reducible refine Kd.C_alloc ?_ _) | (with_reducible refine Kd.C_drewN ?_ _) | (with_reducible refine Kd.C_drew ?_) | exact HR514_0.out)⟩, ⟨skB HB.out⟩⟩
                                        ·
                                         replace c78 := Bool.eq_false_iff.mpr c78
                                         subst c78
                                         have H1 : (none) = some r := by rw [if_neg (show ¬ (false = true) by decide)] at H; exact H
                                         clear H
                                         have H := H1
                                         clear H1
                                         exact absurd H (by simp)
                                       ·
                                        rw [if_neg c76] at H
                                        exact absurd H (by simp)
                                      ·
                                       replace c75 := Bool.eq_false_iff.mpr c75
                                       subst c75
                                       have H1 : (larchlaw05_EventAhead.l4 k7 y487 t491 (t491.length : Int) x8_1 x9_61 x14_2 x15_3 (wrap64 (x16_7 + 1))) = some r := by rw [if_neg (show ¬ (false = true) by decide)] at H; exact H
                                       clear H
                                       have H := H1
                                       clear H1
                                       have H' := asd H
                                       clear H
                                       have p522 : 0 ≤ (x14_2 : Int) := dt
                                       have q522 : x14_2 < (x8_1.length : Int) := dt
                                       obtain ⟨ad522, A522_0, c522_0, e522, hx522_0, hl522_0, hi522_0⟩ := at_L9 (Kd.S_reads' HO_8.out).2.2 x14_2 p522 q522
                                       obtain rfl : ad514 = ad522 := (by injection e522)
                                       obtain ⟨ce522, hce522, hMe522, hcc522⟩ := Kd.S_get HO_8.out [] x14_2 p522 (by first | exact q522 | exact dt | (have e_ := (Kd.S_reads' HO_8.out).1; omega))
                                       obtain ⟨ve522_0, rfl, ge522_0⟩ := hMe522
                                       have hv522_0 := hcc522 0 _ rfl
                                       rw [Nat.add_zero, show ((Kd.slice 4 Kd.bool)).sz = 1 from rfl, Nat.mul_one] at hv522_0
                                       replace hv522_0 := Option.some.inj (hv522_0.symm.trans hx522_0)
                                       rw [hv522_0] at ge522_0
                                       have HL522_0 := asd (show Kd.R Kd.bool 4 _ _ _ _ (rd_L9 x8_1 x14_2) from ge522_0)
                                       clear hv522_0 ge522_0
                                       have HX522_0 := asd hx522_0
                                       clear hcc522 hce522
                                       have HR522_0 := asd hi522_0
                                       have HC522_0 := asd hl522_0
                                       clear hi522_0 hl522_0
                                       replace p522 := eq_true p522
                                       replace q522 := eq_true q522
                                       have p523 : 0 ≤ (x15_3 : Int) := dt
                                       have q523 : x15_3 < ((rd_L9 x8_1 x14_2).length : Int) := dt
                                       obtain ⟨ad523, e523, hx523_0⟩ := Kd.at_bool (by repeat (first | (with_reducible exact HR522_0.out) | (with_reducible refine Kd.C_alloc ?_ _) | (with_reducible refine Kd.C_drewN ?_ _) | (with_reducible refine Kd.C_drew ?_) | exact HR522_0.out)) x15_3 p523 q523
                                       (try rw [← Nbq42.out] at hx523_0)
                                       (try rw [← Nbq69.out] at hx523_0)
                                       (try rw [← Nbq74.out] at hx523_0)
                                       cases e523
                                       replace p523 := eq_true p523
                                       replace q523 := eq_true q523
                                       have p524 : 0 ≤ (x15_3 : Int) := dt
                                       have q524 : x15_3 < (x8_1.length : Int) := dt
                                       obtain ⟨ad524, A524_0, c524_0, e524, hx524_0, hl524_0, hi524_0⟩ := at_L9 (Kd.S_reads' HO_8.out).2.2 x15_3 p524 q524
                                       obtain rfl : ad514 = ad524 := (by injection e524)
                                       obtain ⟨ce524, hce524, hMe524, hcc524⟩ := Kd.S_get HO_8.out [] x15_3 p524 (by first | exact q524 | exact dt | (have e_ := (Kd.S_reads' HO_8.out).1; omega))
                                       obtain ⟨ve524_0, rfl, ge524_0⟩ := hMe524
                                       have hv524_0 := hcc524 0 _ rfl
                                       rw [Nat.add_zero, show ((Kd.slice 4 Kd.bool)).sz = 1 from rfl, Nat.mul_one] at hv524_0
                                       replace hv524_0 := Option.some.inj (hv524_0.symm.trans hx524_0)
                                       rw [hv524_0] at ge524_0
                                       have HL524_0 := asd (show Kd.R Kd.bool 4 _ _ _ _ (rd_L9 x8_1 x15_3) from ge524_0)
                                       clear hv524_0 ge524_0
                                       have HX524_0 := asd hx524_0
                                       clear hcc524 hce524
                                       have HR524_0 := asd hi524_0
                                       have HC524_0 := asd hl524_0
                                       clear hi524_0 hl524_0
                                       replace p524 := eq_true p524
                                       replace q524 := eq_true q524
                                       have p525 : 0 ≤ (x16_7 : Int) := dt
                                       have q525 : x16_7 < ((rd_L9 x8_1 x15_3).length : Int) := dt
                                       obtain ⟨ad525, e525, hx525_0⟩ := Kd.at_bool (by repeat (first | (with_reducible exact HR524_0.out) | (with_reducible refine Kd.C_alloc ?_ _) | (with_reducible refine Kd.C_drewN ?_ _) | (with_reducible refine Kd.C_drew ?_) | exact HR524_0.out)) x16_7 p525 q525
                                       (try rw [← Nbq42.out] at hx525_0)
                                       (try rw [← Nbq69.out] at hx525_0)
                                       (try rw [← Nbq74.out] at hx525_0)
                                       cases e525
                                       replace p525 := eq_true p525
                                       replace q525 := eq_true q525
                                       go_wp2
                                       repeat (go_quiet (fail); try go_wp2)
                                       go_roundg k7
                                       case measure => have := HK1.out; have := HK2.out; have := HK3.out; have := HJ45.out; have := HJ55.out; have := HJ61.out; have := HK7.out; omega
                                       case rel => exact ⟨(wrap64 (x16_7 + 1)), rs, H', ⟨by have := HK1.out; have := HK2.out; have := HK3.out; have := HJ45.out; have := HJ55.out; have := HJ61.out; have := HK7.out; omega⟩, ⟨by (with_reducible repeat (first | apply Kd.S_alloc | apply Kd.S_drewN | apply Kd.S_drew)); exact HO_3.out⟩, ⟨by (with_reducible repeat (first | apply Kd.S_alloc | apply Kd.S_drewN | apply Kd.S_drew)); exact HO_8.out⟩, ⟨by repeat (first | (with_reducible exact HR514_0.out) | (with_reducible refine Kd.C_alloc ?_ _) | (with_reducible refine Kd.C_drewN ?_ _) | (with_reducible refine Kd.C_drew ?_) | exact HR514_0.out)⟩, ⟨skB HB.out⟩⟩
                                     ·
                                      rw [if_neg c73] at H
                                      exact absurd H (by simp)
                                    ·
                                     rw [if_neg c72] at H
                                     exact absurd H (by simp)
                                   ·
                                    rw [if_neg c71] at H
                                    exact absurd H (by simp)
                                  ·
                                   replace c70 := Bool.eq_false_iff.mpr c70
                                   subst c70
                                   have H1 : (larchlaw05_EventAhead.l4 k7 y487 t491 (t491.length : Int) x8_1 x9_61 x14_2 x15_3 (wrap64 (x16_7 + 1))) = some r := by rw [if_neg (show ¬ (false = true) by decide)] at H; exact H
                                   clear H
                                   have H := H1
                                   clear H1
                                   have H' := asd H
                                   clear H
                                   have p522 : 0 ≤ (x14_2 : Int) := dt
                                   have q522 : x14_2 < (x8_1.length : Int) := dt
                                   obtain ⟨ad522, A522_0, c522_0, e522, hx522_0, hl522_0, hi522_0⟩ := at_L9 (Kd.S_reads' HO_8.out).2.2 x14_2 p522 q522
                                   obtain rfl : ad514 = ad522 := (by injection e522)
                                   obtain ⟨ce522, hce522, hMe522, hcc522⟩ := Kd.S_get HO_8.out [] x14_2 p522 (by first | exact q522 | exact dt | (have e_ := (Kd.S_reads' HO_8.out).1; omega))
                                   obtain ⟨ve522_0, rfl, ge522_0⟩ := hMe522
                                   have hv522_0 := hcc522 0 _ rfl
                                   rw [Nat.add_zero, show ((Kd.slice 4 Kd.bool)).sz = 1 from rfl, Nat.mul_one] at hv522_0
                                   replace hv522_0 := Option.some.inj (hv522_0.symm.trans hx522_0)
                                   rw [hv522_0] at ge522_0
                                   have HL522_0 := asd (show Kd.R Kd.bool 4 _ _ _ _ (rd_L9 x8_1 x14_2) from ge522_0)
                                   clear hv522_0 ge522_0
                                   have HX522_0 := asd hx522_0
                                   clear hcc522 hce522
                                   have HR522_0 := asd hi522_0
                                   have HC522_0 := asd hl522_0
                                   clear hi522_0 hl522_0
                                   replace p522 := eq_true p522
                                   replace q522 := eq_true q522
                                   have p523 : 0 ≤ (x15_3 : Int) := dt
                                   have q523 : x15_3 < ((rd_L9 x8_1 x14_2).length : Int) := dt
                                   obtain ⟨ad523, e523, hx523_0⟩ := Kd.at_bool (by repeat (first | (with_reducible exact HR522_0.out) | (with_reducible refine Kd.C_alloc ?_ _) | (with_reducible refine Kd.C_drewN ?_ _) | (with_reducible refine Kd.C_drew ?_) | exact HR522_0.out)) x15_3 p523 q523
                                   (try rw [← Nbq42.out] at hx523_0)
                                   (try rw [← Nbq69.out] at hx523_0)
                                   cases e523
                                   replace p523 := eq_true p523
                                   replace q523 := eq_true q523
                                   go_wp2
                                   repeat (go_quiet (fail); try go_wp2)
                                   go_roundg k7
                                   case measure => have := HK1.out; have := HK2.out; have := HK3.out; have := HJ45.out; have := HJ55.out; have := HJ61.out; have := HK7.out; omega
                                   case rel => exact ⟨(wrap64 (x16_7 + 1)), rs, H', ⟨by have := HK1.out; have := HK2.out; have := HK3.out; have := HJ45.out; have := HJ55.out; have := HJ61.out; have := HK7.out; omega⟩, ⟨by (with_reducible repeat (first | apply Kd.S_alloc | apply Kd.S_drewN | apply Kd.S_drew)); exact HO_3.out⟩, ⟨by (with_reducible repeat (first | apply Kd.S_alloc | apply Kd.S_drewN | apply Kd.S_drew)); exact HO_8.out⟩, ⟨by repeat (first | (with_reducible exact HR514_0.out) | (with_reducible refine Kd.C_alloc ?_ _) | (with_reducible refine Kd.C_drewN ?_ _) | (with_reducible refine Kd.C_drew ?_) | exact HR514_0.out)⟩, ⟨skB HB.out⟩⟩
                                 ·
                                  rw [if_neg c68] at H
                                  exact absurd H (by simp)
                                ·
                                 rw [if_neg c67] at H
                                 exact absurd H (by simp)
                               ·
                                rw [if_neg c66] at H
                                exact absurd H (by simp)
                              ·
                               rw [if_neg c65] at H
                               exact absurd H (by simp)
                             ·
                              rw [if_neg c64] at H
                              have c64b0 : decide (x16_7 < (t491.length : Int)) = false := decide_eq_false c64
                              clear c64
                              have H' := asd H
                              clear H
                              go_wp2
                              repeat (go_quiet (fail); try go_wp2)
                              go_roundg k7
                              case measure => have := HK1.out; have := HK2.out; have := HK3.out; have := HJ45.out; have := HJ55.out; have := HJ61.out; have := HK7.out; omega
                              case rel => exact ⟨(x9_61), (wrap64 (x15_3 + 1)), rs, rs, H', ⟨by have := HK1.out; have := HK2.out; have := HK3.out; have := HJ45.out; have := HJ55.out; have := HJ61.out; have := HK7.out; omega⟩, ⟨by (with_reducible repeat (first | apply Kd.S_alloc | apply Kd.S_drewN | apply Kd.S_drew)); exact HO_3.out⟩, ⟨by (with_reducible repeat (first | apply Kd.S_alloc | apply Kd.S_drewN | apply Kd.S_drew)); exact HO_8.out⟩, ⟨by repeat (first | (with_reducible exact HR514_0.out) | (with_reducible refine Kd.C_alloc ?_ _) | (with_reducible refine Kd.C_drewN ?_ _) | (with_reducible refine Kd.C_drew ?_) | exact HR514_0.out)⟩, ⟨skB HB.out⟩⟩
                   ·
                    rw [if_neg c45] at H
                    have c45b0 : decide (x15_3 < (t491.length : Int)) = false := decide_eq_false c45
                    clear c45
                    have H' := asd H
                    clear H
                    go_wp2
                    repeat (go_quiet (fail); try go_wp2)
                    go_roundg k3
                    case measure => have := HK1.out; have := HK2.out; have := HK3.out; omega
                    case rel => exact ⟨(x9_3), (wrap64 (x14_2 + 1)), rs, rs, H', ⟨by have := HK1.out; have := HK2.out; have := HK3.out; omega⟩, ⟨by (with_reducible repeat (first | apply Kd.S_alloc | apply Kd.S_drewN | apply Kd.S_drew)); exact HO_3.out⟩, ⟨by (with_reducible repeat (first | apply Kd.S_alloc | apply Kd.S_drewN | apply Kd.S_drew)); exact HO_8.out⟩, ⟨skB HB.out⟩⟩
               ·
                rw [if_neg c41] at H
                exact absurd H (by simp)
              ·
               rw [if_neg c40] at H
               exact absurd H (by simp)
             ·
              rw [if_neg c39] at H
              exact absurd H (by simp)
            ·
             rw [if_neg c38] at H
             have c38b0 : decide (x14_2 < (t491.length : Int)) = false := decide_eq_false c38
             clear c38
             replace H := Option.bind_eq_some_iff.mp H
             obtain ⟨⟨t510, t511⟩, A790, H⟩ := H
             replace H : ((event_Ahead.f y487 (t491.length : Int) 0).bind fun bt512 => (if t511 = 0 then (if (t510 == x9_2) = true then (some (bt512.2 == 1)) else (none)) else (none))) = some r := H
             have A79 := asd A790
             clear A790
             replace H := Option.bind_eq_some_iff.mp H
             obtain ⟨⟨t512, t513⟩, A800, H⟩ := H
             replace H : (if t511 = 0 then (if (t510 == x9_2) = true then (some (t513 == 1)) else (none)) else (none)) = some r := H
             have A80 := asd A800
             clear A800
             by_cases c81 : t511 = 0
             ·
              rw [if_pos c81] at H
              have c81b0 : (t511 == 0) = true := beq_iff_eq.mpr c81
              have c81b1 : (t511 != 0) = false := bne_eq_false_iff_eq.mpr c81
              clear c81
              by_cases c82 : (t510 == x9_2) = true
              ·
               rw [if_pos c82] at H
               have c82b0 : (t510 == x9_2) = true := c82
               (try (have c82b1 : decide (t510 = x9_2) = true := by simpa using c82))
               (try (have c82b2 : (t510 == x9_2) = true := by simpa using c82))
               clear c82
               obtain rfl := Option.some.inj H
               go_wp2_with (first | (go_at_call 15; (with_reducible refine (event_Row.calls k2 _ _ y487 t510 t511 _ ?side1 ?side2 A79.out).mono ?_); (case side1 => exact skC (Kd.C_below HR490.out HB.out)); (case side2 => exact HC490.out); rintro e w83 ⟨rfl, hb⟩; have n0_ := asd (Kd.S_below (by (with_reducible repeat (first | apply Kd.S_alloc | apply Kd.S_drewN | apply Kd.S_drew)); exact HO_3.out) hb); have n1_ := asd (Kd.S_below (by (with_reducible repeat (first | apply Kd.S_alloc | apply Kd.S_drewN | apply Kd.S_drew)); exact HO_8.out) hb); have n2_ := asd (below_step (skB HB.out) hb); clear HO_3; clear HO_8; clear HB; have HO_3 := n0_; have HO_8 := n1_; have HB := n2_; clear n0_ n1_ n2_; (try clear hb); (try clear hb2); (try clear hk); (try clear hi)) | (go_at_call 14; (with_reducible refine (event_Ahead.calls _ _ y487 (t491.length : Int) 0 t512 t513 _ ?side1 ?side2 A80.out).mono ?_); (case side1 => exact skC (Kd.C_below HR490.out HB.out)); (case side2 => exact HC490.out); rintro e w84 ⟨rfl, hb⟩; have n0_ := asd (Kd.S_below (by (with_reducible repeat (first | apply Kd.S_alloc | apply Kd.S_drewN | apply Kd.S_drew)); exact HO_3.out) hb); have n1_ := asd (Kd.S_below (by (with_reducible repeat (first | apply Kd.S_alloc | apply Kd.S_drewN | apply Kd.S_drew)); exact HO_8.out) hb); have n2_ := asd (below_step (skB HB.out) hb); clear HO_3; clear HO_8; clear HB; have HO_3 := n0_; have HO_8 := n1_; have HB := n2_; clear n0_ n1_ n2_; (try clear hb); (try clear hb2); (try clear hk); (try clear hi)))
               repeat (go_quiet (first | (go_at_call 15; (with_reducible refine (event_Row.calls k2 _ _ y487 t510 t511 _ ?side1 ?side2 A79.out).mono ?_); (case side1 => exact skC (Kd.C_below HR490.out HB.out)); (case side2 => exact HC490.out); rintro e w83 ⟨rfl, hb⟩; have n0_ := asd (Kd.S_below (by (with_reducible repeat (first | apply Kd.S_alloc | apply Kd.S_drewN | apply Kd.S_drew)); exact HO_3.out) hb); have n1_ := asd (Kd.S_below (by (with_reducible repeat (first | apply Kd.S_alloc | apply Kd.S_drewN | apply Kd.S_drew)); exact HO_8.out) hb); have n2_ := asd (below_step (skB HB.out) hb); clear HO_3; clear HO_8; clear HB; have HO_3 := n0_; have HO_8 := n1_; have HB := n2_; clear n0_ n1_ n2_; (try clear hb); (try clear hb2); (try clear hk); (try clear hi)) | (go_at_call 14; (with_reducible refine (event_Ahead.calls _ _ y487 (t491.length : Int) 0 t512 t513 _ ?side1 ?side2 A80.out).mono ?_); (case side1 => exact skC (Kd.C_below HR490.out HB.out)); (case side2 => exact HC490.out); rintro e w84 ⟨rfl, hb⟩; have n0_ := asd (Kd.S_below (by (with_reducible repeat (first | apply Kd.S_alloc | apply Kd.S_drewN | apply Kd.S_drew)); exact HO_3.out) hb); have n1_ := asd (Kd.S_below (by (with_reducible repeat (first | apply Kd.S_alloc | apply Kd.S_drewN | apply Kd.S_drew)); exact HO_8.out) hb); have n2_ := asd (below_step (skB HB.out) hb); clear HO_3; clear HO_8; clear HB; have HO_3 := n0_; have HO_8 := n1_; have HB := n2_; clear n0_ n1_ n2_; (try clear hb); (try clear hb2); (try clear hk); (try clear hi))); try go_wp2_with (first | (go_at_call 15; (with_reducible refine (event_Row.calls k2 _ _ y487 t510 t511 _ ?side1 ?side2 A79.out).mono ?_); (case side1 => exact skC (Kd.C_below HR490.out HB.out)); (case side2 => exact HC490.out); rintro e w83 ⟨rfl, hb⟩; have n0_ := asd (Kd.S_below (by (with_reducible repeat (first | apply Kd.S_alloc | apply Kd.S_drewN | apply Kd.S_drew)); exact HO_3.out) hb); have n1_ := asd (Kd.S_below (by (with_reducible repeat (first | apply Kd.S_alloc | apply Kd.S_drewN | apply Kd.S_drew)); exact HO_8.out) hb); have n2_ := asd (below_step (skB HB.out) hb); clear HO_3; clear HO_8; clear HB; have HO_3 := n0_; have HO_8 := n1_; have HB := n2_; clear n0_ n1_ n2_; (try clear hb); (try clear hb2); (try clear hk); (try clear hi)) | (go_at_call 14; (with_reducible refine (event_Ahead.calls _ _ y487 (t491.length : Int) 0 t512 t513 _ ?side1 ?side2 A80.out).mono ?_); (case side1 => exact skC (Kd.C_below HR490.out HB.out)); (case side2 => exact HC490.out); rintro e w84 ⟨rfl, hb⟩; have n0_ := asd (Kd.S_below (by (with_reducible repeat (first | apply Kd.S_alloc | apply Kd.S_drewN | apply Kd.S_drew)); exact HO_3.out) hb); have n1_ := asd (Kd.S_below (by (with_reducible repeat (first | apply Kd.S_alloc | apply Kd.S_drewN | apply Kd.S_drew)); exact HO_8.out) hb); have n2_ := asd (below_step (skB HB.out) hb); clear HO_3; clear HO_8; clear HB; have HO_3 := n0_; have HO_8 := n1_; have HB := n2_; clear n0_ n1_ n2_; (try clear hb); (try clear hb2); (try clear hk); (try clear hi))))
               go_ret
               exact ⟨by first | rfl | (simp [errW_none, errW_some] <;> rfl) | (simp only [← hji4]; first | rfl | (simp [errW_none, errW_some] <;> rfl)) | (simp [*, errW_none, errW_some] <;> rfl), skB HB.out⟩
              ·
               rw [if_neg c82] at H
               exact absurd H (by simp)
             ·
              rw [if_neg c81] at H
              exact absurd H (by simp)
      ·
       rw [if_neg c10] at H
       exact absurd H (by simp)
     ·
      rw [if_neg c9] at H
      exact absurd H (by simp)
    ·
     rw [if_neg c8] at H
     have c8b0 : (t492 == 0) = false := beq_eq_false_iff_ne.mpr c8
     have c8b1 : (t492 != 0) = true := bne_iff_ne.mpr c8
     replace H := Option.bind_eq_some_iff.mp H
     obtain ⟨⟨t495, t496⟩, A850, H⟩ := H
     replace H : (if t496 = t492 then (some ((t491.length : Int) == 0)) else (none)) = some r := H
     have A85 := asd A850
     clear A850
     by_cases c86 : t496 = t492
     ·
      rw [if_pos c86] at H
      have c86b0 : (t496 == t492) = true := beq_iff_eq.mpr c86
      have c86b1 : (t496 != t492) = false := bne_eq_false_iff_eq.mpr c86
      clear c86
      obtain rfl := Option.some.inj H
      go_enter Try.func3, Try.ntmps3
      go_wp2_with (first | (go_at_call 12; (with_reducible refine (larchlaw05_known.calls  true _ A2.out).mono ?_); rintro e w87 ⟨rfl, hb⟩; have n0_ := asd (below_step (skB HB.out) hb); clear HB; have HB := n0_; clear n0_; (try clear hb); (try clear hb2); (try clear hk); (try clear hi); have q88 : ((ji4) : Int) ≤ ((l0.length : Int) : Int) := dt; obtain ⟨i088, hi088, _, hsz88, _⟩ := info_parts info67; have hroom88 : l0.length ≤ c0 := HC0.out; have hC88 : Kd.C k67 _ A0 l0.length l0 := HR0.out; have hcut88 := cut_to (P := Try.prog) 22 67 .i64 Try.underlying22 hi088 A0 l0.length c0 (ji4) dt q88 hroom88; have hr88 := Kd.C_take (m := ((ji4) : Int).toNat) hC88 (by omega); have hy88 : y487.length = ((ji4) : Int).toNat := (by rw [Ny487.out, List.length_take]; omega); rw [← Ny487.out] at hr88; rw [← hy88] at hcut88; have HR490 := asd hr88; have HC490 := asd (show y487.length ≤ c0 from by omega); clear hr88 hC88 hroom88 hi088 hsz88; have KY88 := asd hy88; clear hy88; replace q88 := eq_true q88) | (go_at_call 13; (with_reducible refine (event_Calls.calls _ _ y487 t491 t492 _ ?side1 ?side2 A7.out).mono ?_); (case side1 => exact skC (Kd.C_below HR490.out HB.out)); (case side2 => exact HC490.out); rintro e w89 ⟨v493, rfl, ho0, hb⟩; have n0_ := asd (Kd.S_lower ho0 (below_size (skB HB.out))); have n1_ := asd (below_step (skB HB.out) hb); clear HB; have HO494 := n0_; have HB := n1_; clear n0_ n1_; (try clear hb); (try clear hb2); (try clear hk); (try clear hi); (try clear ho0)) | (go_at_call 14; (with_reducible refine (event_Ahead.calls _ _ y487 0 0 t495 t496 _ ?side1 ?side2 A85.out).mono ?_); (case side1 => exact skC (Kd.C_below HR490.out HB.out)); (case side2 => exact HC490.out); rintro e w90 ⟨rfl, hb⟩; have n0_ := asd (Kd.S_below (by (with_reducible repeat (first | apply Kd.S_alloc | apply Kd.S_drewN | apply Kd.S_drew)); exact HO494.out) hb); have n1_ := asd (below_step (skB HB.out) hb); clear HO494; clear HB; have HO494 := n0_; have HB := n1_; clear n0_ n1_; (try clear hb); (try clear hb2); (try clear hk); (try clear hi); obtain ⟨Ao91, co91, eo91⟩ := Kd.S_slice HO494.out; subst eo91))
      repeat (go_quiet (first | (go_at_call 12; (with_reducible refine (larchlaw05_known.calls  true _ A2.out).mono ?_); rintro e w87 ⟨rfl, hb⟩; have n0_ := asd (below_step (skB HB.out) hb); clear HB; have HB := n0_; clear n0_; (try clear hb); (try clear hb2); (try clear hk); (try clear hi); have q88 : ((ji4) : Int) ≤ ((l0.length : Int) : Int) := dt; obtain ⟨i088, hi088, _, hsz88, _⟩ := info_parts info67; have hroom88 : l0.length ≤ c0 := HC0.out; have hC88 : Kd.C k67 _ A0 l0.length l0 := HR0.out; have hcut88 := cut_to (P := Try.prog) 22 67 .i64 Try.underlying22 hi088 A0 l0.length c0 (ji4) dt q88 hroom88; have hr88 := Kd.C_take (m := ((ji4) : Int).toNat) hC88 (by omega); have hy88 : y487.length = ((ji4) : Int).toNat := (by rw [Ny487.out, List.length_take]; omega); rw [← Ny487.out] at hr88; rw [← hy88] at hcut88; have HR490 := asd hr88; have HC490 := asd (show y487.length ≤ c0 from by omega); clear hr88 hC88 hroom88 hi088 hsz88; have KY88 := asd hy88; clear hy88; replace q88 := eq_true q88) | (go_at_call 13; (with_reducible refine (event_Calls.calls _ _ y487 t491 t492 _ ?side1 ?side2 A7.out).mono ?_); (case side1 => exact skC (Kd.C_below HR490.out HB.out)); (case side2 => exact HC490.out); rintro e w89 ⟨v493, rfl, ho0, hb⟩; have n0_ := asd (Kd.S_lower ho0 (below_size (skB HB.out))); have n1_ := asd (below_step (skB HB.out) hb); clear HB; have HO494 := n0_; have HB := n1_; clear n0_ n1_; (try clear hb); (try clear hb2); (try clear hk); (try clear hi); (try clear ho0)) | (go_at_call 14; (with_reducible refine (event_Ahead.calls _ _ y487 0 0 t495 t496 _ ?side1 ?side2 A85.out).mono ?_); (case side1 => exact skC (Kd.C_below HR490.out HB.out)); (case side2 => exact HC490.out); rintro e w90 ⟨rfl, hb⟩; have n0_ := asd (Kd.S_below (by (with_reducible repeat (first | apply Kd.S_alloc | apply Kd.S_drewN | apply Kd.S_drew)); exact HO494.out) hb); have n1_ := asd (below_step (skB HB.out) hb); clear HO494; clear HB; have HO494 := n0_; have HB := n1_; clear n0_ n1_; (try clear hb); (try clear hb2); (try clear hk); (try clear hi); obtain ⟨Ao91, co91, eo91⟩ := Kd.S_slice HO494.out; subst eo91)); try go_wp2_with (first | (go_at_call 12; (with_reducible refine (larchlaw05_known.calls  true _ A2.out).mono ?_); rintro e w87 ⟨rfl, hb⟩; have n0_ := asd (below_step (skB HB.out) hb); clear HB; have HB := n0_; clear n0_; (try clear hb); (try clear hb2); (try clear hk); (try clear hi); have q88 : ((ji4) : Int) ≤ ((l0.length : Int) : Int) := dt; obtain ⟨i088, hi088, _, hsz88, _⟩ := info_parts info67; have hroom88 : l0.length ≤ c0 := HC0.out; have hC88 : Kd.C k67 _ A0 l0.length l0 := HR0.out; have hcut88 := cut_to (P := Try.prog) 22 67 .i64 Try.underlying22 hi088 A0 l0.length c0 (ji4) dt q88 hroom88; have hr88 := Kd.C_take (m := ((ji4) : Int).toNat) hC88 (by omega); have hy88 : y487.length = ((ji4) : Int).toNat := (by rw [Ny487.out, List.length_take]; omega); rw [← Ny487.out] at hr88; rw [← hy88] at hcut88; have HR490 := asd hr88; have HC490 := asd (show y487.length ≤ c0 from by omega); clear hr88 hC88 hroom88 hi088 hsz88; have KY88 := asd hy88; clear hy88; replace q88 := eq_true q88) | (go_at_call 13; (with_reducible refine (event_Calls.calls _ _ y487 t491 t492 _ ?side1 ?side2 A7.out).mono ?_); (case side1 => exact skC (Kd.C_below HR490.out HB.out)); (case side2 => exact HC490.out); rintro e w89 ⟨v493, rfl, ho0, hb⟩; have n0_ := asd (Kd.S_lower ho0 (below_size (skB HB.out))); have n1_ := asd (below_step (skB HB.out) hb); clear HB; have HO494 := n0_; have HB := n1_; clear n0_ n1_; (try clear hb); (try clear hb2); (try clear hk); (try clear hi); (try clear ho0)) | (go_at_call 14; (with_reducible refine (event_Ahead.calls _ _ y487 0 0 t495 t496 _ ?side1 ?side2 A85.out).mono ?_); (case side1 => exact skC (Kd.C_below HR490.out HB.out)); (case side2 => exact HC490.out); rintro e w90 ⟨rfl, hb⟩; have n0_ := asd (Kd.S_below (by (with_reducible repeat (first | apply Kd.S_alloc | apply Kd.S_drewN | apply Kd.S_drew)); exact HO494.out) hb); have n1_ := asd (below_step (skB HB.out) hb); clear HO494; clear HB; have HO494 := n0_; have HB := n1_; clear n0_ n1_; (try clear hb); (try clear hb2); (try clear hk); (try clear hi); obtain ⟨Ao91, co91, eo91⟩ := Kd.S_slice HO494.out; subst eo91)))
      go_ret
      exact ⟨by first | rfl | (simp [errW_none, errW_some] <;> rfl) | (simp only [← hji4]; first | rfl | (simp [errW_none, errW_some] <;> rfl)) | (simp [*, errW_none, errW_some] <;> rfl), skB HB.out⟩
     ·
      rw [if_neg c86] at H
      exact absurd H (by simp)
   ·
    rw [if_neg c6] at H
    exact absurd H (by simp)
  ·
   rw [if_neg c5] at H
   exact absurd H (by simp)
 ·
  replace c3 := Bool.eq_false_iff.mpr c3
  subst c3
  have H1 : (none) = some r := by rw [if_neg (show ¬ (false = true) by decide)] at H; exact H
  clear H
  have H := H1
  clear H1
  exact absurd H (by simp)
end Go.Proofs.Ytagdkmcgepidoaa.P
