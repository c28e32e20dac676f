/- P.eventPlaces_holds, part 17 of 19: the contracts of the Go functions that the law calls, its own walk, and its plain law, for every input that the statement speaks of. -/
import Derived.Test.YtagdkmcgepidoaaMPlaces2
import Derived.Test.YtagdkmcgepidoaaMPlaces11
import Derived.Test.YtagdkmcgepidoaaMPlaces4
import Derived.Test.YtagdkmcgepidoaaMPlaces15
import Derived.Test.YtagdkmcgepidoaaMPlaces1
import Derived.Test.YtagdkmcgepidoaaMPlaces9
set_option linter.unusedVariables false
set_option linter.unusedSimpArgs false
/- F15 -/
namespace Go.Proofs.Ytagdkmcgepidoaa.P
open Go.RowKit Go.Proofs.YtagdkmcgepidoaaW.PrintWords Go.Proofs.YtagdkmcgepidoaaW.PrintLast Go.Proofs.YtagdkmcgepidoaaW.PrintMore
attribute [local go_sem] max2_int min2_int max_two min_two max_three min_three max_four min_four   -- for this text's walks alone
set_option linter.unusedVariables false
set_option linter.unusedSimpArgs false
def larchlaw05_known.f  : Option (Bool) := (larchlaw05_sample.f).bind fun t125 => ((event_Orders.f t125).bind fun bt128 => ((larchlaw05_sample.f).bind fun t130 => ((event_Ahead.f t130 0 1).bind fun bt133 => (if bt128.1 = 2 then (if bt128.2 = 0 then (if bt133.1 = true then (none) else (some (bt133.2 == 0))) else (none)) else (none)))))
set_option maxHeartbeats 8000000 in
set_option maxRecDepth 100000 in
theorem larchlaw05_known.calls  (r : Bool) (w : World) (h : larchlaw05_known.f  = some r) :
  Calls Try.prog 12 #[] w fun e w' => e = .returned (.bool r) ∧ Below w.heap.size w w' := by
 have HB := asd (Below.refl w.heap.size w)
 have H : ((larchlaw05_sample.f).bind fun t125 => ((event_Orders.f t125).bind fun bt128 => ((larchlaw05_sample.f).bind fun t130 => ((event_Ahead.f t130 0 1).bind fun bt133 => (if bt128.1 = 2 then (if bt128.2 = 0 then (if bt133.1 = true then (none) else (some (bt133.2 == 0))) else (none)) else (none)))))) = some r := h
 clear h
 replace H := Option.bind_eq_some_iff.mp H
 obtain ⟨t125, A10, H⟩ := H
 replace H : ((event_Orders.f t125).bind fun bt128 => ((larchlaw05_sample.f).bind fun t130 => ((event_Ahead.f t130 0 1).bind fun bt133 => (if bt128.1 = 2 then (if bt128.2 = 0 then (if bt133.1 = true then (none) else (some (bt133.2 == 0))) else (none)) else (none))))) = some r := H
 have A1 := asd A10
 clear A10
 replace H := Option.bind_eq_some_iff.mp H
 obtain ⟨⟨t128, t129⟩, A20, H⟩ := H
 replace H : ((larchlaw05_sample.f).bind fun t130 => ((event_Ahead.f t130 0 1).bind fun bt133 => (if t128 = 2 then (if t129 = 0 then (if bt133.1 = true then (none) else (some (bt133.2 == 0))) else (none)) else (none)))) = some r := H
 have A2 := asd A20
 clear A20
 replace H := Option.bind_eq_some_iff.mp H
 obtain ⟨t130, A30, H⟩ := H
 replace H : ((event_Ahead.f t130 0 1).bind fun bt133 => (if t128 = 2 then (if t129 = 0 then (if bt133.1 = true then (none) else (some (bt133.2 == 0))) else (none)) else (none))) = some r := H
 have A3 := asd A30
 clear A30
 replace H := Option.bind_eq_some_iff.mp H
 obtain ⟨⟨t133, t134⟩, A40, H⟩ := H
 replace H : (if t128 = 2 then (if t129 = 0 then (if t133 = true then (none) else (some (t134 == 0))) else (none)) else (none)) = some r := H
 have A4 := asd A40
 clear A40
 by_cases c5 : t128 = 2
 ·
  rw [if_pos c5] at H
  have c5b0 : (t128 == 2) = true := beq_iff_eq.mpr c5
  have c5b1 : (t128 != 2) = false := bne_eq_false_iff_eq.mpr c5
  clear c5
  by_cases c6 : t129 = 0
  ·
   rw [if_pos c6] at H
   have c6b0 : (t129 == 0) = true := beq_iff_eq.mpr c6
   have c6b1 : (t129 != 0) = false := bne_eq_false_iff_eq.mpr c6
   clear c6
   by_cases c7 : t133 = true
   ·
    subst c7
    have H1 : (none) = some r := by rw [if_pos rfl] at H; exact H
    clear H
    have H := H1
    clear H1
    exact absurd H (by simp)
   ·
    replace c7 := Bool.eq_false_iff.mpr c7
    subst c7
    have H1 : (some (t134 == 0)) = some r := by rw [if_neg (show ¬ (false = true) by decide)] at H; exact H
    clear H
    have H := H1
    clear H1
    obtain rfl := Option.some.inj H
    go_enter Try.func12, Try.ntmps12
    go_wp2_with (first | ((with_reducible refine gate_callee (f := 45) rfl ?_); refine goesL_ (some 6) rfl rfl Try.func45 (by kernel_rfl) rfl #[] rfl ags ?_; (with_reducible refine (larchlaw05_sample.calls  t125 _ A1.out).mono ?_); rintro e w8 ⟨v126, rfl, ho0, hb⟩; refine ⟨_, rfl, ?_⟩; have n0_ := asd (Kd.S_lower ho0 (below_size (skB HB.out))); have n1_ := asd (below_step (skB HB.out) hb); clear HB; have HO127 := n0_; have HB := n1_; clear n0_ n1_; (try clear hb); (try clear hb2); (try clear hk); (try clear hi); (try clear ho0); obtain ⟨Ao9, co9, eo9⟩ := Kd.S_slice HO127.out; subst eo9) | ((with_reducible refine gate_callee (f := 19) rfl ?_); refine goesL_ (some 7) rfl rfl Try.func19 (by kernel_rfl) rfl #[.slice Ao9 t125.length co9] rfl ags ?_; (with_reducible refine (event_Orders.calls _ _ t125 t128 t129 _ ?side1 ?side2 A2.out).mono ?_); (case side1 => exact skC (Kd.S_reads' HO127.out).2.2); (case side2 => exact (Kd.S_reads' HO127.out).2.1); rintro e w10 ⟨rfl, hb⟩; refine ⟨_, rfl, ?_⟩; have n0_ := asd (Kd.S_below (by (with_reducible repeat (first | apply Kd.S_alloc | apply Kd.S_drewN | apply Kd.S_drew)); exact HO127.out) hb); have n1_ := asd (below_step (skB HB.out) hb); clear HO127; clear HB; have HO127 := n0_; have HB := n1_; clear n0_ n1_; (try clear hb); (try clear hb2); (try clear hk); (try clear hi)) | ((with_reducible refine gate_callee (f := 45) rfl ?_); refine goesL_ (some 11) rfl rfl Try.func45 (by kernel_rfl) rfl #[] rfl ags ?_; (with_reducible refine (larchlaw05_sample.calls  t130 _ A3.out).mono ?_); rintro e w11 ⟨v131, rfl, ho0, hb⟩; refine ⟨_, rfl, ?_⟩; have n0_ := asd (Kd.S_elder' (by (with_reducible repeat (first | apply Kd.S_alloc | apply Kd.S_drewN | apply Kd.S_drew)); exact HO127.out) (Kd.S_base ho0) hb); have n1_ := asd (Kd.S_lower (Kd.S_new' ho0 (Kd.S_lt (by (with_reducible repeat (first | apply Kd.S_alloc | apply Kd.S_drewN | apply Kd.S_drew)); exact HO127.out))) (below_size (skB HB.out))); have n2_ := asd (below_step (skB HB.out) hb); clear HO127; clear HB; have HO127 := n0_; have HO132 := n1_; have HB := n2_; clear n0_ n1_ n2_; (try clear hb); (try clear hb2); (try clear hk); (try clear hi); (try clear ho0); obtain ⟨Ao12, co12, eo12⟩ := Kd.S_slice HO132.out; subst eo12) | ((with_reducible refine gate_callee (f := 14) rfl ?_); refine goesL_ (some 12) rfl rfl Try.func14 (by kernel_rfl) rfl #[.slice Ao12 t130.length co12, .int .i64 0, .int .i64 1] rfl ags ?_; (with_reducible refine (event_Ahead.calls _ _ t130 0 1 false t134 _ ?side1 ?side2 A4.out).mono ?_); (case side1 => exact skC (Kd.S_reads' HO132.out).2.2); (case side2 => exact (Kd.S_reads' HO132.out).2.1); rintro e w13 ⟨rfl, hb⟩; refine ⟨_, rfl, ?_⟩; have n0_ := asd (Kd.S_below (by (with_reducible repeat (first | apply Kd.S_alloc | apply Kd.S_drewN | apply Kd.S_drew)); exact HO127.out) hb); have n1_ := asd (Kd.S_below (by (with_reducible repeat (first | apply Kd.S_alloc | apply Kd.S_drewN | apply Kd.S_drew)); exact HO132.out) hb); have n2_ := asd (below_step (skB HB.out) hb); clear HO127; clear HO132; clear HB; have HO127 := n0_; have HO132 := n1_; have HB := n2_; clear n0_ n1_ n2_; (try clear hb); (try clear hb2); (try clear hk); (try clear hi)))
    go_ret
    exact ⟨re, skB HB.out⟩
  ·
   rw [if_neg c6] at H
   exact absurd H (by simp)
 ·
  rw [if_neg c5] at H
  exact absurd H (by simp)
end Go.Proofs.Ytagdkmcgepidoaa.P
/- F31 -/
namespace Go.Proofs.Ytagdkmcgepidoaa.P
open Go.RowKit Go.Proofs.YtagdkmcgepidoaaW.PrintWords Go.Proofs.YtagdkmcgepidoaaW.PrintLast Go.Proofs.YtagdkmcgepidoaaW.PrintMore
attribute [local go_sem] max2_int min2_int max_two min_two max_three min_three max_four min_four   -- for this text's walks alone
set_option linter.unusedVariables false
set_option linter.unusedSimpArgs false
mutual
def larchlaw05_EventPlaces.j0 : Nat → List (S67) → Bool → Option (Bool)
 | 0, _, _ => none
 | k + 1, x0, x42 => if x42 = true then (none) else ((larchref05_Pending.f k x0).bind fun bt230 => ((event_Pending.f k x0).bind fun bt234 => ((larchlaw05_ints.f k bt230.1 bt234.1).bind fun t238 => (if t238 = true then (larchlaw05_EventPlaces.j1 k x0 (bt230.2 != bt234.2)) else (larchlaw05_EventPlaces.j1 k x0 true)))))
def larchlaw05_EventPlaces.j1 : Nat → List (S67) → Bool → Option (Bool)
 | 0, _, _ => none
 | k + 1, x0, x61 => if x61 = true then (none) else ((larchref05_Width.f k x0).bind fun bt239 => ((event_Width.f k x0).bind fun bt241 => ((larchref05_Row.f k x0).bind fun bt243 => ((event_Row.f k x0).bind fun bt245 => (if bt239.1 = bt241.1 then (if bt239.2 = bt241.2 then (if (bt243.1 == bt245.1) = true then (some (bt243.2 == bt245.2)) else (none)) else (none)) else (none))))))
end
def larchlaw05_EventPlaces.f (k : Nat) (l0 : List (S67)) (a1 : Int) (a2 : Int) : Option (Bool) := (larchlaw05_known.f).bind fun t225 => (if t225 = true then ((larchref05_Ahead.f k l0 a1 a2).bind fun bt226 => ((event_Ahead.f l0 a1 a2).bind fun bt228 => (if (bt226.1 != bt228.1) = true then (larchlaw05_EventPlaces.j0 k l0 true) else (larchlaw05_EventPlaces.j0 k l0 (bt226.2 != bt228.2))))) else (none))
set_option maxHeartbeats 8000000 in
set_option maxRecDepth 100000 in
theorem larchlaw05_EventPlaces.calls (k : Nat) (A0 : Option Addr) (c0 : Nat) (l0 : List (S67)) (a1 : Int) (a2 : Int) (r : Bool) (w : World) (hr0 : Kd.C k67 w A0 l0.length l0) (hc0 : l0.length ≤ c0) (h : larchlaw05_EventPlaces.f k l0 a1 a2 = some r) :
  Calls Try.prog 5 #[.slice A0 l0.length c0, .int .i64 a1, .int .i64 a2] w fun e w' => e = .returned (.bool r) ∧ Below w.heap.size w w' := by
 have HR0 := asd hr0
 have HC0 := asd hc0
 clear hr0 hc0
 have HB := asd (Below.refl w.heap.size w)
 have H : ((larchlaw05_known.f).bind fun t225 => (if t225 = true then ((larchref05_Ahead.f k l0 a1 a2).bind fun bt226 => ((event_Ahead.f l0 a1 a2).bind fun bt228 => (if (bt226.1 != bt228.1) = true then (larchlaw05_EventPlaces.j0 k l0 true) else (larchlaw05_EventPlaces.j0 k l0 (bt226.2 != bt228.2))))) else (none))) = some r := h
 clear h
 replace H := Option.bind_eq_some_iff.mp H
 obtain ⟨t225, A40, H⟩ := H
 replace H : (if t225 = true then ((larchref05_Ahead.f k l0 a1 a2).bind fun bt226 => ((event_Ahead.f l0 a1 a2).bind fun bt228 => (if (bt226.1 != bt228.1) = true then (larchlaw05_EventPlaces.j0 k l0 true) else (larchlaw05_EventPlaces.j0 k l0 (bt226.2 != bt228.2))))) else (none)) = some r := H
 have A4 := asd A40
 clear A40
 by_cases c5 : t225 = true
 ·
  subst c5
  have H1 : ((larchref05_Ahead.f k l0 a1 a2).bind fun bt226 => ((event_Ahead.f l0 a1 a2).bind fun bt228 => (if (bt226.1 != bt228.1) = true then (larchlaw05_EventPlaces.j0 k l0 true) else (larchlaw05_EventPlaces.j0 k l0 (bt226.2 != bt228.2))))) = some r := by rw [if_pos rfl] at H; exact H
  clear H
  have H := H1
  clear H1
  replace H := Option.bind_eq_some_iff.mp H
  obtain ⟨⟨t226, t227⟩, A60, H⟩ := H
  replace H : ((event_Ahead.f l0 a1 a2).bind fun bt228 => (if (t226 != bt228.1) = true then (larchlaw05_EventPlaces.j0 k l0 true) else (larchlaw05_EventPlaces.j0 k l0 (t227 != bt228.2)))) = some r := H
  have A6 := asd A60
  clear A60
  replace H := Option.bind_eq_some_iff.mp H
  obtain ⟨⟨t228, t229⟩, A70, H⟩ := H
  replace H : (if (t226 != t228) = true then (larchlaw05_EventPlaces.j0 k l0 true) else (larchlaw05_EventPlaces.j0 k l0 (t227 != t229))) = some r := H
  have A7 := asd A70
  clear A70
  have HC8 := asd H
  clear H
  go_enter Try.func5, Try.ntmps5
  go_upto_region 5 with (first | ((with_reducible refine gate_callee (f := 12) rfl ?_); refine goesL_ (some 19) rfl rfl Try.func12 (by kernel_rfl) rfl #[] rfl ags ?_; (with_reducible refine (larchlaw05_known.calls  true _ A4.out).mono ?_); rintro e w9 ⟨rfl, hb⟩; refine ⟨_, rfl, ?_⟩; have n0_ := asd (below_step (skB HB.out) hb); clear HB; have HB := n0_; clear n0_; (try clear hb); (try clear hb2); (try clear hk); (try clear hi)) | ((with_reducible refine gate_callee (f := 20) rfl ?_); refine goesL_ (some 25) rfl rfl Try.func20 (by kernel_rfl) rfl #[.slice A0 l0.length c0, .int .i64 a1, .int .i64 a2] rfl ags ?_; (with_reducible refine (larchref05_Ahead.calls k _ _ l0 a1 a2 t226 t227 _ ?side1 ?side2 A6.out).mono ?_); (case side1 => exact skC (Kd.C_below HR0.out HB.out)); (case side2 => exact HC0.out); rintro e w10 ⟨rfl, hb⟩; refine ⟨_, rfl, ?_⟩; have n0_ := asd (below_step (skB HB.out) hb); clear HB; have HB := n0_; clear n0_; (try clear hb); (try clear hb2); (try clear hk); (try clear hi)) | ((with_reducible refine gate_callee (f := 14) rfl ?_); refine goesL_ (some 32) rfl rfl Try.func14 (by kernel_rfl) rfl #[.slice A0 l0.length c0, .int .i64 a1, .int .i64 a2] rfl ags ?_; (with_reducible refine (event_Ahead.calls _ _ l0 a1 a2 t228 t229 _ ?side1 ?side2 A7.out).mono ?_); (case side1 => exact skC (Kd.C_below HR0.out HB.out)); (case side2 => exact HC0.out); rintro e w11 ⟨rfl, hb⟩; refine ⟨_, rfl, ?_⟩; have n0_ := asd (below_step (skB HB.out) hb); clear HB; have HB := n0_; clear n0_; (try clear hb); (try clear hb2); (try clear hk); (try clear hi)))
  (try simp only [Act.put, List.setIfInBounds_toArray, List.set_cons_zero, List.set_cons_succ])
  go_cut [42] (fun v42 wc => ∃ (kq : Nat) (x42_7 : Bool), v42 = .bool x42_7 ∧ Aside0 (larchlaw05_EventPlaces.j0 kq l0 x42_7 = some r) ∧ Aside0 (kq ≤ k) ∧ Aside0 (Below w.heap.size w wc))
  case first =>
   have H := HC8.out
   clear HC8
   by_cases c12 : (t226 != t228) = true
   ·
    rw [if_pos c12] at H
    have c12b0 : (t226 != t228) = true := c12
    (try (have c12b1 : decide (t226 = t228) = false := by simpa using c12))
    (try (have c12b2 : (t226 == t228) = false := by simpa using c12))
    (try (have c12b3 : ¬ (t226 = t228) := by simpa using c12))
    clear c12
    (first | rw [c12b0] | (simp only [i64_w, i32_w]; rw [c12b0]) | skip)
    have H' := asd H
    clear H
    go_wp2
    go_meet
    case rel => exact ⟨_, (true), rs, H', ⟨by first | omega | exact Nat.le_refl _⟩, ⟨skB HB.out⟩⟩
   ·
    rw [if_neg c12] at H
    have c12b0 : (t226 != t228) = false := by simpa using c12
    (try (have c12b1 : decide (t226 = t228) = true := by simpa using c12))
    (try (have c12b2 : (t226 == t228) = true := by simpa using c12))
    clear c12
    (first | rw [c12b0] | (simp only [i64_w, i32_w]; rw [c12b0]) | skip)
    have H' := asd H
    clear H
    go_wp2
    go_meet
    case rel => exact ⟨_, ((t227 != t229)), rs, H', ⟨by first | omega | exact Nat.le_refl _⟩, ⟨skB HB.out⟩⟩
  case rest =>
   clear HC8
   try clear c1
   try clear c2
   try clear p2
   try clear c5
   try clear c12
   try clear c12b0
   try clear c12b1
   try clear c12b2
   obtain ⟨kq, x42_7, rfl, HA, HJ7, HB⟩ := hcut
   cases kq with
   | zero => exact absurd HA.out (by simp [larchlaw05_EventPlaces.j0])
   | succ kj7 =>
    have H := HA.out
    clear HA
    simp only [larchlaw05_EventPlaces.j0] at H
    by_cases c13 : x42_7 = true
    ·
     subst c13
     have H1 : (none) = some r := by rw [if_pos rfl] at H; exact H
     clear H
     have H := H1
     clear H1
     exact absurd H (by simp)
    ·
     replace c13 := Bool.eq_false_iff.mpr c13
     subst c13
     have H1 : ((larchref05_Pending.f kj7 l0).bind fun bt230 => ((event_Pending.f kj7 l0).bind fun bt234 => ((larchlaw05_ints.f kj7 bt230.1 bt234.1).bind fun t238 => (if t238 = true then (larchlaw05_EventPlaces.j1 kj7 l0 (bt230.2 != bt234.2)) else (larchlaw05_EventPlaces.j1 kj7 l0 true))))) = some r := by rw [if_neg (show ¬ (false = true) by decide)] at H; exact H
     clear H
     have H := H1
     clear H1
     replace H := Option.bind_eq_some_iff.mp H
     obtain ⟨⟨t230, t231⟩, A140, H⟩ := H
     replace H : ((event_Pending.f kj7 l0).bind fun bt234 => ((larchlaw05_ints.f kj7 t230 bt234.1).bind fun t238 => (if t238 = true then (larchlaw05_EventPlaces.j1 kj7 l0 (t231 != bt234.2)) else (larchlaw05_EventPlaces.j1 kj7 l0 true)))) = some r := H
     have A14 := asd A140
     clear A140
     replace H := Option.bind_eq_some_iff.mp H
     obtain ⟨⟨t234, t235⟩, A150, H⟩ := H
     replace H : ((larchlaw05_ints.f kj7 t230 t234).bind fun t238 => (if t238 = true then (larchlaw05_EventPlaces.j1 kj7 l0 (t231 != t235)) else (larchlaw05_EventPlaces.j1 kj7 l0 true))) = some r := H
     have A15 := asd A150
     clear A150
     have HC16 := asd H
     clear H
     go_upto_region 9 with (first | ((with_reducible refine gate_callee (f := 21) rfl ?_); refine goesL_ (some 45) rfl rfl Try.func21 (by kernel_rfl) rfl #[.slice A0 l0.length c0] rfl ags ?_; (with_reducible refine (larchref05_Pending.calls kj7 _ _ l0 t230 t231 _ ?side1 ?side2 A14.out).mono ?_); (case side1 => exact skC (Kd.C_below HR0.out HB.out)); (case side2 => exact HC0.out); rintro e w17 ⟨v232, rfl, ho0, hb⟩; refine ⟨_, rfl, ?_⟩; have n0_ := asd (Kd.R_lower ho0 (below_size (skB HB.out))); have n1_ := asd (below_step (skB HB.out) hb); clear HB; have HO233 := n0_; have HB := n1_; clear n0_ n1_; (try clear hb); (try clear hb2); (try clear hk); (try clear hi); (try clear ho0)) | ((with_reducible refine gate_callee (f := 22) rfl ?_); refine goesL_ (some 50) rfl rfl Try.func22 (by kernel_rfl) rfl #[.slice A0 l0.length c0] rfl ags ?_; (with_reducible refine (event_Pending.calls kj7 _ _ l0 t234 t235 _ ?side1 ?side2 A15.out).mono ?_); (case side1 => exact skC (Kd.C_below HR0.out HB.out)); (case side2 => exact HC0.out); rintro e w18 ⟨v236, rfl, ho0, hb⟩; refine ⟨_, rfl, ?_⟩; have n0_ := asd (Kd.R_elder' (skR HO233.out) (Kd.R_base ho0) hb); have n1_ := asd (Kd.R_lower (Kd.R_new' ho0 (Kd.R_lt (skR HO233.out))) (below_size (skB HB.out))); have n2_ := asd (below_step (skB HB.out) hb); clear HO233; clear HB; have HO233 := n0_; have HO237 := n1_; have HB := n2_; clear n0_ n1_ n2_; (try clear hb); (try clear hb2); (try clear hk); (try clear hi); (try clear ho0)))
     (try simp only [Act.put, List.setIfInBounds_toArray, List.set_cons_zero, List.set_cons_succ])
     go_cut [61] (fun v61 wc => ∃ (kq : Nat) (x61_15 : Bool), v61 = .bool x61_15 ∧ Aside0 (larchlaw05_EventPlaces.j1 kq l0 x61_15 = some r) ∧ Aside0 (kq ≤ kj7) ∧ Aside0 (Below w.heap.size w wc))
     case first =>
      have H := HC16.out
      clear HC16
      replace H := Option.bind_eq_some_iff.mp H
      obtain ⟨t238, A190, H⟩ := H
      replace H : (if t238 = true then (larchlaw05_EventPlaces.j1 kj7 l0 (t231 != t235)) else (larchlaw05_EventPlaces.j1 kj7 l0 true)) = some r := H
      have A19 := asd A190
      clear A190
      by_cases c20 : t238 = true
      ·
       subst c20
       have H1 : (larchlaw05_EventPlaces.j1 kj7 l0 (t231 != t235)) = some r := by rw [if_pos rfl] at H; exact H
       clear H
       have H := H1
       clear H1
       have H' := asd H
       clear H
       obtain ⟨Ao21, co21, eo21⟩ := Kd.R_slice HO233.out
       subst eo21
       obtain ⟨Ao22, co22, eo22⟩ := Kd.R_slice HO237.out
       subst eo22
       go_wp2_with (first | ((with_reducible refine gate_callee (f := 23) rfl ?_); refine goesL_ (some 55) rfl rfl Try.func23 (by kernel_rfl) rfl #[.slice Ao21 t230.length co21, .slice Ao22 t234.length co22] rfl ags ?_; (with_reducible refine (larchlaw05_ints.calls kj7 _ _ t230 _ _ t234 true _ ?side1 ?side2 ?side3 ?side4 A19.out).mono ?_); (case side1 => exact skC (Kd.R_reads' HO233.out).2.2); (case side2 => exact (Kd.R_reads' HO233.out).2.1); (case side3 => exact skC (Kd.R_reads' HO237.out).2.2); (case side4 => exact (Kd.R_reads' HO237.out).2.1); rintro e w' ⟨rfl, ⟨nd, rfl⟩⟩; refine ⟨_, rfl, ?_⟩))
       go_meet
       case rel => exact ⟨_, ((t231 != t235)), rs, H', ⟨by have := HJ7.out; first | omega | exact Nat.le_refl _⟩, ⟨skB HB.out⟩⟩
      ·
       replace c20 := Bool.eq_false_iff.mpr c20
       subst c20
       have H1 : (larchlaw05_EventPlaces.j1 kj7 l0 true) = some r := by rw [if_neg (show ¬ (false = true) by decide)] at H; exact H
       clear H
       have H := H1
       clear H1
       have H' := asd H
       clear H
       obtain ⟨Ao23, co23, eo23⟩ := Kd.R_slice HO233.out
       subst eo23
       obtain ⟨Ao24, co24, eo24⟩ := Kd.R_slice HO237.out
       subst eo24
       go_wp2_with (first | ((with_reducible refine gate_callee (f := 23) rfl ?_); refine goesL_ (some 55) rfl rfl Try.func23 (by kernel_rfl) rfl #[.slice Ao23 t230.length co23, .slice Ao24 t234.length co24] rfl ags ?_; (with_reducible refine (larchlaw05_ints.calls kj7 _ _ t230 _ _ t234 false _ ?side1 ?side2 ?side3 ?side4 A19.out).mono ?_); (case side1 => exact skC (Kd.R_reads' HO233.out).2.2); (case side2 => exact (Kd.R_reads' HO233.out).2.1); (case side3 => exact skC (Kd.R_reads' HO237.out).2.2); (case side4 => exact (Kd.R_reads' HO237.out).2.1); rintro e w' ⟨rfl, ⟨nd, rfl⟩⟩; refine ⟨_, rfl, ?_⟩))
       go_meet
       case rel => exact ⟨_, (true), rs, H', ⟨by have := HJ7.out; first | omega | exact Nat.le_refl _⟩, ⟨skB HB.out⟩⟩
     case rest =>
      clear HC16
      try clear c1
      try clear c2
      try clear p2
      try clear c5
      try clear c12
      try clear c12b0
      try clear c12b1
      try clear c12b2
      try clear c13
      try clear c14
      try clear c20
      try clear c21
      try clear c22
      try clear c23
      try clear p2
      obtain ⟨kq, x61_15, rfl, HA, HJ15, HB⟩ := hcut
      cases kq with
      | zero => exact absurd HA.out (by simp [larchlaw05_EventPlaces.j1])
      | succ kj15 =>
       have H := HA.out
       clear HA
       simp only [larchlaw05_EventPlaces.j1] at H
       by_cases c25 : x61_15 = true
       ·
        subst c25
        have H1 : (none) = some r := by rw [if_pos rfl] at H; exact H
        clear H
        have H := H1
        clear H1
        exact absurd H (by simp)
       ·
        replace c25 := Bool.eq_false_iff.mpr c25
        subst c25
        have H1 : ((larchref05_Width.f kj15 l0).bind fun bt239 => ((event_Width.f kj15 l0).bind fun bt241 => ((larchref05_Row.f kj15 l0).bind fun bt243 => ((event_Row.f kj15 l0).bind fun bt245 => (if bt239.1 = bt241.1 then (if bt239.2 = bt241.2 then (if (bt243.1 == bt245.1) = true then (some (bt243.2 == bt245.2)) else (none)) else (none)) else (none)))))) = some r := by rw [if_neg (show ¬ (false = true) by decide)] at H; exact H
        clear H
        have H := H1
        clear H1
        replace H := Option.bind_eq_some_iff.mp H
        obtain ⟨⟨t239, t240⟩, A260, H⟩ := H
        replace H : ((event_Width.f kj15 l0).bind fun bt241 => ((larchref05_Row.f kj15 l0).bind fun bt243 => ((event_Row.f kj15 l0).bind fun bt245 => (if t239 = bt241.1 then (if t240 = bt241.2 then (if (bt243.1 == bt245.1) = true then (some (bt243.2 == bt245.2)) else (none)) else (none)) else (none))))) = some r := H
        have A26 := asd A260
        clear A260
        replace H := Option.bind_eq_some_iff.mp H
        obtain ⟨⟨t241, t242⟩, A270, H⟩ := H
        replace H : ((larchref05_Row.f kj15 l0).bind fun bt243 => ((event_Row.f kj15 l0).bind fun bt245 => (if t239 = t241 then (if t240 = t242 then (if (bt243.1 == bt245.1) = true then (some (bt243.2 == bt245.2)) else (none)) else (none)) else (none)))) = some r := H
        have A27 := asd A270
        clear A270
        replace H := Option.bind_eq_some_iff.mp H
        obtain ⟨⟨t243, t244⟩, A280, H⟩ := H
        replace H : ((event_Row.f kj15 l0).bind fun bt245 => (if t239 = t241 then (if t240 = t242 then (if (t243 == bt245.1) = true then (some (t244 == bt245.2)) else (none)) else (none)) else (none))) = some r := H
        have A28 := asd A280
        clear A280
        replace H := Option.bind_eq_some_iff.mp H
        obtain ⟨⟨t245, t246⟩, A290, H⟩ := H
        replace H : (if t239 = t241 then (if t240 = t242 then (if (t243 == t245) = true then (some (t244 == t246)) else (none)) else (none)) else (none)) = some r := H
        have A29 := asd A290
        clear A290
        by_cases c30 : t239 = t241
        ·
         rw [if_pos c30] at H
         have c30b0 : (t239 == t241) = true := beq_iff_eq.mpr c30
         have c30b1 : (t239 != t241) = false := bne_eq_false_iff_eq.mpr c30
         clear c30
         by_cases c31 : t240 = t242
         ·
          rw [if_pos c31] at H
          have c31b0 : (t240 == t242) = true := beq_iff_eq.mpr c31
          have c31b1 : (t240 != t242) = false := bne_eq_false_iff_eq.mpr c31
          clear c31
          by_cases c32 : (t243 == t245) = true
          ·
           rw [if_pos c32] at H
           have c32b0 : (t243 == t245) = true := c32
           (try (have c32b1 : decide (t243 = t245) = true := by simpa using c32))
           (try (have c32b2 : (t243 == t245) = true := by simpa using c32))
           clear c32
           obtain rfl := Option.some.inj H
           go_wp2_with (first | ((with_reducible refine gate_callee (f := 24) rfl ?_); refine goesL_ (some 64) rfl rfl Try.func24 (by kernel_rfl) rfl #[.slice A0 l0.length c0] rfl ags ?_; (with_reducible refine (larchref05_Width.calls kj15 _ _ l0 t239 t240 _ ?side1 ?side2 A26.out).mono ?_); (case side1 => exact skC (Kd.C_below HR0.out HB.out)); (case side2 => exact HC0.out); rintro e w33 ⟨rfl, hb⟩; refine ⟨_, rfl, ?_⟩; have n0_ := asd (below_step (skB HB.out) hb); clear HB; have HB := n0_; clear n0_; (try clear hb); (try clear hb2); (try clear hk); (try clear hi)) | ((with_reducible refine gate_callee (f := 25) rfl ?_); refine goesL_ (some 69) rfl rfl Try.func25 (by kernel_rfl) rfl #[.slice A0 l0.length c0] rfl ags ?_; (with_reducible refine (event_Width.calls kj15 _ _ l0 t241 t242 _ ?side1 ?side2 A27.out).mono ?_); (case side1 => exact skC (Kd.C_below HR0.out HB.out)); (case side2 => exact HC0.out); rintro e w34 ⟨rfl, hb⟩; refine ⟨_, rfl, ?_⟩; have n0_ := asd (below_step (skB HB.out) hb); clear HB; have HB := n0_; clear n0_; (try clear hb); (try clear hb2); (try clear hk); (try clear hi)) | ((with_reducible refine gate_callee (f := 26) rfl ?_); refine goesL_ (some 74) rfl rfl Try.func26 (by kernel_rfl) rfl #[.slice A0 l0.length c0] rfl ags ?_; (with_reducible refine (larchref05_Row.calls kj15 _ _ l0 t243 t244 _ ?side1 ?side2 A28.out).mono ?_); (case side1 => exact skC (Kd.C_below HR0.out HB.out)); (case side2 => exact HC0.out); rintro e w35 ⟨rfl, hb⟩; refine ⟨_, rfl, ?_⟩; have n0_ := asd (below_step (skB HB.out) hb); clear HB; have HB := n0_; clear n0_; (try clear hb); (try clear hb2); (try clear hk); (try clear hi)) | ((with_reducible refine gate_callee (f := 15) rfl ?_); refine goesL_ (some 79) rfl rfl Try.func15 (by kernel_rfl) rfl #[.slice A0 l0.length c0] rfl ags ?_; (with_reducible refine (event_Row.calls kj15 _ _ l0 t245 t246 _ ?side1 ?side2 A29.out).mono ?_); (case side1 => exact skC (Kd.C_below HR0.out HB.out)); (case side2 => exact HC0.out); rintro e w36 ⟨rfl, hb⟩; refine ⟨_, rfl, ?_⟩; have n0_ := asd (below_step (skB HB.out) hb); clear HB; have HB := n0_; clear n0_; (try clear hb); (try clear hb2); (try clear hk); (try clear hi)))
           go_ret
           exact ⟨re, skB HB.out⟩
          ·
           rw [if_neg c32] at H
           exact absurd H (by simp)
         ·
          rw [if_neg c31] at H
          exact absurd H (by simp)
        ·
         rw [if_neg c30] at H
         exact absurd H (by simp)
 ·
  replace c5 := Bool.eq_false_iff.mpr c5
  subst c5
  have H1 : (none) = some r := by rw [if_neg (show ¬ (false = true) by decide)] at H; exact H
  clear H
  have H := H1
  clear H1
  exact absurd H (by simp)
end Go.Proofs.Ytagdkmcgepidoaa.P
