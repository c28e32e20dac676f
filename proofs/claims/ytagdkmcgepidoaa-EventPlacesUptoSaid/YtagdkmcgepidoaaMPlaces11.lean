/- P.eventPlaces_holds, part 12 of 19: the contracts of the Go functions that the law calls, its own walk, and its plain law, for every input that the statement speaks of. -/
import Derived.Test.YtagdkmcgepidoaaMPlaces2
import Derived.Test.YtagdkmcgepidoaaMPlaces6
import Derived.Test.YtagdkmcgepidoaaMPlaces10
import Derived.Test.YtagdkmcgepidoaaMPlaces1
import Derived.Test.YtagdkmcgepidoaaMPlaces4
set_option linter.unusedVariables false
set_option linter.unusedSimpArgs false
/- F8 -/
namespace Go.Proofs.Ytagdkmcgepidoaa.P
open Go.RowKit Go.Proofs.YtagdkmcgepidoaaW.PrintWords Go.Proofs.YtagdkmcgepidoaaW.PrintLast Go.Proofs.YtagdkmcgepidoaaW.PrintMore
attribute [local go_sem] max2_int min2_int max_two min_two max_three min_three max_four min_four   -- for this text's walks alone
set_option linter.unusedVariables false
set_option linter.unusedSimpArgs false
def event_Calls.f (l0 : List (S67)) : Option ((List (S38)) × Int) := (event_Check.f l0).bind fun t107 => (if t107 = 0 then ((event_calls.f l0).bind fun t108 => (some (t108, 0))) else (some (([] : List (S38)), t107)))
set_option maxHeartbeats 8000000 in
set_option maxRecDepth 100000 in
theorem event_Calls.calls (A0 : Option Addr) (c0 : Nat) (l0 : List (S67)) (r1 : List (S38)) (r2 : Int) (w : World) (hr0 : Kd.C k67 w A0 l0.length l0) (hc0 : l0.length ≤ c0) (h : event_Calls.f l0 = some (r1, r2)) :
  Calls Try.prog 13 #[.slice A0 l0.length c0] w fun e w' => ∃ v0_ : Value, e = .returned (.tuple #[v0_, .int .i64 r2]) ∧ Kd.S k38 38 w' w.heap.size (fun _ => True) v0_ r1 ∧ Below w.heap.size w w' := by
 have HR0 := asd hr0
 have HC0 := asd hc0
 clear hr0 hc0
 have HB := asd (Below.refl w.heap.size w)
 have H : ((event_Check.f l0).bind fun t107 => (if t107 = 0 then ((event_calls.f l0).bind fun t108 => (some (t108, 0))) else (some (([] : List (S38)), t107)))) = some (r1, r2) := h
 clear h
 replace H := Option.bind_eq_some_iff.mp H
 obtain ⟨t107, A20, H⟩ := H
 replace H : (if t107 = 0 then ((event_calls.f l0).bind fun t108 => (some (t108, 0))) else (some (([] : List (S38)), t107))) = some (r1, r2) := H
 have A2 := asd A20
 clear A20
 by_cases c3 : t107 = 0
 ·
  rw [if_pos c3] at H
  have c3b0 : (t107 == 0) = true := beq_iff_eq.mpr c3
  have c3b1 : (t107 != 0) = false := bne_eq_false_iff_eq.mpr c3
  clear c3
  replace H := Option.bind_eq_some_iff.mp H
  obtain ⟨t108, A40, H⟩ := H
  replace H : (some (t108, 0)) = some (r1, r2) := H
  have A4 := asd A40
  clear A40
  simp only [Option.some.injEq, Prod.mk.injEq] at H
  obtain ⟨rfl, rfl⟩ := H
  go_enter Try.func13, Try.ntmps13
  go_wp2_with (first | ((with_reducible refine gate_callee (f := 30) rfl ?_); refine goesL_ (some 6) rfl rfl Try.func30 (by kernel_rfl) rfl #[.slice A0 l0.length c0] rfl ags ?_; (with_reducible refine (event_Check.calls _ _ l0 t107 _ ?side1 ?side2 A2.out).mono ?_); (case side1 => exact skC HR0.out); (case side2 => exact HC0.out); rintro e w5 ⟨rfl, hb⟩; refine ⟨_, rfl, ?_⟩; have n0_ := asd (below_step (skB HB.out) hb); clear HB; have HB := n0_; clear n0_; (try clear hb); (try clear hb2); (try clear hk); (try clear hi)) | ((with_reducible refine gate_callee (f := 46) rfl ?_); refine goesL_ (some 11) rfl rfl Try.func46 (by kernel_rfl) rfl #[.slice A0 l0.length c0] rfl ags ?_; (with_reducible refine (event_calls.calls _ _ l0 t108 _ ?side1 ?side2 A4.out).mono ?_); (case side1 => exact skC (Kd.C_below HR0.out HB.out)); (case side2 => exact HC0.out); rintro e w6 ⟨v109, rfl, ho0, hb⟩; refine ⟨_, rfl, ?_⟩; have n0_ := asd (Kd.S_lower ho0 (below_size (skB HB.out))); have n1_ := asd (below_step (skB HB.out) hb); clear HB; have HO110 := n0_; have HB := n1_; clear n0_ n1_; (try clear hb); (try clear hb2); (try clear hk); (try clear hi); (try clear ho0)))
  go_ret2
  exact ⟨_, re, by (with_reducible repeat (first | apply Kd.S_alloc | apply Kd.S_drewN | apply Kd.S_drew)); exact HO110.out, skB HB.out⟩
 ·
  rw [if_neg c3] at H
  have c3b0 : (t107 == 0) = false := beq_eq_false_iff_ne.mpr c3
  have c3b1 : (t107 != 0) = true := bne_iff_ne.mpr c3
  simp only [Option.some.injEq, Prod.mk.injEq] at H
  obtain ⟨rfl, rfl⟩ := H
  go_enter Try.func13, Try.ntmps13
  go_wp2_with (first | ((with_reducible refine gate_callee (f := 30) rfl ?_); refine goesL_ (some 6) rfl rfl Try.func30 (by kernel_rfl) rfl #[.slice A0 l0.length c0] rfl ags ?_; (with_reducible refine (event_Check.calls _ _ l0 t107 _ ?side1 ?side2 A2.out).mono ?_); (case side1 => exact skC HR0.out); (case side2 => exact HC0.out); rintro e w7 ⟨rfl, hb⟩; refine ⟨_, rfl, ?_⟩; have n0_ := asd (below_step (skB HB.out) hb); clear HB; have HB := n0_; clear n0_; (try clear hb); (try clear hb2); (try clear hk); (try clear hi)))
  go_ret2
  exact ⟨_, re, by first | exact Kd.S_nil _ _ _ _ _ | exact Kd.N_nil _ _ _ _ _ | exact Kd.V_nil _ _ _ _ _ | exact Kd.Q_nil _ _ _ _ _ | exact Kd.R_nil _ _ _ _ _, skB HB.out⟩
end Go.Proofs.Ytagdkmcgepidoaa.P
/- F10 -/
namespace Go.Proofs.Ytagdkmcgepidoaa.P
open Go.RowKit Go.Proofs.YtagdkmcgepidoaaW.PrintWords Go.Proofs.YtagdkmcgepidoaaW.PrintLast Go.Proofs.YtagdkmcgepidoaaW.PrintMore
attribute [local go_sem] max2_int min2_int max_two min_two max_three min_three max_four min_four   -- for this text's walks alone
set_option linter.unusedVariables false
set_option linter.unusedSimpArgs false
def event_Ahead.f (l0 : List (S67)) (a1 : Int) (a2 : Int) : Option (Bool × Int) := (event_Calls.f l0).bind fun bt113 => (if bt113.2 = 0 then (if a1 < 0 then (some (false, 1)) else (if a2 < 0 then (some (false, 1)) else (if a1 ≥ (bt113.1.length : Int) then (some (false, 1)) else (if a2 ≥ (bt113.1.length : Int) then (some (false, 1)) else (if 0 ≤ a1 then (if a1 < (bt113.1.length : Int) then (if 0 ≤ a2 then (if a2 < (bt113.1.length : Int) then ((event_ahead.f ((J38 bt113.1 a1).f0) ((J38 bt113.1 a1).f1.f0) ((J38 bt113.1 a1).f1.f1) ((J38 bt113.1 a1).f1.f2) ((J38 bt113.1 a1).f1.f3) ((J38 bt113.1 a1).f2.f0) ((J38 bt113.1 a1).f2.f1) ((J38 bt113.1 a1).f2.f2) ((J38 bt113.1 a1).f2.f3) ((J38 bt113.1 a1).f3) ((J38 bt113.1 a1).f4) ((J38 bt113.1 a2).f0) ((J38 bt113.1 a2).f1.f0) ((J38 bt113.1 a2).f1.f1) ((J38 bt113.1 a2).f1.f2) ((J38 bt113.1 a2).f1.f3) ((J38 bt113.1 a2).f2.f0) ((J38 bt113.1 a2).f2.f1) ((J38 bt113.1 a2).f2.f2) ((J38 bt113.1 a2).f2.f3) ((J38 bt113.1 a2).f3) ((J38 bt113.1 a2).f4)).bind fun t119 => (some (t119, 0))) else (none)) else (none)) else (none)) else (none)))))) else (some (false, bt113.2)))
def event_Ahead.T6 : Bool × List (List Nat × List Nat) := (true, [([], []), ([], []), ([0, 1], [0, 1]), ([2], [2]), ([], []), ([], []), ([4, 5], [4, 5]), ([6], [6]), ([3, 7], [3, 7]), ([8, 8, 0, 1, 2, 3, 4, 5, 6, 7, 8], [8]), ([9, 0, 1, 2, 3, 4, 5, 6, 7, 8, 9], [])])
def event_Ahead.B6 : List Nat := [0, 0, 3, 7, 0, 0, 48, 112, 255, 511, 1023]
theorem event_Ahead.tab6 : rtab .any (opsOf Try.f14 6) = event_Ahead.T6 := by kernel_rfl
theorem event_Ahead.bits6 : waitsOk event_Ahead.T6.2 event_Ahead.B6 = true := by kernel_rfl
set_option maxHeartbeats 8000000 in
set_option maxRecDepth 100000 in
theorem event_Ahead.calls (A0 : Option Addr) (c0 : Nat) (l0 : List (S67)) (a1 : Int) (a2 : Int) (r1 : Bool) (r2 : Int) (w : World) (hr0 : Kd.C k67 w A0 l0.length l0) (hc0 : l0.length ≤ c0) (h : event_Ahead.f l0 a1 a2 = some (r1, r2)) :
  Calls Try.prog 14 #[.slice A0 l0.length c0, .int .i64 a1, .int .i64 a2] w fun e w' => e = .returned (.tuple #[.bool r1, .int .i64 r2]) ∧ Below w.heap.size w w' := by
 have hu38 := Try.underlying38
 have HR0 := asd hr0
 have HC0 := asd hc0
 clear hr0 hc0
 have HB := asd (Below.refl w.heap.size w)
 have H : ((event_Calls.f l0).bind fun bt113 => (if bt113.2 = 0 then (if a1 < 0 then (some (false, 1)) else (if a2 < 0 then (some (false, 1)) else (if a1 ≥ (bt113.1.length : Int) then (some (false, 1)) else (if a2 ≥ (bt113.1.length : Int) then (some (false, 1)) else (if 0 ≤ a1 then (if a1 < (bt113.1.length : Int) then (if 0 ≤ a2 then (if a2 < (bt113.1.length : Int) then ((event_ahead.f ((J38 bt113.1 a1).f0) ((J38 bt113.1 a1).f1.f0) ((J38 bt113.1 a1).f1.f1) ((J38 bt113.1 a1).f1.f2) ((J38 bt113.1 a1).f1.f3) ((J38 bt113.1 a1).f2.f0) ((J38 bt113.1 a1).f2.f1) ((J38 bt113.1 a1).f2.f2) ((J38 bt113.1 a1).f2.f3) ((J38 bt113.1 a1).f3) ((J38 bt113.1 a1).f4) ((J38 bt113.1 a2).f0) ((J38 bt113.1 a2).f1.f0) ((J38 bt113.1 a2).f1.f1) ((J38 bt113.1 a2).f1.f2) ((J38 bt113.1 a2).f1.f3) ((J38 bt113.1 a2).f2.f0) ((J38 bt113.1 a2).f2.f1) ((J38 bt113.1 a2).f2.f2) ((J38 bt113.1 a2).f2.f3) ((J38 bt113.1 a2).f3) ((J38 bt113.1 a2).f4)).bind fun t119 => (some (t119, 0))) else (none)) else (none)) else (none)) else (none)))))) else (some (false, bt113.2)))) = some (r1, r2) := h
 clear h
 replace H := Option.bind_eq_some_iff.mp H
 obtain ⟨⟨t113, t114⟩, A40, H⟩ := H
 replace H : (if t114 = 0 then (if a1 < 0 then (some (false, 1)) else (if a2 < 0 then (some (false, 1)) else (if a1 ≥ (t113.length : Int) then (some (false, 1)) else (if a2 ≥ (t113.length : Int) then (some (false, 1)) else (if 0 ≤ a1 then (if a1 < (t113.length : Int) then (if 0 ≤ a2 then (if a2 < (t113.length : Int) then ((event_ahead.f ((J38 t113 a1).f0) ((J38 t113 a1).f1.f0) ((J38 t113 a1).f1.f1) ((J38 t113 a1).f1.f2) ((J38 t113 a1).f1.f3) ((J38 t113 a1).f2.f0) ((J38 t113 a1).f2.f1) ((J38 t113 a1).f2.f2) ((J38 t113 a1).f2.f3) ((J38 t113 a1).f3) ((J38 t113 a1).f4) ((J38 t113 a2).f0) ((J38 t113 a2).f1.f0) ((J38 t113 a2).f1.f1) ((J38 t113 a2).f1.f2) ((J38 t113 a2).f1.f3) ((J38 t113 a2).f2.f0) ((J38 t113 a2).f2.f1) ((J38 t113 a2).f2.f2) ((J38 t113 a2).f2.f3) ((J38 t113 a2).f3) ((J38 t113 a2).f4)).bind fun t119 => (some (t119, 0))) else (none)) else (none)) else (none)) else (none)))))) else (some (false, t114))) = some (r1, r2) := H
 have A4 := asd A40
 clear A40
 by_cases c5 : t114 = 0
 ·
  rw [if_pos c5] at H
  have c5b0 : (t114 == 0) = true := beq_iff_eq.mpr c5
  have c5b1 : (t114 != 0) = false := bne_eq_false_iff_eq.mpr c5
  clear c5
  by_cases c6 : a1 < 0
  ·
   rw [if_pos c6] at H
   have c6b0 : decide (a1 < 0) = true := decide_eq_true c6
   clear c6
   simp only [Option.some.injEq, Prod.mk.injEq] at H
   obtain ⟨rfl, rfl⟩ := H
   go_enter Try.func14, Try.ntmps14
   go_wp2_with (first | ((with_reducible refine gate_callee (f := 13) rfl ?_); refine goesL_ (some 12) rfl rfl Try.func13 (by kernel_rfl) rfl #[.slice A0 l0.length c0] rfl ags ?_; (with_reducible refine (event_Calls.calls _ _ l0 t113 t114 _ ?side1 ?side2 A4.out).mono ?_); (case side1 => exact skC HR0.out); (case side2 => exact HC0.out); rintro e w7 ⟨v115, rfl, ho0, hb⟩; refine ⟨_, rfl, ?_⟩; have n0_ := asd (Kd.S_lower ho0 (below_size (skB HB.out))); have n1_ := asd (below_step (skB HB.out) hb); clear HB; have HO116 := n0_; have HB := n1_; clear n0_ n1_; (try clear hb); (try clear hb2); (try clear hk); (try clear hi); (try clear ho0)))
   go_ret2
   exact ⟨re, skB HB.out⟩
  ·
   rw [if_neg c6] at H
   have c6b0 : decide (a1 < 0) = false := decide_eq_false c6
   clear c6
   by_cases c8 : a2 < 0
   ·
    rw [if_pos c8] at H
    have c8b0 : decide (a2 < 0) = true := decide_eq_true c8
    clear c8
    simp only [Option.some.injEq, Prod.mk.injEq] at H
    obtain ⟨rfl, rfl⟩ := H
    go_enter Try.func14, Try.ntmps14
    go_wp2_with (first | ((with_reducible refine gate_callee (f := 13) rfl ?_); refine goesL_ (some 12) rfl rfl Try.func13 (by kernel_rfl) rfl #[.slice A0 l0.length c0] rfl ags ?_; (with_reducible refine (event_Calls.calls _ _ l0 t113 t114 _ ?side1 ?side2 A4.out).mono ?_); (case side1 => exact skC HR0.out); (case side2 => exact HC0.out); rintro e w9 ⟨v115, rfl, ho0, hb⟩; refine ⟨_, rfl, ?_⟩; have n0_ := asd (Kd.S_lower ho0 (below_size (skB HB.out))); have n1_ := asd (below_step (skB HB.out) hb); clear HB; have HO116 := n0_; have HB := n1_; clear n0_ n1_; (try clear hb); (try clear hb2); (try clear hk); (try clear hi); (try clear ho0)))
    go_ret2
    exact ⟨re, skB HB.out⟩
   ·
    rw [if_neg c8] at H
    have c8b0 : decide (a2 < 0) = false := decide_eq_false c8
    clear c8
    by_cases c10 : a1 ≥ (t113.length : Int)
    ·
     rw [if_pos c10] at H
     have c10b0 : decide ((t113.length : Int) ≤ a1) = true := decide_eq_true c10
     clear c10
     simp only [Option.some.injEq, Prod.mk.injEq] at H
     obtain ⟨rfl, rfl⟩ := H
     go_enter Try.func14, Try.ntmps14
     go_wp2_with (first | ((with_reducible refine gate_callee (f := 13) rfl ?_); refine goesL_ (some 12) rfl rfl Try.func13 (by kernel_rfl) rfl #[.slice A0 l0.length c0] rfl ags ?_; (with_reducible refine (event_Calls.calls _ _ l0 t113 t114 _ ?side1 ?side2 A4.out).mono ?_); (case side1 => exact skC HR0.out); (case side2 => exact HC0.out); rintro e w11 ⟨v115, rfl, ho0, hb⟩; refine ⟨_, rfl, ?_⟩; have n0_ := asd (Kd.S_lower ho0 (below_size (skB HB.out))); have n1_ := asd (below_step (skB HB.out) hb); clear HB; have HO116 := n0_; have HB := n1_; clear n0_ n1_; (try clear hb); (try clear hb2); (try clear hk); (try clear hi); (try clear ho0); obtain ⟨Ao12, co12, eo12⟩ := Kd.S_slice HO116.out; subst eo12))
     go_ret2
     exact ⟨re, skB HB.out⟩
    ·
     rw [if_neg c10] at H
     have c10b0 : decide ((t113.length : Int) ≤ a1) = false := decide_eq_false c10
     clear c10
     by_cases c13 : a2 ≥ (t113.length : Int)
     ·
      rw [if_pos c13] at H
      have c13b0 : decide ((t113.length : Int) ≤ a2) = true := decide_eq_true c13
      clear c13
      simp only [Option.some.injEq, Prod.mk.injEq] at H
      obtain ⟨rfl, rfl⟩ := H
      go_enter Try.func14, Try.ntmps14
      go_wp2_with (first | ((with_reducible refine gate_callee (f := 13) rfl ?_); refine goesL_ (some 12) rfl rfl Try.func13 (by kernel_rfl) rfl #[.slice A0 l0.length c0] rfl ags ?_; (with_reducible refine (event_Calls.calls _ _ l0 t113 t114 _ ?side1 ?side2 A4.out).mono ?_); (case side1 => exact skC HR0.out); (case side2 => exact HC0.out); rintro e w14 ⟨v115, rfl, ho0, hb⟩; refine ⟨_, rfl, ?_⟩; have n0_ := asd (Kd.S_lower ho0 (below_size (skB HB.out))); have n1_ := asd (below_step (skB HB.out) hb); clear HB; have HO116 := n0_; have HB := n1_; clear n0_ n1_; (try clear hb); (try clear hb2); (try clear hk); (try clear hi); (try clear ho0); obtain ⟨Ao15, co15, eo15⟩ := Kd.S_slice HO116.out; subst eo15))
      go_ret2
      exact ⟨re, skB HB.out⟩
     ·
      rw [if_neg c13] at H
      have c13b0 : decide ((t113.length : Int) ≤ a2) = false := decide_eq_false c13
      clear c13
      by_cases c16 : 0 ≤ a1
      ·
       rw [if_pos c16] at H
       have c16b0 : decide (0 ≤ a1) = true := decide_eq_true c16
       clear c16
       by_cases c17 : a1 < (t113.length : Int)
       ·
        rw [if_pos c17] at H
        have c17b0 : decide (a1 < (t113.length : Int)) = true := decide_eq_true c17
        clear c17
        by_cases c18 : 0 ≤ a2
        ·
         rw [if_pos c18] at H
         have c18b0 : decide (0 ≤ a2) = true := decide_eq_true c18
         clear c18
         by_cases c19 : a2 < (t113.length : Int)
         ·
          rw [if_pos c19] at H
          have c19b0 : decide (a2 < (t113.length : Int)) = true := decide_eq_true c19
          clear c19
          replace H := Option.bind_eq_some_iff.mp H
          obtain ⟨t119, A200, H⟩ := H
          replace H : (some (t119, 0)) = some (r1, r2) := H
          have A20 := asd A200
          clear A200
          simp only [Option.some.injEq, Prod.mk.injEq] at H
          obtain ⟨rfl, rfl⟩ := H
          go_enter Try.func14, Try.ntmps14
          try go_wp2_with (first | ((with_reducible refine gate_callee (f := 13) rfl ?_); refine goesL_ (some 12) rfl rfl Try.func13 (by kernel_rfl) rfl #[.slice A0 l0.length c0] rfl ags ?_; (with_reducible refine (event_Calls.calls _ _ l0 t113 t114 _ ?side1 ?side2 A4.out).mono ?_); (case side1 => exact skC HR0.out); (case side2 => exact HC0.out); rintro e w21 ⟨v115, rfl, ho0, hb⟩; refine ⟨_, rfl, ?_⟩; have n0_ := asd (Kd.S_lower ho0 (below_size (skB HB.out))); have n1_ := asd (below_step (skB HB.out) hb); clear HB; have HO116 := n0_; have HB := n1_; clear n0_ n1_; (try clear hb); (try clear hb2); (try clear hk); (try clear hi); (try clear ho0); obtain ⟨Ao22, co22, eo22⟩ := Kd.S_slice HO116.out; subst eo22))
          have n0_ := asd (Kd.S_drew HO116.out)
          have n1_ := asd (below_drew1 HB.out)
          clear HO116
          clear HB
          have HO116 := n0_
          have HB := n1_
          clear n0_ n1_
          have p117 : 0 ≤ (a1 : Int) := dt
          have q117 : a1 < (t113.length : Int) := dt
          obtain ⟨ad117, A117_8, c117_8, e117, hx117_0, hx117_1, hx117_2, hx117_3, hx117_4, hx117_5, hx117_6, hx117_7, hx117_8, hx117_9, hx117_10, hl117_8, hi117_8⟩ := at_T38 (Kd.S_reads' HO116.out).2.2 a1 p117 q117
          cases e117
          obtain ⟨ce117, hce117, hMe117, hcc117⟩ := Kd.S_get HO116.out z38 a1 p117 (by first | exact q117 | exact dt | (have e_ := (Kd.S_reads' HO116.out).1; omega))
          obtain ⟨ve117_8, rfl, ge117_8⟩ := k38_openM hMe117
          have hv117_8 := hcc117 8 _ rfl
          rw [add_field _ _ 8 (by omega)] at hv117_8
          replace hv117_8 := Option.some.inj (hv117_8.symm.trans hx117_8)
          rw [hv117_8] at ge117_8
          have HL117_8 := asd (show Kd.R k70 70 _ _ _ _ ((J38 t113 a1).f2.f3) from ge117_8)
          clear hv117_8 ge117_8
          clear hcc117 hce117
          have HR117_8 := asd hi117_8
          have HC117_8 := asd hl117_8
          clear hi117_8 hl117_8
          replace p117 := eq_true p117
          replace q117 := eq_true q117
          have p118 : 0 ≤ (a2 : Int) := dt
          have q118 : a2 < (t113.length : Int) := dt
          obtain ⟨ad118, A118_8, c118_8, e118, hx118_0, hx118_1, hx118_2, hx118_3, hx118_4, hx118_5, hx118_6, hx118_7, hx118_8, hx118_9, hx118_10, hl118_8, hi118_8⟩ := at_T38 (Kd.S_reads' HO116.out).2.2 a2 p118 q118
          obtain rfl : ad117 = ad118 := (by injection e118)
          obtain ⟨ce118, hce118, hMe118, hcc118⟩ := Kd.S_get HO116.out z38 a2 p118 (by first | exact q118 | exact dt | (have e_ := (Kd.S_reads' HO116.out).1; omega))
          obtain ⟨ve118_8, rfl, ge118_8⟩ := k38_openM hMe118
          have hv118_8 := hcc118 8 _ rfl
          rw [add_field _ _ 8 (by omega)] at hv118_8
          replace hv118_8 := Option.some.inj (hv118_8.symm.trans hx118_8)
          rw [hv118_8] at ge118_8
          have HL118_8 := asd (show Kd.R k70 70 _ _ _ _ ((J38 t113 a2).f2.f3) from ge118_8)
          clear hv118_8 ge118_8
          clear hcc118 hce118
          have HR118_8 := asd hi118_8
          have HC118_8 := asd hl118_8
          clear hi118_8 hl118_8
          replace p118 := eq_true p118
          replace q118 := eq_true q118
          refine start_ (n := 11) (S := fun w' => w'.cell? (ad117.add ((a1).toNat * 11)) = some (.int .i64 ((J38 t113 a1).f0)) ∧ w'.cell? ⟨(ad117.add ((a1).toNat * 11)).block, (ad117.add ((a1).toNat * 11)).off + 1, none⟩ = some (.int .i64 ((J38 t113 a1).f1.f0)) ∧ w'.cell? ⟨(ad117.add ((a1).toNat * 11)).block, (ad117.add ((a1).toNat * 11)).off + 2, none⟩ = some (.int .i64 ((J38 t113 a1).f1.f1)) ∧ w'.cell? ⟨(ad117.add ((a1).toNat * 11)).block, (ad117.add ((a1).toNat * 11)).off + 3, none⟩ = some (.int .i64 ((J38 t113 a1).f1.f2)) ∧ w'.cell? ⟨(ad117.add ((a1).toNat * 11)).block, (ad117.add ((a1).toNat * 11)).off + 4, none⟩ = some (.int .i64 ((J38 t113 a1).f1.f3)) ∧ w'.cell? ⟨(ad117.add ((a1).toNat * 11)).block, (ad117.add ((a1).toNat * 11)).off + 5, none⟩ = some (.bool ((J38 t113 a1).f2.f0)) ∧ w'.cell? ⟨(ad117.add ((a1).toNat * 11)).block, (ad117.add ((a1).toNat * 11)).off + 6, none⟩ = some (.int .i64 ((J38 t113 a1).f2.f1)) ∧ w'.cell? ⟨(ad117.add ((a1).toNat * 11)).block, (ad117.add ((a1).toNat * 11)).off + 7, none⟩ = some (.int .i64 ((J38 t113 a1).f2.f2)) ∧ w'.cell? ⟨(ad117.add ((a1).toNat * 11)).block, (ad117.add ((a1).toNat * 11)).off + 8, none⟩ = some (.slice A117_8 ((J38 t113 a1).f2.f3).length c117_8) ∧ w'.cell? ⟨(ad117.add ((a1).toNat * 11)).block, (ad117.add ((a1).toNat * 11)).off + 9, none⟩ = some (.int .i64 ((J38 t113 a1).f3)) ∧ w'.cell? ⟨(ad117.add ((a1).toNat * 11)).block, (ad117.add ((a1).toNat * 11)).off + 10, none⟩ = some (.int .i64 ((J38 t113 a1).f4)) ∧ w'.cell? (ad117.add ((a2).toNat * 11)) = some (.int .i64 ((J38 t113 a2).f0)) ∧ w'.cell? ⟨(ad117.add ((a2).toNat * 11)).block, (ad117.add ((a2).toNat * 11)).off + 1, none⟩ = some (.int .i64 ((J38 t113 a2).f1.f0)) ∧ w'.cell? ⟨(ad117.add ((a2).toNat * 11)).block, (ad117.add ((a2).toNat * 11)).off + 2, none⟩ = some (.int .i64 ((J38 t113 a2).f1.f1)) ∧ w'.cell? ⟨(ad117.add ((a2).toNat * 11)).block, (ad117.add ((a2).toNat * 11)).off + 3, none⟩ = some (.int .i64 ((J38 t113 a2).f1.f2)) ∧ w'.cell? ⟨(ad117.add ((a2).toNat * 11)).block, (ad117.add ((a2).toNat * 11)).off + 4, none⟩ = some (.int .i64 ((J38 t113 a2).f1.f3)) ∧ w'.cell? ⟨(ad117.add ((a2).toNat * 11)).block, (ad117.add ((a2).toNat * 11)).off + 5, none⟩ = some (.bool ((J38 t113 a2).f2.f0)) ∧ w'.cell? ⟨(ad117.add ((a2).toNat * 11)).block, (ad117.add ((a2).toNat * 11)).off + 6, none⟩ = some (.int .i64 ((J38 t113 a2).f2.f1)) ∧ w'.cell? ⟨(ad117.add ((a2).toNat * 11)).block, (ad117.add ((a2).toNat * 11)).off + 7, none⟩ = some (.int .i64 ((J38 t113 a2).f2.f2)) ∧ w'.cell? ⟨(ad117.add ((a2).toNat * 11)).block, (ad117.add ((a2).toNat * 11)).off + 8, none⟩ = some (.slice A118_8 ((J38 t113 a2).f2.f3).length c118_8) ∧ w'.cell? ⟨(ad117.add ((a2).toNat * 11)).block, (ad117.add ((a2).toNat * 11)).off + 9, none⟩ = some (.int .i64 ((J38 t113 a2).f3)) ∧ w'.cell? ⟨(ad117.add ((a2).toNat * 11)).block, (ad117.add ((a2).toNat * 11)).off + 10, none⟩ = some (.int .i64 ((J38 t113 a2).f4))) (ds := []) #[false,false,false,false,false,false,false,false,false,false,false] (by kernel_rfl) rfl rfl ⟨hx117_0, hx117_1, hx117_2, hx117_3, hx117_4, hx117_5, hx117_6, hx117_7, hx117_8, hx117_9, hx117_10, hx118_0, hx118_1, hx118_2, hx118_3, hx118_4, hx118_5, hx118_6, hx118_7, hx118_8, hx118_9, hx118_10⟩ (fun hHeld => ?_); refine with_tabW event_Ahead.tab6 event_Ahead.bits6 (fun HT_ HW_ => ?_)
          generalize w21.drew = w23 at HO116 HB HL117_8 HL118_8 HR117_8 HR118_8 hx117_0 hx117_1 hx117_10 hx117_2 hx117_3 hx117_4 hx117_5 hx117_6 hx117_7 hx117_8 hx117_9 hx118_0 hx118_1 hx118_10 hx118_2 hx118_3 hx118_4 hx118_5 hx118_6 hx118_7 hx118_8 hx118_9 hHeld ⊢
          refine pure_ (i := 0) (N := some 36) (v := ?_) (a' := ?_) #[true,false,false,false,false,false,false,false,false,false,false] rfl rfl (aK HT_.out) (fun _ _ _ h => h) (Or.inl ⟨by rfl, ?_⟩) ?_ ?_
          rotate_left
          ·
           intro w'
           go_simp
           with_reducible rfl
          rotate_left
          ·
           simp only [Act.put, sp]
           rfl
          refine pure_ (i := 1) (N := some 37) (v := ?_) (a' := ?_) #[true,true,false,false,false,false,false,false,false,false,false] rfl rfl (aK HT_.out) (fun _ _ _ h => h) (Or.inl ⟨by rfl, ?_⟩) ?_ ?_
          rotate_left
          ·
           intro w'
           go_simp
           with_reducible rfl
          rotate_left
          ·
           simp only [Act.put, sp]
           rfl
          refine pure_ (i := 2) (N := some 38) (v := ?_) (a' := ?_) #[true,true,true,false,false,false,false,false,false,false,false] rfl rfl (aK HT_.out) (fun _ _ _ h => h) (Or.inl ⟨by rfl, ?_⟩) ?_ ?_
          rotate_left
          ·
           intro w'
           go_simp
           with_reducible rfl
          rotate_left
          ·
           simp only [Act.put, sp]
           rfl
          refine pure_ (i := 4) (N := some 40) (v := ?_) (a' := ?_) #[true,true,true,false,true,false,false,false,false,false,false] rfl rfl (aK HT_.out) (fun _ _ _ h => h) (Or.inl ⟨by rfl, ?_⟩) ?_ ?_
          rotate_left
          ·
           intro w'
           go_simp
           with_reducible rfl
          rotate_left
          ·
           simp only [Act.put, sp]
           rfl
          refine pure_ (i := 5) (N := some 41) (v := ?_) (a' := ?_) #[true,true,true,false,true,true,false,false,false,false,false] rfl rfl (aK HT_.out) (fun _ _ _ h => h) (Or.inl ⟨by rfl, ?_⟩) ?_ ?_
          rotate_left
          ·
           intro w'
           go_simp
           with_reducible rfl
          rotate_left
          ·
           simp only [Act.put, sp]
           rfl
          refine pure_ (i := 6) (N := some 42) (v := ?_) (a' := ?_) #[true,true,true,false,true,true,true,false,false,false,false] rfl rfl (aK HT_.out) (fun _ _ _ h => h) (Or.inl ⟨by rfl, ?_⟩) ?_ ?_
          rotate_left
          ·
           intro w'
           go_simp
           with_reducible rfl
          rotate_left
          ·
           simp only [Act.put, sp]
           rfl
          refine take_ (i := 3) (N := some 39) (v := ?_) (a' := ?_) #[true,true,true,true,true,true,true,false,false,false,false] rfl rfl (take_ofW HT_.out HW_.out (by kernel_rfl)) (fun _ _ _ h => h) (Or.inl ⟨by rfl, ?_⟩) hHeld ?_ ?_
          rotate_left
          ·
           rintro w' ⟨s0, s1, s2, s3, s4, s5, s6, s7, s8, s9, s10, s11, s12, s13, s14, s15, s16, s17, s18, s19, s20, s21⟩
           go_simp
           with_reducible rfl
          rotate_left
          ·
           simp only [Act.put, sp]
           rfl
          refine take_ (i := 7) (N := some 43) (v := ?_) (a' := ?_) #[true,true,true,true,true,true,true,true,false,false,false] rfl rfl (take_ofW HT_.out HW_.out (by kernel_rfl)) (fun _ _ _ h => h) (Or.inl ⟨by rfl, ?_⟩) hHeld ?_ ?_
          rotate_left
          ·
           rintro w' ⟨s0, s1, s2, s3, s4, s5, s6, s7, s8, s9, s10, s11, s12, s13, s14, s15, s16, s17, s18, s19, s20, s21⟩
           go_simp
           with_reducible rfl
          rotate_left
          ·
           simp only [Act.put, sp]
           rfl
          refine one_ (i := 8) (N := some 44) #[true,true,true,true,true,true,true,true,true,false,false] rfl rfl (one_of HT_.out (by kernel_rfl)) (by decide) (fun K hK => ?_)
          refine goes_ Try.func47 (by kernel_rfl) rfl #[.agg #[.int .i64 ((J38 t113 a1).f0), .int .i64 ((J38 t113 a1).f1.f0), .int .i64 ((J38 t113 a1).f1.f1), .int .i64 ((J38 t113 a1).f1.f2), .int .i64 ((J38 t113 a1).f1.f3), .bool ((J38 t113 a1).f2.f0), .int .i64 ((J38 t113 a1).f2.f1), .int .i64 ((J38 t113 a1).f2.f2), .slice A117_8 ((J38 t113 a1).f2.f3).length c117_8, .int .i64 ((J38 t113 a1).f3), .int .i64 ((J38 t113 a1).f4)], .agg #[.int .i64 ((J38 t113 a2).f0), .int .i64 ((J38 t113 a2).f1.f0), .int .i64 ((J38 t113 a2).f1.f1), .int .i64 ((J38 t113 a2).f1.f2), .int .i64 ((J38 t113 a2).f1.f3), .bool ((J38 t113 a2).f2.f0), .int .i64 ((J38 t113 a2).f2.f1), .int .i64 ((J38 t113 a2).f2.f2), .slice A118_8 ((J38 t113 a2).f2.f3).length c118_8, .int .i64 ((J38 t113 a2).f3), .int .i64 ((J38 t113 a2).f4)]] (by rfl) rfl rfl ags ?_
          with_reducible refine (event_ahead.calls ((J38 t113 a1).f0) ((J38 t113 a1).f1.f0) ((J38 t113 a1).f1.f1) ((J38 t113 a1).f1.f2) ((J38 t113 a1).f1.f3) ((J38 t113 a1).f2.f0) ((J38 t113 a1).f2.f1) ((J38 t113 a1).f2.f2) _ _ ((J38 t113 a1).f2.f3) ((J38 t113 a1).f3) ((J38 t113 a1).f4) ((J38 t113 a2).f0) ((J38 t113 a2).f1.f0) ((J38 t113 a2).f1.f1) ((J38 t113 a2).f1.f2) ((J38 t113 a2).f1.f3) ((J38 t113 a2).f2.f0) ((J38 t113 a2).f2.f1) ((J38 t113 a2).f2.f2) _ _ ((J38 t113 a2).f2.f3) ((J38 t113 a2).f3) ((J38 t113 a2).f4) t119 _ ?side1 ?side2 ?side3 ?side4 A20.out).mono ?_
          (case side1 => exact skC (by repeat (first | (with_reducible exact HR117_8.out) | (with_reducible refine Kd.C_alloc ?_ _) | (with_reducible refine Kd.C_drewN ?_ _) | (with_reducible refine Kd.C_drew ?_) | exact HR117_8.out)))
          (case side2 => exact HC117_8.out)
          (case side3 => exact skC (by repeat (first | (with_reducible exact HR118_8.out) | (with_reducible refine Kd.C_alloc ?_ _) | (with_reducible refine Kd.C_drewN ?_ _) | (with_reducible refine Kd.C_drew ?_) | exact HR118_8.out)))
          (case side4 => exact HC118_8.out)
          rintro e w24 ⟨rfl, hb⟩
          have HS0_ := (hb.cell (World.block_lt_of_cell? _ _ (hHeld.1))).trans (hHeld.1)
          have HS1_ := (hb.cell (World.block_lt_of_cell? _ _ (hHeld.2.1))).trans (hHeld.2.1)
          have HS2_ := (hb.cell (World.block_lt_of_cell? _ _ (hHeld.2.2.1))).trans (hHeld.2.2.1)
          have HS3_ := (hb.cell (World.block_lt_of_cell? _ _ (hHeld.2.2.2.1))).trans (hHeld.2.2.2.1)
          have HS4_ := (hb.cell (World.block_lt_of_cell? _ _ (hHeld.2.2.2.2.1))).trans (hHeld.2.2.2.2.1)
          have HS5_ := (hb.cell (World.block_lt_of_cell? _ _ (hHeld.2.2.2.2.2.1))).trans (hHeld.2.2.2.2.2.1)
          have HS6_ := (hb.cell (World.block_lt_of_cell? _ _ (hHeld.2.2.2.2.2.2.1))).trans (hHeld.2.2.2.2.2.2.1)
          have HS7_ := (hb.cell (World.block_lt_of_cell? _ _ (hHeld.2.2.2.2.2.2.2.1))).trans (hHeld.2.2.2.2.2.2.2.1)
          have HS8_ := (hb.cell (World.block_lt_of_cell? _ _ (hHeld.2.2.2.2.2.2.2.2.1))).trans (hHeld.2.2.2.2.2.2.2.2.1)
          have HS9_ := (hb.cell (World.block_lt_of_cell? _ _ (hHeld.2.2.2.2.2.2.2.2.2.1))).trans (hHeld.2.2.2.2.2.2.2.2.2.1)
          have HS10_ := (hb.cell (World.block_lt_of_cell? _ _ (hHeld.2.2.2.2.2.2.2.2.2.2.1))).trans (hHeld.2.2.2.2.2.2.2.2.2.2.1)
          have HS11_ := (hb.cell (World.block_lt_of_cell? _ _ (hHeld.2.2.2.2.2.2.2.2.2.2.2.1))).trans (hHeld.2.2.2.2.2.2.2.2.2.2.2.1)
          have HS12_ := (hb.cell (World.block_lt_of_cell? _ _ (hHeld.2.2.2.2.2.2.2.2.2.2.2.2.1))).trans (hHeld.2.2.2.2.2.2.2.2.2.2.2.2.1)
          have HS13_ := (hb.cell (World.block_lt_of_cell? _ _ (hHeld.2.2.2.2.2.2.2.2.2.2.2.2.2.1))).trans (hHeld.2.2.2.2.2.2.2.2.2.2.2.2.2.1)
          have HS14_ := (hb.cell (World.block_lt_of_cell? _ _ (hHeld.2.2.2.2.2.2.2.2.2.2.2.2.2.2.1))).trans (hHeld.2.2.2.2.2.2.2.2.2.2.2.2.2.2.1)
          have HS15_ := (hb.cell (World.block_lt_of_cell? _ _ (hHeld.2.2.2.2.2.2.2.2.2.2.2.2.2.2.2.1))).trans (hHeld.2.2.2.2.2.2.2.2.2.2.2.2.2.2.2.1)
          have HS16_ := (hb.cell (World.block_lt_of_cell? _ _ (hHeld.2.2.2.2.2.2.2.2.2.2.2.2.2.2.2.2.1))).trans (hHeld.2.2.2.2.2.2.2.2.2.2.2.2.2.2.2.2.1)
          have HS17_ := (hb.cell (World.block_lt_of_cell? _ _ (hHeld.2.2.2.2.2.2.2.2.2.2.2.2.2.2.2.2.2.1))).trans (hHeld.2.2.2.2.2.2.2.2.2.2.2.2.2.2.2.2.2.1)
          have HS18_ := (hb.cell (World.block_lt_of_cell? _ _ (hHeld.2.2.2.2.2.2.2.2.2.2.2.2.2.2.2.2.2.2.1))).trans (hHeld.2.2.2.2.2.2.2.2.2.2.2.2.2.2.2.2.2.2.1)
          have HS19_ := (hb.cell (World.block_lt_of_cell? _ _ (hHeld.2.2.2.2.2.2.2.2.2.2.2.2.2.2.2.2.2.2.2.1))).trans (hHeld.2.2.2.2.2.2.2.2.2.2.2.2.2.2.2.2.2.2.2.1)
          have HS20_ := (hb.cell (World.block_lt_of_cell? _ _ (hHeld.2.2.2.2.2.2.2.2.2.2.2.2.2.2.2.2.2.2.2.2.1))).trans (hHeld.2.2.2.2.2.2.2.2.2.2.2.2.2.2.2.2.2.2.2.2.1)
          have HS21_ := (hb.cell (World.block_lt_of_cell? _ _ (hHeld.2.2.2.2.2.2.2.2.2.2.2.2.2.2.2.2.2.2.2.2.2))).trans (hHeld.2.2.2.2.2.2.2.2.2.2.2.2.2.2.2.2.2.2.2.2.2)
          refine ⟨_, rfl, ?_⟩
          have n0_ := asd (Kd.S_below (by (with_reducible repeat (first | apply Kd.S_alloc | apply Kd.S_drewN | apply Kd.S_drew)); exact HO116.out) hb)
          have n1_ := asd (Kd.R_below (skR HL117_8.out) hb)
          have n2_ := asd (Kd.R_below (skR HL118_8.out) hb)
          have n3_ := asd (Kd.C_below (by repeat (first | (with_reducible exact HR117_8.out) | (with_reducible refine Kd.C_alloc ?_ _) | (with_reducible refine Kd.C_drewN ?_ _) | (with_reducible refine Kd.C_drew ?_) | exact HR117_8.out)) hb)
          have n4_ := asd (Kd.C_below (by repeat (first | (with_reducible exact HR118_8.out) | (with_reducible refine Kd.C_alloc ?_ _) | (with_reducible refine Kd.C_drewN ?_ _) | (with_reducible refine Kd.C_drew ?_) | exact HR118_8.out)) hb)
          have n5_ := asd (below_step (skB HB.out) hb)
          clear HO116
          clear HL117_8
          clear HL118_8
          clear HR117_8
          clear HR118_8
          clear HB
          have HO116 := n0_
          have HL117_8 := n1_
          have HL118_8 := n2_
          have HR117_8 := n3_
          have HR118_8 := n4_
          have HB := n5_
          clear n0_ n1_ n2_ n3_ n4_ n5_
          (try clear hb)
          (try clear hb2)
          (try clear hk)
          (try clear hi)
          refine hK.out _ _ ⟨HS0_, HS1_, HS2_, HS3_, HS4_, HS5_, HS6_, HS7_, HS8_, HS9_, HS10_, HS11_, HS12_, HS13_, HS14_, HS15_, HS16_, HS17_, HS18_, HS19_, HS20_, HS21_⟩ (fun hHeld => ?_)
          clear hK K
          refine norm_ (a' := ?_) ?_ ?_
          rotate_left
          ·
           show Act.put _ (some 44) _ = _
           simp only [Act.put, sp]
           rfl
          refine pure_ (i := 9) (N := some 6) (v := ?_) (a' := ?_) #[true,true,true,true,true,true,true,true,true,true,false] rfl rfl (aK HT_.out) (fun _ _ _ h => h) (Or.inl ⟨by rfl, ?_⟩) ?_ ?_
          rotate_left
          ·
           intro w'
           go_simp
           with_reducible rfl
          rotate_left
          ·
           simp only [Act.put, sp]
           rfl
          refine pure_ (i := 10) (N := some 7) (v := ?_) (a' := ?_) #[true,true,true,true,true,true,true,true,true,true,true] rfl rfl (aK HT_.out) (fun _ _ _ h => h) (Or.inl ⟨by rfl, ?_⟩) ?_ ?_
          rotate_left
          ·
           intro w'
           go_simp
           with_reducible rfl
          rotate_left
          ·
           simp only [Act.put, sp]
           rfl
          refine done_ (done_of HT_.out (by kernel_rfl)) ?_
          try go_wp2
          go_ret2
          exact ⟨re, skB HB.out⟩
         ·
          rw [if_neg c19] at H
          exact absurd H (by simp)
        ·
         rw [if_neg c18] at H
         exact absurd H (by simp)
       ·
        rw [if_neg c17] at H
        exact absurd H (by simp)
      ·
       rw [if_neg c16] at H
       exact absurd H (by simp)
 ·
  rw [if_neg c5] at H
  have c5b0 : (t114 == 0) = false := beq_eq_false_iff_ne.mpr c5
  have c5b1 : (t114 != 0) = true := bne_iff_ne.mpr c5
  simp only [Option.some.injEq, Prod.mk.injEq] at H
  obtain ⟨rfl, rfl⟩ := H
  go_enter Try.func14, Try.ntmps14
  go_wp2_with (first | ((with_reducible refine gate_callee (f := 13) rfl ?_); refine goesL_ (some 12) rfl rfl Try.func13 (by kernel_rfl) rfl #[.slice A0 l0.length c0] rfl ags ?_; (with_reducible refine (event_Calls.calls _ _ l0 t113 t114 _ ?side1 ?side2 A4.out).mono ?_); (case side1 => exact skC HR0.out); (case side2 => exact HC0.out); rintro e w25 ⟨v115, rfl, ho0, hb⟩; refine ⟨_, rfl, ?_⟩; have n0_ := asd (Kd.S_lower ho0 (below_size (skB HB.out))); have n1_ := asd (below_step (skB HB.out) hb); clear HB; have HO116 := n0_; have HB := n1_; clear n0_ n1_; (try clear hb); (try clear hb2); (try clear hk); (try clear hi); (try clear ho0)))
  go_ret2
  exact ⟨re, skB HB.out⟩
end Go.Proofs.Ytagdkmcgepidoaa.P
/- F27 -/
namespace Go.Proofs.Ytagdkmcgepidoaa.P
open Go.RowKit Go.Proofs.YtagdkmcgepidoaaW.PrintWords Go.Proofs.YtagdkmcgepidoaaW.PrintLast Go.Proofs.YtagdkmcgepidoaaW.PrintMore
attribute [local go_sem] max2_int min2_int max_two min_two max_three min_three max_four min_four   -- for this text's walks alone
set_option linter.unusedVariables false
set_option linter.unusedSimpArgs false
def event_Pending.l0 : Nat → List Int → List (S38) → Int → Int → Option (List Int × Int)
 | 0, _, _, _, _ => none
 | k + 1, x6, x17, x18, x19 => if x19 < x18 then (if 0 ≤ x19 then (if x19 < (x17.length : Int) then (if ((J38 x17 x19).f4) < 0 then (if x6.length < 17592186044416 then (event_Pending.l0 k (x6 ++ [x19]) x17 x18 (wrap64 (x19 + 1))) else (none)) else (event_Pending.l0 k x6 x17 x18 (wrap64 (x19 + 1)))) else (none)) else (none)) else (some (x6, 0))
def event_Pending.f (k : Nat) (l0 : List (S67)) : Option (List Int × Int) := (event_Calls.f l0).bind fun bt210 => (if bt210.2 = 0 then (event_Pending.l0 k ([] : List Int) bt210.1 (bt210.1.length : Int) 0) else (some (([] : List Int), bt210.2)))
set_option maxHeartbeats 8000000 in
set_option maxRecDepth 100000 in
theorem event_Pending.calls (k : Nat) (A0 : Option Addr) (c0 : Nat) (l0 : List (S67)) (r1 : List Int) (r2 : Int) (w : World) (hr0 : Kd.C k67 w A0 l0.length l0) (hc0 : l0.length ≤ c0) (h : event_Pending.f k l0 = some (r1, r2)) :
  Calls Try.prog 22 #[.slice A0 l0.length c0] w fun e w' => ∃ v0_ : Value, e = .returned (.tuple #[v0_, .int .i64 r2]) ∧ Kd.R (Kd.int .i64) 3 w' w.heap.size (fun _ => True) v0_ r1 ∧ Below w.heap.size w w' := by
 have hu38 := Try.underlying38
 have HR0 := asd hr0
 have HC0 := asd hc0
 clear hr0 hc0
 have HB := asd (Below.refl w.heap.size w)
 have H : ((event_Calls.f l0).bind fun bt210 => (if bt210.2 = 0 then (event_Pending.l0 k ([] : List Int) bt210.1 (bt210.1.length : Int) 0) else (some (([] : List Int), bt210.2)))) = some (r1, r2) := h
 clear h
 replace H := Option.bind_eq_some_iff.mp H
 obtain ⟨⟨t210, t211⟩, A20, H⟩ := H
 replace H : (if t211 = 0 then (event_Pending.l0 k ([] : List Int) t210 (t210.length : Int) 0) else (some (([] : List Int), t211))) = some (r1, r2) := H
 have A2 := asd A20
 clear A20
 by_cases c3 : t211 = 0
 ·
  rw [if_pos c3] at H
  have c3b0 : (t211 == 0) = true := beq_iff_eq.mpr c3
  have c3b1 : (t211 != 0) = false := bne_eq_false_iff_eq.mpr c3
  clear c3
  have H' := asd H
  clear H
  go_enter Try.func22, Try.ntmps22
  go_wp2_with (first | ((with_reducible refine gate_callee (f := 13) rfl ?_); refine goesL_ (some 11) rfl rfl Try.func13 (by kernel_rfl) rfl #[.slice A0 l0.length c0] rfl ags ?_; (with_reducible refine (event_Calls.calls _ _ l0 t210 t211 _ ?side1 ?side2 A2.out).mono ?_); (case side1 => exact skC HR0.out); (case side2 => exact HC0.out); rintro e w4 ⟨v212, rfl, ho0, hb⟩; refine ⟨_, rfl, ?_⟩; have n0_ := asd (Kd.S_lower ho0 (below_size (skB HB.out))); have n1_ := asd (below_step (skB HB.out) hb); clear HB; have HO213 := n0_; have HB := n1_; clear n0_ n1_; (try clear hb); (try clear hb2); (try clear hk); (try clear hi); (try clear ho0); obtain ⟨Ao5, co5, eo5⟩ := Kd.S_slice HO213.out; subst eo5))
  go_loopg [6, 19] k (fun kq v6 v19 w' => ∃ (x6_1 : List Int) (x19_1 : Int), v19 = .int .i64 x19_1 ∧ Aside0 (event_Pending.l0 kq x6_1 t210 (t210.length : Int) x19_1 = some (r1, r2)) ∧ Aside0 (kq ≤ k) ∧ Aside0 (Kd.R (Kd.int .i64) 3 w' w.heap.size (fun _ => True) v6 x6_1) ∧ Aside0 (Kd.S k38 38 w' w.heap.size (fun _ => True) (.slice Ao5 t210.length co5) t210) ∧ Aside0 (Below w.heap.size w w'))
  case atStart => exact ⟨(([] : List Int)), (0), rs, H', ⟨Nat.le_refl _⟩, ⟨by first | exact Kd.R_nil _ _ _ _ _ | exact Kd.N_nil _ _ _ _ _ | exact Kd.V_nil _ _ _ _ _ | exact Kd.Q_nil _ _ _ _ _ | exact Kd.S_nil _ _ _ _ _⟩, ⟨by (with_reducible repeat (first | apply Kd.S_alloc | apply Kd.S_drewN | apply Kd.S_drew)); exact HO213.out⟩, ⟨skB HB.out⟩⟩
  case round =>
   clear H'
   try clear c1
   try clear c2
   try clear p2
   try clear c3
   try clear c3b0
   try clear c3b1
   obtain ⟨x6_1, x19_1, rfl, HA, HK1, HO_6, HO_17, HB⟩ := hrel
   cases gk with
   | zero => exact absurd HA.out (by simp [event_Pending.l0])
   | succ k1 =>
    have H := HA.out
    clear HA
    simp only [event_Pending.l0] at H
    by_cases c6 : x19_1 < (t210.length : Int)
    ·
     rw [if_pos c6] at H
     have c6b0 : decide (x19_1 < (t210.length : Int)) = true := decide_eq_true c6
     clear c6
     by_cases c7 : 0 ≤ x19_1
     ·
      rw [if_pos c7] at H
      have c7b0 : decide (0 ≤ x19_1) = true := decide_eq_true c7
      clear c7
      by_cases c8 : x19_1 < (t210.length : Int)
      ·
       rw [if_pos c8] at H
       have c8b0 : decide (x19_1 < (t210.length : Int)) = true := decide_eq_true c8
       clear c8
       by_cases c9 : ((J38 t210 x19_1).f4) < 0
       ·
        rw [if_pos c9] at H
        have c9b0 : decide (((J38 t210 x19_1).f4) < 0) = true := decide_eq_true c9
        clear c9
        by_cases c10 : x6_1.length < 17592186044416
        ·
         rw [if_pos c10] at H
         have LMc10 := asd c10
         clear c10
         obtain ⟨y216, hy216⟩ : ∃ y_ : List Int, y_ = (x6_1 ++ [x19_1]) := ⟨_, rfl⟩
         replace H : (event_Pending.l0 k1 y216 t210 (t210.length : Int) (wrap64 (x19_1 + 1))) = some (r1, r2) := by first | (rw [hy216]; with_reducible exact H) | (have H2_ := (Option.bind_some _ _).symm.trans H; rw [hy216]; with_reducible exact H2_) | (have H2_ := (Option.bind_some _ _).symm.trans H; with_reducible exact H2_) | with_reducible exact H | (rw [hy216]; exact H) | exact H
         have Ny216 := asd hy216
         clear hy216
         have H' := asd H
         clear H
         have p214 : 0 ≤ (x19_1 : Int) := dt
         have q214 : x19_1 < (t210.length : Int) := dt
         obtain ⟨ad214, A214_8, c214_8, e214, hx214_0, hx214_1, hx214_2, hx214_3, hx214_4, hx214_5, hx214_6, hx214_7, hx214_8, hx214_9, hx214_10, hl214_8, hi214_8⟩ := at_T38 (Kd.S_reads' HO_17.out).2.2 x19_1 p214 q214
         cases e214
         obtain ⟨ce214, hce214, hMe214, hcc214⟩ := Kd.S_get HO_17.out z38 x19_1 p214 (by first | exact q214 | exact dt | (have e_ := (Kd.S_reads' HO_17.out).1; omega))
         obtain ⟨ve214_8, rfl, ge214_8⟩ := k38_openM hMe214
         have hv214_8 := hcc214 8 _ rfl
         rw [add_field _ _ 8 (by omega)] at hv214_8
         replace hv214_8 := Option.some.inj (hv214_8.symm.trans hx214_8)
         rw [hv214_8] at ge214_8
         have HL214_8 := asd (show Kd.R k70 70 _ _ _ _ ((J38 t210 x19_1).f2.f3) from ge214_8)
         clear hv214_8 ge214_8
         clear hcc214 hce214
         have HR214_8 := asd hi214_8
         have HC214_8 := asd hl214_8
         clear hi214_8 hl214_8
         replace p214 := eq_true p214
         replace q214 := eq_true q214
         go_wp2_with (first | ((with_reducible refine gate_dst (N := 8) rfl ?_); refine box_event ?hg (N := 8) ?hd (cs := #[.int .i64 0, .int .i64 0, .int .i64 0, .int .i64 0, .int .i64 0, .bool false, .int .i64 0, .int .i64 0, .slice none 0 0, .int .i64 0, .int .i64 0]) (t := 38) ?hr ?_; (case hd => rfl); (case hg => rfl); (case hr => first | (go_simp; done) | (go_simp; rfl)); intro gb215 hg w11 hbox hb; have n0_ := asd (Kd.R_below (skR HO_6.out) hb); have n1_ := asd (Kd.S_below (Kd.S_elderB (by (with_reducible repeat (first | apply Kd.S_alloc | apply Kd.S_drewN | apply Kd.S_drew)); exact HO_17.out) gb215 (Nat.le_of_eq hg.symm)) hb); have n2_ := asd (Kd.R_below (skR HL214_8.out) hb); have n3_ := asd (Kd.C_below (by repeat (first | (with_reducible exact HR214_8.out) | (with_reducible refine Kd.C_alloc ?_ _) | (with_reducible refine Kd.C_drewN ?_ _) | (with_reducible refine Kd.C_drew ?_) | exact HR214_8.out)) hb); have n4_ := asd (below_step (skB HB.out) hb); have n5_ := asd (hbox); have n6_ := asd ((by rw [hg]; exact (below_size (skB HB.out)) : w.heap.size ≤ gb215)); have n7_ := asd ((by rw [hg]; exact (below_size (skB HB.out)) : w.heap.size ≤ gb215)); clear HO_6; clear HO_17; clear HL214_8; clear HR214_8; clear HB; have HO_6 := n0_; have HO_17 := n1_; have HL214_8 := n2_; have HR214_8 := n3_; have HB := n4_; have BK215 := n5_; have GW215 := n6_; have GE215 := n7_; clear n0_ n1_ n2_ n3_ n4_ n5_ n6_ n7_; clear hb hbox hg; have hcz12_0 : w11.cell? ⟨gb215, 0, none⟩ = some (.int .i64 0) := (blk_cell BK215.out 0).trans rfl; have hcz12_1 : w11.cell? ⟨gb215, 1, none⟩ = some (.int .i64 0) := (blk_cell BK215.out 1).trans rfl; have hcz12_2 : w11.cell? ⟨gb215, 2, none⟩ = some (.int .i64 0) := (blk_cell BK215.out 2).trans rfl; have hcz12_3 : w11.cell? ⟨gb215, 3, none⟩ = some (.int .i64 0) := (blk_cell BK215.out 3).trans rfl; have hcz12_4 : w11.cell? ⟨gb215, 4, none⟩ = some (.int .i64 0) := (blk_cell BK215.out 4).trans rfl; have hcz12_5 : w11.cell? ⟨gb215, 5, none⟩ = some (.bool false) := (blk_cell BK215.out 5).trans rfl; have hcz12_6 : w11.cell? ⟨gb215, 6, none⟩ = some (.int .i64 0) := (blk_cell BK215.out 6).trans rfl; have hcz12_7 : w11.cell? ⟨gb215, 7, none⟩ = some (.int .i64 0) := (blk_cell BK215.out 7).trans rfl; have hcz12_8 : w11.cell? ⟨gb215, 8, none⟩ = some (.slice none 0 0) := (blk_cell BK215.out 8).trans rfl; have hcz12_9 : w11.cell? ⟨gb215, 9, none⟩ = some (.int .i64 0) := (blk_cell BK215.out 9).trans rfl; have hcz12_10 : w11.cell? ⟨gb215, 10, none⟩ = some (.int .i64 0) := (blk_cell BK215.out 10).trans rfl; have hfz12_0 := blk_frozen BK215.out 0; have hfz12_1 := blk_frozen BK215.out 1; have hfz12_2 := blk_frozen BK215.out 2; have hfz12_3 := blk_frozen BK215.out 3; have hfz12_4 := blk_frozen BK215.out 4; have hfz12_5 := blk_frozen BK215.out 5; have hfz12_6 := blk_frozen BK215.out 6; have hfz12_7 := blk_frozen BK215.out 7; have hfz12_8 := blk_frozen BK215.out 8; have hfz12_9 := blk_frozen BK215.out 9; have hfz12_10 := blk_frozen BK215.out 10) | ((with_reducible refine gate_builtin (b := .append) (xs := #[.tmp 27, .tmp 29]) rfl ?_); at_builtin; refine Kd.R_append (Kd.int .i64) (w0 := w) w.heap.size rfl (.tmp 27) (.tmp 29) 41 3 (.int .i64 0) 8 rfl Try.underlying41 info3 rfl (by decide) (by omega) u6 x6_1 x19_1 [.int .i64 x19_1] (fun _ => True) (fun _ => False) rfl (by first | (go_simp; done) | (go_simp; rfl)) ?aP (fun _ hk => hk.elim) ?aF ?aO ?aB ?aS ?aL ?_; (case aP => exact rfl); (case aB => exact (skG HB.out GE215.out GE215.out)); (case aF => exact (fun _ _ => trivial)); (case aO => exact (skR (Kd.R_mono (Kd.R_far (p := ⟨gb215, 10, none⟩) (Kd.R_far (p := ⟨gb215, 9, none⟩) (Kd.R_far (p := ⟨gb215, 8, none⟩) (Kd.R_far (p := ⟨gb215, 7, none⟩) (Kd.R_far (p := ⟨gb215, 6, none⟩) (Kd.R_far (p := ⟨gb215, 5, none⟩) (Kd.R_far (p := ⟨gb215, 4, none⟩) (Kd.R_far (p := ⟨gb215, 3, none⟩) (Kd.R_far (p := ⟨gb215, 2, none⟩) (Kd.R_far (p := ⟨gb215, 1, none⟩) (Kd.R_far (p := ⟨gb215, 0, none⟩) (Kd.R_types HO_6.out BK215.out (by decide)) (fun _ hk => hk.2) (.int .i64 ((J38 t210 x19_1).f0))) (fun _ hk => hk.2) (.int .i64 ((J38 t210 x19_1).f1.f0))) (fun _ hk => hk.2) (.int .i64 ((J38 t210 x19_1).f1.f1))) (fun _ hk => hk.2) (.int .i64 ((J38 t210 x19_1).f1.f2))) (fun _ hk => hk.2) (.int .i64 ((J38 t210 x19_1).f1.f3))) (fun _ hk => hk.2) (.bool ((J38 t210 x19_1).f2.f0))) (fun _ hk => hk.2) (.int .i64 ((J38 t210 x19_1).f2.f1))) (fun _ hk => hk.2) (.int .i64 ((J38 t210 x19_1).f2.f2))) (fun _ hk => hk.2) (.slice A214_8 ((J38 t210 x19_1).f2.f3).length c214_8)) (fun _ hk => hk.2) (.int .i64 ((J38 t210 x19_1).f3))) (fun _ hk => hk.2) (.int .i64 ((J38 t210 x19_1).f4))) (fun _ hk => trivial)))); (case aS => exact (below_size (skG HB.out GE215.out GE215.out))); (case aL => have := LMc10.out; omega); intro v217 w13 ho hb hg hat; rw [← Ny216.out] at ho; have n0_ := asd (Kd.S_over' (by (with_reducible repeat (first | apply Kd.S_alloc | apply Kd.S_drewN | apply Kd.S_drew)); exact (Kd.S_mono (Kd.S_far (p := ⟨gb215, 10, none⟩) (Kd.S_far (p := ⟨gb215, 9, none⟩) (Kd.S_far (p := ⟨gb215, 8, none⟩) (Kd.S_far (p := ⟨gb215, 7, none⟩) (Kd.S_far (p := ⟨gb215, 6, none⟩) (Kd.S_far (p := ⟨gb215, 5, none⟩) (Kd.S_far (p := ⟨gb215, 4, none⟩) (Kd.S_far (p := ⟨gb215, 3, none⟩) (Kd.S_far (p := ⟨gb215, 2, none⟩) (Kd.S_far (p := ⟨gb215, 1, none⟩) (Kd.S_far (p := ⟨gb215, 0, none⟩) (Kd.S_mono HO_17.out (fun k_ hk => (⟨hk, hk.2⟩ : _ ∧ k_ ≠ gb215))) (fun _ hk => hk.2) (.int .i64 ((J38 t210 x19_1).f0))) (fun _ hk => hk.2) (.int .i64 ((J38 t210 x19_1).f1.f0))) (fun _ hk => hk.2) (.int .i64 ((J38 t210 x19_1).f1.f1))) (fun _ hk => hk.2) (.int .i64 ((J38 t210 x19_1).f1.f2))) (fun _ hk => hk.2) (.int .i64 ((J38 t210 x19_1).f1.f3))) (fun _ hk => hk.2) (.bool ((J38 t210 x19_1).f2.f0))) (fun _ hk => hk.2) (.int .i64 ((J38 t210 x19_1).f2.f1))) (fun _ hk => hk.2) (.int .i64 ((J38 t210 x19_1).f2.f2))) (fun _ hk => hk.2) (.slice A214_8 ((J38 t210 x19_1).f2.f3).length c214_8)) (fun _ hk => hk.2) (.int .i64 ((J38 t210 x19_1).f3))) (fun _ hk => hk.2) (.int .i64 ((J38 t210 x19_1).f4))) (fun _ h_ => h_.1))) (Kd.R_typed (skR (Kd.R_mono (Kd.R_far (p := ⟨gb215, 10, none⟩) (Kd.R_far (p := ⟨gb215, 9, none⟩) (Kd.R_far (p := ⟨gb215, 8, none⟩) (Kd.R_far (p := ⟨gb215, 7, none⟩) (Kd.R_far (p := ⟨gb215, 6, none⟩) (Kd.R_far (p := ⟨gb215, 5, none⟩) (Kd.R_far (p := ⟨gb215, 4, none⟩) (Kd.R_far (p := ⟨gb215, 3, none⟩) (Kd.R_far (p := ⟨gb215, 2, none⟩) (Kd.R_far (p := ⟨gb215, 1, none⟩) (Kd.R_far (p := ⟨gb215, 0, none⟩) (Kd.R_types HO_6.out BK215.out (by decide)) (fun _ hk => hk.2) (.int .i64 ((J38 t210 x19_1).f0))) (fun _ hk => hk.2) (.int .i64 ((J38 t210 x19_1).f1.f0))) (fun _ hk => hk.2) (.int .i64 ((J38 t210 x19_1).f1.f1))) (fun _ hk => hk.2) (.int .i64 ((J38 t210 x19_1).f1.f2))) (fun _ hk => hk.2) (.int .i64 ((J38 t210 x19_1).f1.f3))) (fun _ hk => hk.2) (.bool ((J38 t210 x19_1).f2.f0))) (fun _ hk => hk.2) (.int .i64 ((J38 t210 x19_1).f2.f1))) (fun _ hk => hk.2) (.int .i64 ((J38 t210 x19_1).f2.f2))) (fun _ hk => hk.2) (.slice A214_8 ((J38 t210 x19_1).f2.f3).length c214_8)) (fun _ hk => hk.2) (.int .i64 ((J38 t210 x19_1).f3))) (fun _ hk => hk.2) (.int .i64 ((J38 t210 x19_1).f4))) (fun _ h_ => h_.1)))) (by decide) hg); have n1_ := asd (Kd.R_over' (skR (Kd.R_mono (Kd.R_far (p := ⟨gb215, 10, none⟩) (Kd.R_far (p := ⟨gb215, 9, none⟩) (Kd.R_far (p := ⟨gb215, 8, none⟩) (Kd.R_far (p := ⟨gb215, 7, none⟩) (Kd.R_far (p := ⟨gb215, 6, none⟩) (Kd.R_far (p := ⟨gb215, 5, none⟩) (Kd.R_far (p := ⟨gb215, 4, none⟩) (Kd.R_far (p := ⟨gb215, 3, none⟩) (Kd.R_far (p := ⟨gb215, 2, none⟩) (Kd.R_far (p := ⟨gb215, 1, none⟩) (Kd.R_far (p := ⟨gb215, 0, none⟩) (Kd.R_types HL214_8.out BK215.out (by decide)) (fun _ hk => hk.2) (.int .i64 ((J38 t210 x19_1).f0))) (fun _ hk => hk.2) (.int .i64 ((J38 t210 x19_1).f1.f0))) (fun _ hk => hk.2) (.int .i64 ((J38 t210 x19_1).f1.f1))) (fun _ hk => hk.2) (.int .i64 ((J38 t210 x19_1).f1.f2))) (fun _ hk => hk.2) (.int .i64 ((J38 t210 x19_1).f1.f3))) (fun _ hk => hk.2) (.bool ((J38 t210 x19_1).f2.f0))) (fun _ hk => hk.2) (.int .i64 ((J38 t210 x19_1).f2.f1))) (fun _ hk => hk.2) (.int .i64 ((J38 t210 x19_1).f2.f2))) (fun _ hk => hk.2) (.slice A214_8 ((J38 t210 x19_1).f2.f3).length c214_8)) (fun _ hk => hk.2) (.int .i64 ((J38 t210 x19_1).f3))) (fun _ hk => hk.2) (.int .i64 ((J38 t210 x19_1).f4))) (fun _ h_ => h_.1))) (Kd.R_typed (skR (Kd.R_mono (Kd.R_far (p := ⟨gb215, 10, none⟩) (Kd.R_far (p := ⟨gb215, 9, none⟩) (Kd.R_far (p := ⟨gb215, 8, none⟩) (Kd.R_far (p := ⟨gb215, 7, none⟩) (Kd.R_far (p := ⟨gb215, 6, none⟩) (Kd.R_far (p := ⟨gb215, 5, none⟩) (Kd.R_far (p := ⟨gb215, 4, none⟩) (Kd.R_far (p := ⟨gb215, 3, none⟩) (Kd.R_far (p := ⟨gb215, 2, none⟩) (Kd.R_far (p := ⟨gb215, 1, none⟩) (Kd.R_far (p := ⟨gb215, 0, none⟩) (Kd.R_types HO_6.out BK215.out (by decide)) (fun _ hk => hk.2) (.int .i64 ((J38 t210 x19_1).f0))) (fun _ hk => hk.2) (.int .i64 ((J38 t210 x19_1).f1.f0))) (fun _ hk => hk.2) (.int .i64 ((J38 t210 x19_1).f1.f1))) (fun _ hk => hk.2) (.int .i64 ((J38 t210 x19_1).f1.f2))) (fun _ hk => hk.2) (.int .i64 ((J38 t210 x19_1).f1.f3))) (fun _ hk => hk.2) (.bool ((J38 t210 x19_1).f2.f0))) (fun _ hk => hk.2) (.int .i64 ((J38 t210 x19_1).f2.f1))) (fun _ hk => hk.2) (.int .i64 ((J38 t210 x19_1).f2.f2))) (fun _ hk => hk.2) (.slice A214_8 ((J38 t210 x19_1).f2.f3).length c214_8)) (fun _ hk => hk.2) (.int .i64 ((J38 t210 x19_1).f3))) (fun _ hk => hk.2) (.int .i64 ((J38 t210 x19_1).f4))) (fun _ h_ => h_.1)))) (by decide) hg); have n2_ := asd (blk_grown (g := gb215) (o := .cells #[.int .i64 ((J38 t210 x19_1).f0), .int .i64 ((J38 t210 x19_1).f1.f0), .int .i64 ((J38 t210 x19_1).f1.f1), .int .i64 ((J38 t210 x19_1).f1.f2), .int .i64 ((J38 t210 x19_1).f1.f3), .bool ((J38 t210 x19_1).f2.f0), .int .i64 ((J38 t210 x19_1).f2.f1), .int .i64 ((J38 t210 x19_1).f2.f2), .slice A214_8 ((J38 t210 x19_1).f2.f3).length c214_8, .int .i64 ((J38 t210 x19_1).f3), .int .i64 ((J38 t210 x19_1).f4)] 38 (0, 0)) (by refine skk ?_; refine blk_put (cs := #[.int .i64 ((J38 t210 x19_1).f0), .int .i64 ((J38 t210 x19_1).f1.f0), .int .i64 ((J38 t210 x19_1).f1.f1), .int .i64 ((J38 t210 x19_1).f1.f2), .int .i64 ((J38 t210 x19_1).f1.f3), .bool ((J38 t210 x19_1).f2.f0), .int .i64 ((J38 t210 x19_1).f2.f1), .int .i64 ((J38 t210 x19_1).f2.f2), .slice A214_8 ((J38 t210 x19_1).f2.f3).length c214_8, .int .i64 ((J38 t210 x19_1).f3), .int .i64 0]) ?_ 10 _ rfl; refine skk ?_; refine blk_put (cs := #[.int .i64 ((J38 t210 x19_1).f0), .int .i64 ((J38 t210 x19_1).f1.f0), .int .i64 ((J38 t210 x19_1).f1.f1), .int .i64 ((J38 t210 x19_1).f1.f2), .int .i64 ((J38 t210 x19_1).f1.f3), .bool ((J38 t210 x19_1).f2.f0), .int .i64 ((J38 t210 x19_1).f2.f1), .int .i64 ((J38 t210 x19_1).f2.f2), .slice A214_8 ((J38 t210 x19_1).f2.f3).length c214_8, .int .i64 0, .int .i64 0]) ?_ 9 _ rfl; refine skk ?_; refine blk_put (cs := #[.int .i64 ((J38 t210 x19_1).f0), .int .i64 ((J38 t210 x19_1).f1.f0), .int .i64 ((J38 t210 x19_1).f1.f1), .int .i64 ((J38 t210 x19_1).f1.f2), .int .i64 ((J38 t210 x19_1).f1.f3), .bool ((J38 t210 x19_1).f2.f0), .int .i64 ((J38 t210 x19_1).f2.f1), .int .i64 ((J38 t210 x19_1).f2.f2), .slice none 0 0, .int .i64 0, .int .i64 0]) ?_ 8 _ rfl; refine skk ?_; refine blk_put (cs := #[.int .i64 ((J38 t210 x19_1).f0), .int .i64 ((J38 t210 x19_1).f1.f0), .int .i64 ((J38 t210 x19_1).f1.f1), .int .i64 ((J38 t210 x19_1).f1.f2), .int .i64 ((J38 t210 x19_1).f1.f3), .bool ((J38 t210 x19_1).f2.f0), .int .i64 ((J38 t210 x19_1).f2.f1), .int .i64 0, .slice none 0 0, .int .i64 0, .int .i64 0]) ?_ 7 _ rfl; refine skk ?_; refine blk_put (cs := #[.int .i64 ((J38 t210 x19_1).f0), .int .i64 ((J38 t210 x19_1).f1.f0), .int .i64 ((J38 t210 x19_1).f1.f1), .int .i64 ((J38 t210 x19_1).f1.f2), .int .i64 ((J38 t210 x19_1).f1.f3), .bool ((J38 t210 x19_1).f2.f0), .int .i64 0, .int .i64 0, .slice none 0 0, .int .i64 0, .int .i64 0]) ?_ 6 _ rfl; refine skk ?_; refine blk_put (cs := #[.int .i64 ((J38 t210 x19_1).f0), .int .i64 ((J38 t210 x19_1).f1.f0), .int .i64 ((J38 t210 x19_1).f1.f1), .int .i64 ((J38 t210 x19_1).f1.f2), .int .i64 ((J38 t210 x19_1).f1.f3), .bool false, .int .i64 0, .int .i64 0, .slice none 0 0, .int .i64 0, .int .i64 0]) ?_ 5 _ rfl; refine skk ?_; refine blk_put (cs := #[.int .i64 ((J38 t210 x19_1).f0), .int .i64 ((J38 t210 x19_1).f1.f0), .int .i64 ((J38 t210 x19_1).f1.f1), .int .i64 ((J38 t210 x19_1).f1.f2), .int .i64 0, .bool false, .int .i64 0, .int .i64 0, .slice none 0 0, .int .i64 0, .int .i64 0]) ?_ 4 _ rfl; refine skk ?_; refine blk_put (cs := #[.int .i64 ((J38 t210 x19_1).f0), .int .i64 ((J38 t210 x19_1).f1.f0), .int .i64 ((J38 t210 x19_1).f1.f1), .int .i64 0, .int .i64 0, .bool false, .int .i64 0, .int .i64 0, .slice none 0 0, .int .i64 0, .int .i64 0]) ?_ 3 _ rfl; refine skk ?_; refine blk_put (cs := #[.int .i64 ((J38 t210 x19_1).f0), .int .i64 ((J38 t210 x19_1).f1.f0), .int .i64 0, .int .i64 0, .int .i64 0, .bool false, .int .i64 0, .int .i64 0, .slice none 0 0, .int .i64 0, .int .i64 0]) ?_ 2 _ rfl; refine skk ?_; refine blk_put (cs := #[.int .i64 ((J38 t210 x19_1).f0), .int .i64 0, .int .i64 0, .int .i64 0, .int .i64 0, .bool false, .int .i64 0, .int .i64 0, .slice none 0 0, .int .i64 0, .int .i64 0]) ?_ 1 _ rfl; refine skk ?_; refine blk_put (cs := #[.int .i64 0, .int .i64 0, .int .i64 0, .int .i64 0, .int .i64 0, .bool false, .int .i64 0, .int .i64 0, .slice none 0 0, .int .i64 0, .int .i64 0]) ?_ 0 _ rfl; refine skk ?_; exact BK215.out) hg (Kd.R_ne HO_6.out BK215.out (by decide))); have n3_ := asd (hb); have n4_ := asd (ho); clear HO_17; clear HL214_8; clear BK215; clear HB; clear HO_6; have HO_17 := n0_; have HL214_8 := n1_; have BK215 := n2_; have HB := n3_; have HO218 := n4_; clear n0_ n1_ n2_ n3_ n4_; clear ho hb hg hat))
         go_roundg k1
         case measure => have := HK1.out; omega
         case rel => exact ⟨(y216), (wrap64 (x19_1 + 1)), rs, H', ⟨by have := HK1.out; omega⟩, ⟨skR HO218.out⟩, ⟨by (with_reducible repeat (first | apply Kd.S_alloc | apply Kd.S_drewN | apply Kd.S_drew)); exact Kd.S_mono HO_17.out (fun _ hk => trivial)⟩, ⟨skG HB.out GE215.out GE215.out⟩⟩
        ·
         rw [if_neg c10] at H
         exact absurd H (by simp)
       ·
        rw [if_neg c9] at H
        have c9b0 : decide (((J38 t210 x19_1).f4) < 0) = false := decide_eq_false c9
        clear c9
        have H' := asd H
        clear H
        have p214 : 0 ≤ (x19_1 : Int) := dt
        have q214 : x19_1 < (t210.length : Int) := dt
        obtain ⟨ad214, A214_8, c214_8, e214, hx214_0, hx214_1, hx214_2, hx214_3, hx214_4, hx214_5, hx214_6, hx214_7, hx214_8, hx214_9, hx214_10, hl214_8, hi214_8⟩ := at_T38 (Kd.S_reads' HO_17.out).2.2 x19_1 p214 q214
        cases e214
        obtain ⟨ce214, hce214, hMe214, hcc214⟩ := Kd.S_get HO_17.out z38 x19_1 p214 (by first | exact q214 | exact dt | (have e_ := (Kd.S_reads' HO_17.out).1; omega))
        obtain ⟨ve214_8, rfl, ge214_8⟩ := k38_openM hMe214
        have hv214_8 := hcc214 8 _ rfl
        rw [add_field _ _ 8 (by omega)] at hv214_8
        replace hv214_8 := Option.some.inj (hv214_8.symm.trans hx214_8)
        rw [hv214_8] at ge214_8
        have HL214_8 := asd (show Kd.R k70 70 _ _ _ _ ((J38 t210 x19_1).f2.f3) from ge214_8)
        clear hv214_8 ge214_8
        clear hcc214 hce214
        have HR214_8 := asd hi214_8
        have HC214_8 := asd hl214_8
        clear hi214_8 hl214_8
        replace p214 := eq_true p214
        replace q214 := eq_true q214
        go_wp2_with (first | ((with_reducible refine gate_dst (N := 8) rfl ?_); refine box_event ?hg (N := 8) ?hd (cs := #[.int .i64 0, .int .i64 0, .int .i64 0, .int .i64 0, .int .i64 0, .bool false, .int .i64 0, .int .i64 0, .slice none 0 0, .int .i64 0, .int .i64 0]) (t := 38) ?hr ?_; (case hd => rfl); (case hg => rfl); (case hr => first | (go_simp; done) | (go_simp; rfl)); intro gb215 hg w14 hbox hb; have n0_ := asd (Kd.R_below (skR HO_6.out) hb); have n1_ := asd (Kd.S_below (Kd.S_elderB (by (with_reducible repeat (first | apply Kd.S_alloc | apply Kd.S_drewN | apply Kd.S_drew)); exact HO_17.out) gb215 (Nat.le_of_eq hg.symm)) hb); have n2_ := asd (Kd.R_below (skR HL214_8.out) hb); have n3_ := asd (Kd.C_below (by repeat (first | (with_reducible exact HR214_8.out) | (with_reducible refine Kd.C_alloc ?_ _) | (with_reducible refine Kd.C_drewN ?_ _) | (with_reducible refine Kd.C_drew ?_) | exact HR214_8.out)) hb); have n4_ := asd (below_step (skB HB.out) hb); have n5_ := asd (hbox); have n6_ := asd ((by rw [hg]; exact (below_size (skB HB.out)) : w.heap.size ≤ gb215)); have n7_ := asd ((by rw [hg]; exact (below_size (skB HB.out)) : w.heap.size ≤ gb215)); clear HO_6; clear HO_17; clear HL214_8; clear HR214_8; clear HB; have HO_6 := n0_; have HO_17 := n1_; have HL214_8 := n2_; have HR214_8 := n3_; have HB := n4_; have BK215 := n5_; have GW215 := n6_; have GE215 := n7_; clear n0_ n1_ n2_ n3_ n4_ n5_ n6_ n7_; clear hb hbox hg; have hcz15_0 : w14.cell? ⟨gb215, 0, none⟩ = some (.int .i64 0) := (blk_cell BK215.out 0).trans rfl; have hcz15_1 : w14.cell? ⟨gb215, 1, none⟩ = some (.int .i64 0) := (blk_cell BK215.out 1).trans rfl; have hcz15_2 : w14.cell? ⟨gb215, 2, none⟩ = some (.int .i64 0) := (blk_cell BK215.out 2).trans rfl; have hcz15_3 : w14.cell? ⟨gb215, 3, none⟩ = some (.int .i64 0) := (blk_cell BK215.out 3).trans rfl; have hcz15_4 : w14.cell? ⟨gb215, 4, none⟩ = some (.int .i64 0) := (blk_cell BK215.out 4).trans rfl; have hcz15_5 : w14.cell? ⟨gb215, 5, none⟩ = some (.bool false) := (blk_cell BK215.out 5).trans rfl; have hcz15_6 : w14.cell? ⟨gb215, 6, none⟩ = some (.int .i64 0) := (blk_cell BK215.out 6).trans rfl; have hcz15_7 : w14.cell? ⟨gb215, 7, none⟩ = some (.int .i64 0) := (blk_cell BK215.out 7).trans rfl; have hcz15_8 : w14.cell? ⟨gb215, 8, none⟩ = some (.slice none 0 0) := (blk_cell BK215.out 8).trans rfl; have hcz15_9 : w14.cell? ⟨gb215, 9, none⟩ = some (.int .i64 0) := (blk_cell BK215.out 9).trans rfl; have hcz15_10 : w14.cell? ⟨gb215, 10, none⟩ = some (.int .i64 0) := (blk_cell BK215.out 10).trans rfl; have hfz15_0 := blk_frozen BK215.out 0; have hfz15_1 := blk_frozen BK215.out 1; have hfz15_2 := blk_frozen BK215.out 2; have hfz15_3 := blk_frozen BK215.out 3; have hfz15_4 := blk_frozen BK215.out 4; have hfz15_5 := blk_frozen BK215.out 5; have hfz15_6 := blk_frozen BK215.out 6; have hfz15_7 := blk_frozen BK215.out 7; have hfz15_8 := blk_frozen BK215.out 8; have hfz15_9 := blk_frozen BK215.out 9; have hfz15_10 := blk_frozen BK215.out 10))
        go_roundg k1
        case measure => have := HK1.out; omega
        case rel => exact ⟨(x6_1), (wrap64 (x19_1 + 1)), rs, H', ⟨by have := HK1.out; omega⟩, ⟨skR (Kd.R_mono (Kd.R_far (p := ⟨gb215, 10, none⟩) (Kd.R_far (p := ⟨gb215, 9, none⟩) (Kd.R_far (p := ⟨gb215, 8, none⟩) (Kd.R_far (p := ⟨gb215, 7, none⟩) (Kd.R_far (p := ⟨gb215, 6, none⟩) (Kd.R_far (p := ⟨gb215, 5, none⟩) (Kd.R_far (p := ⟨gb215, 4, none⟩) (Kd.R_far (p := ⟨gb215, 3, none⟩) (Kd.R_far (p := ⟨gb215, 2, none⟩) (Kd.R_far (p := ⟨gb215, 1, none⟩) (Kd.R_far (p := ⟨gb215, 0, none⟩) (Kd.R_types HO_6.out BK215.out (by decide)) (fun _ hk => hk.2) (.int .i64 ((J38 t210 x19_1).f0))) (fun _ hk => hk.2) (.int .i64 ((J38 t210 x19_1).f1.f0))) (fun _ hk => hk.2) (.int .i64 ((J38 t210 x19_1).f1.f1))) (fun _ hk => hk.2) (.int .i64 ((J38 t210 x19_1).f1.f2))) (fun _ hk => hk.2) (.int .i64 ((J38 t210 x19_1).f1.f3))) (fun _ hk => hk.2) (.bool ((J38 t210 x19_1).f2.f0))) (fun _ hk => hk.2) (.int .i64 ((J38 t210 x19_1).f2.f1))) (fun _ hk => hk.2) (.int .i64 ((J38 t210 x19_1).f2.f2))) (fun _ hk => hk.2) (.slice A214_8 ((J38 t210 x19_1).f2.f3).length c214_8)) (fun _ hk => hk.2) (.int .i64 ((J38 t210 x19_1).f3))) (fun _ hk => hk.2) (.int .i64 ((J38 t210 x19_1).f4))) (fun _ hk => trivial))⟩, ⟨by (with_reducible repeat (first | apply Kd.S_alloc | apply Kd.S_drewN | apply Kd.S_drew)); exact Kd.S_mono (Kd.S_far (p := ⟨gb215, 10, none⟩) (Kd.S_far (p := ⟨gb215, 9, none⟩) (Kd.S_far (p := ⟨gb215, 8, none⟩) (Kd.S_far (p := ⟨gb215, 7, none⟩) (Kd.S_far (p := ⟨gb215, 6, none⟩) (Kd.S_far (p := ⟨gb215, 5, none⟩) (Kd.S_far (p := ⟨gb215, 4, none⟩) (Kd.S_far (p := ⟨gb215, 3, none⟩) (Kd.S_far (p := ⟨gb215, 2, none⟩) (Kd.S_far (p := ⟨gb215, 1, none⟩) (Kd.S_far (p := ⟨gb215, 0, none⟩) (Kd.S_mono HO_17.out (fun k_ hk => (⟨hk, hk.2⟩ : _ ∧ k_ ≠ gb215))) (fun _ hk => hk.2) (.int .i64 ((J38 t210 x19_1).f0))) (fun _ hk => hk.2) (.int .i64 ((J38 t210 x19_1).f1.f0))) (fun _ hk => hk.2) (.int .i64 ((J38 t210 x19_1).f1.f1))) (fun _ hk => hk.2) (.int .i64 ((J38 t210 x19_1).f1.f2))) (fun _ hk => hk.2) (.int .i64 ((J38 t210 x19_1).f1.f3))) (fun _ hk => hk.2) (.bool ((J38 t210 x19_1).f2.f0))) (fun _ hk => hk.2) (.int .i64 ((J38 t210 x19_1).f2.f1))) (fun _ hk => hk.2) (.int .i64 ((J38 t210 x19_1).f2.f2))) (fun _ hk => hk.2) (.slice A214_8 ((J38 t210 x19_1).f2.f3).length c214_8)) (fun _ hk => hk.2) (.int .i64 ((J38 t210 x19_1).f3))) (fun _ hk => hk.2) (.int .i64 ((J38 t210 x19_1).f4))) (fun _ hk => trivial)⟩, ⟨skG HB.out GE215.out GE215.out⟩⟩
      ·
       rw [if_neg c8] at H
       exact absurd H (by simp)
     ·
      rw [if_neg c7] at H
      exact absurd H (by simp)
    ·
     rw [if_neg c6] at H
     have c6b0 : decide (x19_1 < (t210.length : Int)) = false := decide_eq_false c6
     clear c6
     simp only [Option.some.injEq, Prod.mk.injEq] at H
     obtain ⟨rfl, rfl⟩ := H
     go_wp2
     go_ret2
     exact ⟨_, re, skR HO_6.out, skB HB.out⟩
 ·
  rw [if_neg c3] at H
  have c3b0 : (t211 == 0) = false := beq_eq_false_iff_ne.mpr c3
  have c3b1 : (t211 != 0) = true := bne_iff_ne.mpr c3
  simp only [Option.some.injEq, Prod.mk.injEq] at H
  obtain ⟨rfl, rfl⟩ := H
  go_enter Try.func22, Try.ntmps22
  go_wp2_with (first | ((with_reducible refine gate_callee (f := 13) rfl ?_); refine goesL_ (some 11) rfl rfl Try.func13 (by kernel_rfl) rfl #[.slice A0 l0.length c0] rfl ags ?_; (with_reducible refine (event_Calls.calls _ _ l0 t210 t211 _ ?side1 ?side2 A2.out).mono ?_); (case side1 => exact skC HR0.out); (case side2 => exact HC0.out); rintro e w16 ⟨v212, rfl, ho0, hb⟩; refine ⟨_, rfl, ?_⟩; have n0_ := asd (Kd.S_lower ho0 (below_size (skB HB.out))); have n1_ := asd (below_step (skB HB.out) hb); clear HB; have HO213 := n0_; have HB := n1_; clear n0_ n1_; (try clear hb); (try clear hb2); (try clear hk); (try clear hi); (try clear ho0)))
  go_ret2
  exact ⟨_, re, by first | exact Kd.R_nil _ _ _ _ _ | exact Kd.N_nil _ _ _ _ _ | exact Kd.V_nil _ _ _ _ _ | exact Kd.Q_nil _ _ _ _ _ | exact Kd.S_nil _ _ _ _ _, skB HB.out⟩
end Go.Proofs.Ytagdkmcgepidoaa.P
