/- P.eventApart_holds, part 15 of 41: the contracts of the Go functions that the law calls, its own walk, and its plain law, for every input that the statement speaks of. -/
import Derived.Test.YtagdkmcgepidoaaMAp2
import Derived.Test.YtagdkmcgepidoaaMAp8
import Derived.Test.YtagdkmcgepidoaaMAp13
import Derived.Test.YtagdkmcgepidoaaMAp1
import Derived.Test.YtagdkmcgepidoaaMAp4
set_option linter.unusedVariables false
set_option linter.unusedSimpArgs false
/- F8 -/
namespace Go.Proofs.Ytagdkmcgepidoaa.P
open Go.RowKit Go.Proofs.YtagdkmcgepidoaaW.PrintWords Go.Proofs.YtagdkmcgepidoaaW.PrintLast Go.Proofs.YtagdkmcgepidoaaW.PrintMore
attribute [local go_sem] max2_int min2_int max_two min_two max_three min_three max_four min_four   -- for this text's walks alone
set_option linter.unusedVariables false
set_option linter.unusedSimpArgs false
def event_Calls.f (l0 : List (S67)) : Option ((List (S38)) × Int) := (event_Check.f l0).bind fun t107 => (if t107 = 0 then ((event_calls.f l0).bind fun t108 => (some (t108, 0))) else (some (([] : List (S38)), t107)))
set_option maxHeartbeats 8000000 in
set_option maxRecDepth 100000 in
theorem event_Calls.calls (A0 : Option Addr) (c0 : Nat) (l0 : List (S67)) (r1 : List (S38)) (r2 : Int) (w : World) (hr0 : Kd.C k67 w A0 l0.length l0) (hc0 : l0.length ≤ c0) (h : event_Calls.f l0 = some (r1, r2)) :
  Calls Try.prog 13 #[.slice A0 l0.length c0] w fun e w' => ∃ v0_ : Value, e = .returned (.tuple #[v0_, .int .i64 r2]) ∧ Kd.S k38 38 w' w.heap.size (fun _ => True) v0_ r1 ∧ Below w.heap.size w w' := by
 have HR0 := asd hr0
 have HC0 := asd hc0
 clear hr0 hc0
 have HB := asd (Below.refl w.heap.size w)
 have H : ((event_Check.f l0).bind fun t107 => (if t107 = 0 then ((event_calls.f l0).bind fun t108 => (some (t108, 0))) else (some (([] : List (S38)), t107)))) = some (r1, r2) := h
 clear h
 replace H := Option.bind_eq_some_iff.mp H
 obtain ⟨t107, A20, H⟩ := H
 replace H : (if t107 = 0 then ((event_calls.f l0).bind fun t108 => (some (t108, 0))) else (some (([] : List (S38)), t107))) = some (r1, r2) := H
 have A2 := asd A20
 clear A20
 by_cases c3 : t107 = 0
 ·
  rw [if_pos c3] at H
  have c3b0 : (t107 == 0) = true := beq_iff_eq.mpr c3
  have c3b1 : (t107 != 0) = false := bne_eq_false_iff_eq.mpr c3
  clear c3
  replace H := Option.bind_eq_some_iff.mp H
  obtain ⟨t108, A40, H⟩ := H
  replace H : (some (t108, 0)) = some (r1, r2) := H
  have A4 := asd A40
  clear A40
  simp only [Option.some.injEq, Prod.mk.injEq] at H
  obtain ⟨rfl, rfl⟩ := H
  go_enter Try.func13, Try.ntmps13
  go_wp2_with (first | ((with_reducible refine gate_callee (f := 30) rfl ?_); refine goesL_ (some 6) rfl rfl Try.func30 (by kernel_rfl) rfl #[.slice A0 l0.length c0] rfl ags ?_; (with_reducible refine (event_Check.calls _ _ l0 t107 _ ?side1 ?side2 A2.out).mono ?_); (case side1 => exact skC HR0.out); (case side2 => exact HC0.out); rintro e w5 ⟨rfl, hb⟩; refine ⟨_, rfl, ?_⟩; have n0_ := asd (below_step (skB HB.out) hb); clear HB; have HB := n0_; clear n0_; (try clear hb); (try clear hb2); (try clear hk); (try clear hi)) | ((with_reducible refine gate_callee (f := 46) rfl ?_); refine goesL_ (some 11) rfl rfl Try.func46 (by kernel_rfl) rfl #[.slice A0 l0.length c0] rfl ags ?_; (with_reducible refine (event_calls.calls _ _ l0 t108 _ ?side1 ?side2 A4.out).mono ?_); (case side1 => exact skC (Kd.C_below HR0.out HB.out)); (case side2 => exact HC0.out); rintro e w6 ⟨v109, rfl, ho0, hb⟩; refine ⟨_, rfl, ?_⟩; have n0_ := asd (Kd.S_lower ho0 (below_size (skB HB.out))); have n1_ := asd (below_step (skB HB.out) hb); clear HB; have HO110 := n0_; have HB := n1_; clear n0_ n1_; (try clear hb); (try clear hb2); (try clear hk); (try clear hi); (try clear ho0)))
  go_ret2
  exact ⟨_, re, by (with_reducible repeat (first | apply Kd.S_alloc | apply Kd.S_drewN | apply Kd.S_drew)); exact HO110.out, skB HB.out⟩
 ·
  rw [if_neg c3] at H
  have c3b0 : (t107 == 0) = false := beq_eq_false_iff_ne.mpr c3
  have c3b1 : (t107 != 0) = true := bne_iff_ne.mpr c3
  simp only [Option.some.injEq, Prod.mk.injEq] at H
  obtain ⟨rfl, rfl⟩ := H
  go_enter Try.func13, Try.ntmps13
  go_wp2_with (first | ((with_reducible refine gate_callee (f := 30) rfl ?_); refine goesL_ (some 6) rfl rfl Try.func30 (by kernel_rfl) rfl #[.slice A0 l0.length c0] rfl ags ?_; (with_reducible refine (event_Check.calls _ _ l0 t107 _ ?side1 ?side2 A2.out).mono ?_); (case side1 => exact skC HR0.out); (case side2 => exact HC0.out); rintro e w7 ⟨rfl, hb⟩; refine ⟨_, rfl, ?_⟩; have n0_ := asd (below_step (skB HB.out) hb); clear HB; have HB := n0_; clear n0_; (try clear hb); (try clear hb2); (try clear hk); (try clear hi)))
  go_ret2
  exact ⟨_, re, by first | exact Kd.S_nil _ _ _ _ _ | exact Kd.N_nil _ _ _ _ _ | exact Kd.V_nil _ _ _ _ _ | exact Kd.Q_nil _ _ _ _ _ | exact Kd.R_nil _ _ _ _ _, skB HB.out⟩
end Go.Proofs.Ytagdkmcgepidoaa.P
/- F10 -/
namespace Go.Proofs.Ytagdkmcgepidoaa.P
open Go.RowKit Go.Proofs.YtagdkmcgepidoaaW.PrintWords Go.Proofs.YtagdkmcgepidoaaW.PrintLast Go.Proofs.YtagdkmcgepidoaaW.PrintMore
attribute [local go_sem] max2_int min2_int max_two min_two max_three min_three max_four min_four   -- for this text's walks alone
set_option linter.unusedVariables false
set_option linter.unusedSimpArgs false
def event_Ahead.f (l0 : List (S67)) (a1 : Int) (a2 : Int) : Option (Bool × Int) := (event_Calls.f l0).bind fun bt113 => (if bt113.2 = 0 then (if a1 < 0 then (some (false, 1)) else (if a2 < 0 then (some (false, 1)) else (if a1 ≥ (bt113.1.length : Int) then (some (false, 1)) else (if a2 ≥ (bt113.1.length : Int) then (some (false, 1)) else (if 0 ≤ a1 then (if a1 < (bt113.1.length : Int) then (if 0 ≤ a2 then (if a2 < (bt113.1.length : Int) then ((event_ahead.f ((J38 bt113.1 a1).f0) ((J38 bt113.1 a1).f1.f0) ((J38 bt113.1 a1).f1.f1) ((J38 bt113.1 a1).f1.f2) ((J38 bt113.1 a1).f1.f3) ((J38 bt113.1 a1).f2.f0) ((J38 bt113.1 a1).f2.f1) ((J38 bt113.1 a1).f2.f2) ((J38 bt113.1 a1).f2.f3) ((J38 bt113.1 a1).f3) ((J38 bt113.1 a1).f4) ((J38 bt113.1 a2).f0) ((J38 bt113.1 a2).f1.f0) ((J38 bt113.1 a2).f1.f1) ((J38 bt113.1 a2).f1.f2) ((J38 bt113.1 a2).f1.f3) ((J38 bt113.1 a2).f2.f0) ((J38 bt113.1 a2).f2.f1) ((J38 bt113.1 a2).f2.f2) ((J38 bt113.1 a2).f2.f3) ((J38 bt113.1 a2).f3) ((J38 bt113.1 a2).f4)).bind fun t119 => (some (t119, 0))) else (none)) else (none)) else (none)) else (none)))))) else (some (false, bt113.2)))
def event_Ahead.T6 : Bool × List (List Nat × List Nat) := (true, [([], []), ([], []), ([0, 1], [0, 1]), ([2], [2]), ([], []), ([], []), ([4, 5], [4, 5]), ([6], [6]), ([3, 7], [3, 7]), ([8, 8, 0, 1, 2, 3, 4, 5, 6, 7, 8], [8]), ([9, 0, 1, 2, 3, 4, 5, 6, 7, 8, 9], [])])
def event_Ahead.B6 : List Nat := [0, 0, 3, 7, 0, 0, 48, 112, 255, 511, 1023]
theorem event_Ahead.tab6 : rtab .any (opsOf Try.f14 6) = event_Ahead.T6 := by kernel_rfl
theorem event_Ahead.bits6 : waitsOk event_Ahead.T6.2 event_Ahead.B6 = true := by kernel_rfl
set_option maxHeartbeats 8000000 in
set_option maxRecDepth 100000 in
theorem event_Ahead.calls (A0 : Option Addr) (c0 : Nat) (l0 : List (S67)) (a1 : Int) (a2 : Int) (r1 : Bool) (r2 : Int) (w : World) (hr0 : Kd.C k67 w A0 l0.length l0) (hc0 : l0.length ≤ c0) (h : event_Ahead.f l0 a1 a2 = some (r1, r2)) :
  Calls Try.prog 14 #[.slice A0 l0.length c0, .int .i64 a1, .int .i64 a2] w fun e w' => e = .returned (.tuple #[.bool r1, .int .i64 r2]) ∧ Below w.heap.size w w' := by
 have hu38 := Try.underlying38
 have HR0 := asd hr0
 have HC0 := asd hc0
 clear hr0 hc0
 have HB := asd (Below.refl w.heap.size w)
 have H : ((event_Calls.f l0).bind fun bt113 => (if bt113.2 = 0 then (if a1 < 0 then (some (false, 1)) else (if a2 < 0 then (some (false, 1)) else (if a1 ≥ (bt113.1.length : Int) then (some (false, 1)) else (if a2 ≥ (bt113.1.length : Int) then (some (false, 1)) else (if 0 ≤ a1 then (if a1 < (bt113.1.length : Int) then (if 0 ≤ a2 then (if a2 < (bt113.1.length : Int) then ((event_ahead.f ((J38 bt113.1 a1).f0) ((J38 bt113.1 a1).f1.f0) ((J38 bt113.1 a1).f1.f1) ((J38 bt113.1 a1).f1.f2) ((J38 bt113.1 a1).f1.f3) ((J38 bt113.1 a1).f2.f0) ((J38 bt113.1 a1).f2.f1) ((J38 bt113.1 a1).f2.f2) ((J38 bt113.1 a1).f2.f3) ((J38 bt113.1 a1).f3) ((J38 bt113.1 a1).f4) ((J38 bt113.1 a2).f0) ((J38 bt113.1 a2).f1.f0) ((J38 bt113.1 a2).f1.f1) ((J38 bt113.1 a2).f1.f2) ((J38 bt113.1 a2).f1.f3) ((J38 bt113.1 a2).f2.f0) ((J38 bt113.1 a2).f2.f1) ((J38 bt113.1 a2).f2.f2) ((J38 bt113.1 a2).f2.f3) ((J38 bt113.1 a2).f3) ((J38 bt113.1 a2).f4)).bind fun t119 => (some (t119, 0))) else (none)) else (none)) else (none)) else (none)))))) else (some (false, bt113.2)))) = some (r1, r2) := h
 clear h
 replace H := Option.bind_eq_some_iff.mp H
 obtain ⟨⟨t113, t114⟩, A40, H⟩ := H
 replace H : (if t114 = 0 then (if a1 < 0 then (some (false, 1)) else (if a2 < 0 then (some (false, 1)) else (if a1 ≥ (t113.length : Int) then (some (false, 1)) else (if a2 ≥ (t113.length : Int) then (some (false, 1)) else (if 0 ≤ a1 then (if a1 < (t113.length : Int) then (if 0 ≤ a2 then (if a2 < (t113.length : Int) then ((event_ahead.f ((J38 t113 a1).f0) ((J38 t113 a1).f1.f0) ((J38 t113 a1).f1.f1) ((J38 t113 a1).f1.f2) ((J38 t113 a1).f1.f3) ((J38 t113 a1).f2.f0) ((J38 t113 a1).f2.f1) ((J38 t113 a1).f2.f2) ((J38 t113 a1).f2.f3) ((J38 t113 a1).f3) ((J38 t113 a1).f4) ((J38 t113 a2).f0) ((J38 t113 a2).f1.f0) ((J38 t113 a2).f1.f1) ((J38 t113 a2).f1.f2) ((J38 t113 a2).f1.f3) ((J38 t113 a2).f2.f0) ((J38 t113 a2).f2.f1) ((J38 t113 a2).f2.f2) ((J38 t113 a2).f2.f3) ((J38 t113 a2).f3) ((J38 t113 a2).f4)).bind fun t119 => (some (t119, 0))) else (none)) else (none)) else (none)) else (none)))))) else (some (false, t114))) = some (r1, r2) := H
 have A4 := asd A40
 clear A40
 by_cases c5 : t114 = 0
 ·
  rw [if_pos c5] at H
  have c5b0 : (t114 == 0) = true := beq_iff_eq.mpr c5
  have c5b1 : (t114 != 0) = false := bne_eq_false_iff_eq.mpr c5
  clear c5
  by_cases c6 : a1 < 0
  ·
   rw [if_pos c6] at H
   have c6b0 : decide (a1 < 0) = true := decide_eq_true c6
   clear c6
   simp only [Option.some.injEq, Prod.mk.injEq] at H
   obtain ⟨rfl, rfl⟩ := H
   go_enter Try.func14, Try.ntmps14
   go_wp2_with (first | ((with_reducible refine gate_callee (f := 13) rfl ?_); refine goesL_ (some 12) rfl rfl Try.func13 (by kernel_rfl) rfl #[.slice A0 l0.length c0] rfl ags ?_; (with_reducible refine (event_Calls.calls _ _ l0 t113 t114 _ ?side1 ?side2 A4.out).mono ?_); (case side1 => exact skC HR0.out); (case side2 => exact HC0.out); rintro e w7 ⟨v115, rfl, ho0, hb⟩; refine ⟨_, rfl, ?_⟩; have n0_ := asd (Kd.S_lower ho0 (below_size (skB HB.out))); have n1_ := asd (below_step (skB HB.out) hb); clear HB; have HO116 := n0_; have HB := n1_; clear n0_ n1_; (try clear hb); (try clear hb2); (try clear hk); (try clear hi); (try clear ho0)))
   go_ret2
   exact ⟨re, skB HB.out⟩
  ·
   rw [if_neg c6] at H
   have c6b0 : decide (a1 < 0) = false := decide_eq_false c6
   clear c6
   by_cases c8 : a2 < 0
   ·
    rw [if_pos c8] at H
    have c8b0 : decide (a2 < 0) = true := decide_eq_true c8
    clear c8
    simp only [Option.some.injEq, Prod.mk.injEq] at H
    obtain ⟨rfl, rfl⟩ := H
    go_enter Try.func14, Try.ntmps14
    go_wp2_with (first | ((with_reducible refine gate_callee (f := 13) rfl ?_); refine goesL_ (some 12) rfl rfl Try.func13 (by kernel_rfl) rfl #[.slice A0 l0.length c0] rfl ags ?_; (with_reducible refine (event_Calls.calls _ _ l0 t113 t114 _ ?side1 ?side2 A4.out).mono ?_); (case side1 => exact skC HR0.out); (case side2 => exact HC0.out); rintro e w9 ⟨v115, rfl, ho0, hb⟩; refine ⟨_, rfl, ?_⟩; have n0_ := asd (Kd.S_lower ho0 (below_size (skB HB.out))); have n1_ := asd (below_step (skB HB.out) hb); clear HB; have HO116 := n0_; have HB := n1_; clear n0_ n1_; (try clear hb); (try clear hb2); (try clear hk); (try clear hi); (try clear ho0)))
    go_ret2
    exact ⟨re, skB HB.out⟩
   ·
    rw [if_neg c8] at H
    have c8b0 : decide (a2 < 0) = false := decide_eq_false c8
    clear c8
    by_cases c10 : a1 ≥ (t113.length : Int)
    ·
     rw [if_pos c10] at H
     have c10b0 : decide ((t113.length : Int) ≤ a1) = true := decide_eq_true c10
     clear c10
     simp only [Option.some.injEq, Prod.mk.injEq] at H
     obtain ⟨rfl, rfl⟩ := H
     go_enter Try.func14, Try.ntmps14
     go_wp2_with (first | ((with_reducible refine gate_callee (f := 13) rfl ?_); refine goesL_ (some 12) rfl rfl Try.func13 (by kernel_rfl) rfl #[.slice A0 l0.length c0] rfl ags ?_; (with_reducible refine (event_Calls.calls _ _ l0 t113 t114 _ ?side1 ?side2 A4.out).mono ?_); (case side1 => exact skC HR0.out); (case side2 => exact HC0.out); rintro e w11 ⟨v115, rfl, ho0, hb⟩; refine ⟨_, rfl, ?_⟩; have n0_ := asd (Kd.S_lower ho0 (below_size (skB HB.out))); have n1_ := asd (below_step (skB HB.out) hb); clear HB; have HO116 := n0_; have HB := n1_; clear n0_ n1_; (try clear hb); (try clear hb2); (try clear hk); (try clear hi); (try clear ho0); obtain ⟨Ao12, co12, eo12⟩ := Kd.S_slice HO116.out; subst eo12))
     go_ret2
     exact ⟨re, skB HB.out⟩
    ·
     rw [if_neg c10] at H
     have c10b0 : decide ((t113.length : Int) ≤ a1) = false := decide_eq_false c10
     clear c10
     by_cases c13 : a2 ≥ (t113.length : Int)
     ·
      rw [if_pos c13] at H
      have c13b0 : decide ((t113.length : Int) ≤ a2) = true := decide_eq_true c13
      clear c13
      simp only [Option.some.injEq, Prod.mk.injEq] at H
      obtain ⟨rfl, rfl⟩ := H
      go_enter Try.func14, Try.ntmps14
      go_wp2_with (first | ((with_reducible refine gate_callee (f := 13) rfl ?_); refine goesL_ (some 12) rfl rfl Try.func13 (by kernel_rfl) rfl #[.slice A0 l0.length c0] rfl ags ?_; (with_reducible refine (event_Calls.calls _ _ l0 t113 t114 _ ?side1 ?side2 A4.out).mono ?_); (case side1 => exact skC HR0.out); (case side2 => exact HC0.out); rintro e w14 ⟨v115, rfl, ho0, hb⟩; refine ⟨_, rfl, ?_⟩; have n0_ := asd (Kd.S_lower ho0 (below_size (skB HB.out))); have n1_ := asd (below_step (skB HB.out) hb); clear HB; have HO116 := n0_; have HB := n1_; clear n0_ n1_; (try clear hb); (try clear hb2); (try clear hk); (try clear hi); (try clear ho0); obtain ⟨Ao15, co15, eo15⟩ := Kd.S_slice HO116.out; subst eo15))
      go_ret2
      exact ⟨re, skB HB.out⟩
     ·
      rw [if_neg c13] at H
      have c13b0 : decide ((t113.length : Int) ≤ a2) = false := decide_eq_false c13
      clear c13
      by_cases c16 : 0 ≤ a1
      ·
       rw [if_pos c16] at H
       have c16b0 : decide (0 ≤ a1) = true := decide_eq_true c16
       clear c16
       by_cases c17 : a1 < (t113.length : Int)
       ·
        rw [if_pos c17] at H
        have c17b0 : decide (a1 < (t113.length : Int)) = true := decide_eq_true c17
        clear c17
        by_cases c18 : 0 ≤ a2
        ·
         rw [if_pos c18] at H
         have c18b0 : decide (0 ≤ a2) = true := decide_eq_true c18
         clear c18
         by_cases c19 : a2 < (t113.length : Int)
         ·
          rw [if_pos c19] at H
          have c19b0 : decide (a2 < (t113.length : Int)) = true := decide_eq_true c19
          clear c19
          replace H := Option.bind_eq_some_iff.mp H
          obtain ⟨t119, A200, H⟩ := H
          replace H : (some (t119, 0)) = some (r1, r2) := H
          have A20 := asd A200
          clear A200
          simp only [Option.some.injEq, Prod.mk.injEq] at H
          obtain ⟨rfl, rfl⟩ := H
          go_enter Try.func14, Try.ntmps14
          try go_wp2_with (first | ((with_reducible refine gate_callee (f := 13) rfl ?_); refine goesL_ (some 12) rfl rfl Try.func13 (by kernel_rfl) rfl #[.slice A0 l0.length c0] rfl ags ?_; (with_reducible refine (event_Calls.calls _ _ l0 t113 t114 _ ?side1 ?side2 A4.out).mono ?_); (case side1 => exact skC HR0.out); (case side2 => exact HC0.out); rintro e w21 ⟨v115, rfl, ho0, hb⟩; refine ⟨_, rfl, ?_⟩; have n0_ := asd (Kd.S_lower ho0 (below_size (skB HB.out))); have n1_ := asd (below_step (skB HB.out) hb); clear HB; have HO116 := n0_; have HB := n1_; clear n0_ n1_; (try clear hb); (try clear hb2); (try clear hk); (try clear hi); (try clear ho0); obtain ⟨Ao22, co22, eo22⟩ := Kd.S_slice HO116.out; subst eo22))
          have n0_ := asd (Kd.S_drew HO116.out)
          have n1_ := asd (below_drew1 HB.out)
          clear HO116
          clear HB
          have HO116 := n0_
          have HB := n1_
          clear n0_ n1_
          have p117 : 0 ≤ (a1 : Int) := dt
          have q117 : a1 < (t113.length : Int) := dt
          obtain ⟨ad117, A117_8, c117_8, e117, hx117_0, hx117_1, hx117_2, hx117_3, hx117_4, hx117_5, hx117_6, hx117_7, hx117_8, hx117_9, hx117_10, hl117_8, hi117_8⟩ := at_T38 (Kd.S_reads' HO116.out).2.2 a1 p117 q117
          cases e117
          obtain ⟨ce117, hce117, hMe117, hcc117⟩ := Kd.S_get HO116.out z38 a1 p117 (by first | exact q117 | exact dt | (have e_ := (Kd.S_reads' HO116.out).1; omega))
          obtain ⟨ve117_8, rfl, ge117_8⟩ := k38_openM hMe117
          have hv117_8 := hcc117 8 _ rfl
          rw [add_field _ _ 8 (by omega)] at hv117_8
          replace hv117_8 := Option.some.inj (hv117_8.symm.trans hx117_8)
          rw [hv117_8] at ge117_8
          have HL117_8 := asd (show Kd.R k70 70 _ _ _ _ ((J38 t113 a1).f2.f3) from ge117_8)
          clear hv117_8 ge117_8
          clear hcc117 hce117
          have HR117_8 := asd hi117_8
          have HC117_8 := asd hl117_8
          clear hi117_8 hl117_8
          replace p117 := eq_true p117
          replace q117 := eq_true q117
          have p118 : 0 ≤ (a2 : Int) := dt
          have q118 : a2 < (t113.length : Int) := dt
          obtain ⟨ad118, A118_8, c118_8, e118, hx118_0, hx118_1, hx118_2, hx118_3, hx118_4, hx118_5, hx118_6, hx118_7, hx118_8, hx118_9, hx118_10, hl118_8, hi118_8⟩ := at_T38 (Kd.S_reads' HO116.out).2.2 a2 p118 q118
          obtain rfl : ad117 = ad118 := (by injection e118)
          obtain ⟨ce118, hce118, hMe118, hcc118⟩ := Kd.S_get HO116.out z38 a2 p118 (by first | exact q118 | exact dt | (have e_ := (Kd.S_reads' HO116.out).1; omega))
          obtain ⟨ve118_8, rfl, ge118_8⟩ := k38_openM hMe118
          have hv118_8 := hcc118 8 _ rfl
          rw [add_field _ _ 8 (by omega)] at hv118_8
          replace hv118_8 := Option.some.inj (hv118_8.symm.trans hx118_8)
          rw [hv118_8] at ge118_8
          have HL118_8 := asd (show Kd.R k70 70 _ _ _ _ ((J38 t113 a2).f2.f3) from ge118_8)
          clear hv118_8 ge118_8
          clear hcc118 hce118
          have HR118_8 := asd hi118_8
          have HC118_8 := asd hl118_8
          clear hi118_8 hl118_8
          replace p118 := eq_true p118
          replace q118 := eq_true q118
          refine start_ (n := 11) (S := fun w' => w'.cell? (ad117.add ((a1).toNat * 11)) = some (.int .i64 ((J38 t113 a1).f0)) ∧ w'.cell? ⟨(ad117.add ((a1).toNat * 11)).block, (ad117.add ((a1).toNat * 11)).off + 1, none⟩ = some (.int .i64 ((J38 t113 a1).f1.f0)) ∧ w'.cell? ⟨(ad117.add ((a1).toNat * 11)).block, (ad117.add ((a1).toNat * 11)).off + 2, none⟩ = some (.int .i64 ((J38 t113 a1).f1.f1)) ∧ w'.cell? ⟨(ad117.add ((a1).toNat * 11)).block, (ad117.add ((a1).toNat * 11)).off + 3, none⟩ = some (.int .i64 ((J38 t113 a1).f1.f2)) ∧ w'.cell? ⟨(ad117.add ((a1).toNat * 11)).block, (ad117.add ((a1).toNat * 11)).off + 4, none⟩ = some (.int .i64 ((J38 t113 a1).f1.f3)) ∧ w'.cell? ⟨(ad117.add ((a1).toNat * 11)).block, (ad117.add ((a1).toNat * 11)).off + 5, none⟩ = some (.bool ((J38 t113 a1).f2.f0)) ∧ w'.cell? ⟨(ad117.add ((a1).toNat * 11)).block, (ad117.add ((a1).toNat * 11)).off + 6, none⟩ = some (.int .i64 ((J38 t113 a1).f2.f1)) ∧ w'.cell? ⟨(ad117.add ((a1).toNat * 11)).block, (ad117.add ((a1).toNat * 11)).off + 7, none⟩ = some (.int .i64 ((J38 t113 a1).f2.f2)) ∧ w'.cell? ⟨(ad117.add ((a1).toNat * 11)).block, (ad117.add ((a1).toNat * 11)).off + 8, none⟩ = some (.slice A117_8 ((J38 t113 a1).f2.f3).length c117_8) ∧ w'.cell? ⟨(ad117.add ((a1).toNat * 11)).block, (ad117.add ((a1).toNat * 11)).off + 9, none⟩ = some (.int .i64 ((J38 t113 a1).f3)) ∧ w'.cell? ⟨(ad117.add ((a1).toNat * 11)).block, (ad117.add ((a1).toNat * 11)).off + 10, none⟩ = some (.int .i64 ((J38 t113 a1).f4)) ∧ w'.cell? (ad117.add ((a2).toNat * 11)) = some (.int .i64 ((J38 t113 a2).f0)) ∧ w'.cell? ⟨(ad117.add ((a2).toNat * 11)).block, (ad117.add ((a2).toNat * 11)).off + 1, none⟩ = some (.int .i64 ((J38 t113 a2).f1.f0)) ∧ w'.cell? ⟨(ad117.add ((a2).toNat * 11)).block, (ad117.add ((a2).toNat * 11)).off + 2, none⟩ = some (.int .i64 ((J38 t113 a2).f1.f1)) ∧ w'.cell? ⟨(ad117.add ((a2).toNat * 11)).block, (ad117.add ((a2).toNat * 11)).off + 3, none⟩ = some (.int .i64 ((J38 t113 a2).f1.f2)) ∧ w'.cell? ⟨(ad117.add ((a2).toNat * 11)).block, (ad117.add ((a2).toNat * 11)).off + 4, none⟩ = some (.int .i64 ((J38 t113 a2).f1.f3)) ∧ w'.cell? ⟨(ad117.add ((a2).toNat * 11)).block, (ad117.add ((a2).toNat * 11)).off + 5, none⟩ = some (.bool ((J38 t113 a2).f2.f0)) ∧ w'.cell? ⟨(ad117.add ((a2).toNat * 11)).block, (ad117.add ((a2).toNat * 11)).off + 6, none⟩ = some (.int .i64 ((J38 t113 a2).f2.f1)) ∧ w'.cell? ⟨(ad117.add ((a2).toNat * 11)).block, (ad117.add ((a2).toNat * 11)).off + 7, none⟩ = some (.int .i64 ((J38 t113 a2).f2.f2)) ∧ w'.cell? ⟨(ad117.add ((a2).toNat * 11)).block, (ad117.add ((a2).toNat * 11)).off + 8, none⟩ = some (.slice A118_8 ((J38 t113 a2).f2.f3).length c118_8) ∧ w'.cell? ⟨(ad117.add ((a2).toNat * 11)).block, (ad117.add ((a2).toNat * 11)).off + 9, none⟩ = some (.int .i64 ((J38 t113 a2).f3)) ∧ w'.cell? ⟨(ad117.add ((a2).toNat * 11)).block, (ad117.add ((a2).toNat * 11)).off + 10, none⟩ = some (.int .i64 ((J38 t113 a2).f4))) (ds := []) #[false,false,false,false,false,false,false,false,false,false,false] (by kernel_rfl) rfl rfl ⟨hx117_0, hx117_1, hx117_2, hx117_3, hx117_4, hx117_5, hx117_6, hx117_7, hx117_8, hx117_9, hx117_10, hx118_0, hx118_1, hx118_2, hx118_3, hx118_4, hx118_5, hx118_6, hx118_7, hx118_8, hx118_9, hx118_10⟩ (fun hHeld => ?_); refine with_tabW event_Ahead.tab6 event_Ahead.bits6 (fun HT_ HW_ => ?_)
          generalize w21.drew = w23 at HO116 HB HL117_8 HL118_8 HR117_8 HR118_8 hx117_0 hx117_1 hx117_10 hx117_2 hx117_3 hx117_4 hx117_5 hx117_6 hx117_7 hx117_8 hx117_9 hx118_0 hx118_1 hx118_10 hx118_2 hx118_3 hx118_4 hx118_5 hx118_6 hx118_7 hx118_8 hx118_9 hHeld ⊢
          refine pure_ (i := 0) (N := some 36) (v := ?_) (a' := ?_) #[true,false,false,false,false,false,false,false,false,false,false] rfl rfl (aK HT_.out) (fun _ _ _ h => h) (Or.inl ⟨by rfl, ?_⟩) ?_ ?_
          rotate_left
          ·
           intro w'
           go_simp
           with_reducible rfl
          rotate_left
          ·
           simp only [Act.put, sp]
           rfl
          refine pure_ (i := 1) (N := some 37) (v := ?_) (a' := ?_) #[true,true,false,false,false,false,false,false,false,false,false] rfl rfl (aK HT_.out) (fun _ _ _ h => h) (Or.inl ⟨by rfl, ?_⟩) ?_ ?_
          rotate_left
          ·
           intro w'
           go_simp
           with_reducible rfl
          rotate_left
          ·
           simp only [Act.put, sp]
           rfl
          refine pure_ (i := 2) (N := some 38) (v := ?_) (a' := ?_) #[true,true,true,false,false,false,false,false,false,false,false] rfl rfl (aK HT_.out) (fun _ _ _ h => h) (Or.inl ⟨by rfl, ?_⟩) ?_ ?_
          rotate_left
          ·
           intro w'
           go_simp
           with_reducible rfl
          rotate_left
          ·
           simp only [Act.put, sp]
           rfl
          refine pure_ (i := 4) (N := some 40) (v := ?_) (a' := ?_) #[true,true,true,false,true,false,false,false,false,false,false] rfl rfl (aK HT_.out) (fun _ _ _ h => h) (Or.inl ⟨by rfl, ?_⟩) ?_ ?_
          rotate_left
          ·
           intro w'
           go_simp
           with_reducible rfl
          rotate_left
          ·
           simp only [Act.put, sp]
           rfl
          refine pure_ (i := 5) (N := some 41) (v := ?_) (a' := ?_) #[true,true,true,false,true,true,false,false,false,false,false] rfl rfl (aK HT_.out) (fun _ _ _ h => h) (Or.inl ⟨by rfl, ?_⟩) ?_ ?_
          rotate_left
          ·
           intro w'
           go_simp
           with_reducible rfl
          rotate_left
          ·
           simp only [Act.put, sp]
           rfl
          refine pure_ (i := 6) (N := some 42) (v := ?_) (a' := ?_) #[true,true,true,false,true,true,true,false,false,false,false] rfl rfl (aK HT_.out) (fun _ _ _ h => h) (Or.inl ⟨by rfl, ?_⟩) ?_ ?_
          rotate_left
          ·
           intro w'
           go_simp
           with_reducible rfl
          rotate_left
          ·
           simp only [Act.put, sp]
           rfl
          refine take_ (i := 3) (N := some 39) (v := ?_) (a' := ?_) #[true,true,true,true,true,true,true,false,false,false,false] rfl rfl (take_ofW HT_.out HW_.out (by kernel_rfl)) (fun _ _ _ h => h) (Or.inl ⟨by rfl, ?_⟩) hHeld ?_ ?_
          rotate_left
          ·
           rintro w' ⟨s0, s1, s2, s3, s4, s5, s6, s7, s8, s9, s10, s11, s12, s13, s14, s15, s16, s17, s18, s19, s20, s21⟩
           go_simp
           with_reducible rfl
          rotate_left
          ·
           simp only [Act.put, sp]
           rfl
          refine take_ (i := 7) (N := some 43) (v := ?_) (a' := ?_) #[true,true,true,true,true,true,true,true,false,false,false] rfl rfl (take_ofW HT_.out HW_.out (by kernel_rfl)) (fun _ _ _ h => h) (Or.inl ⟨by rfl, ?_⟩) hHeld ?_ ?_
          rotate_left
          ·
           rintro w' ⟨s0, s1, s2, s3, s4, s5, s6, s7, s8, s9, s10, s11, s12, s13, s14, s15, s16, s17, s18, s19, s20, s21⟩
           go_simp
           with_reducible rfl
          rotate_left
          ·
           simp only [Act.put, sp]
           rfl
          refine one_ (i := 8) (N := some 44) #[true,true,true,true,true,true,true,true,true,false,false] rfl rfl (one_of HT_.out (by kernel_rfl)) (by decide) (fun K hK => ?_)
          refine goes_ Try.func47 (by kernel_rfl) rfl #[.agg #[.int .i64 ((J38 t113 a1).f0), .int .i64 ((J38 t113 a1).f1.f0), .int .i64 ((J38 t113 a1).f1.f1), .int .i64 ((J38 t113 a1).f1.f2), .int .i64 ((J38 t113 a1).f1.f3), .bool ((J38 t113 a1).f2.f0), .int .i64 ((J38 t113 a1).f2.f1), .int .i64 ((J38 t113 a1).f2.f2), .slice A117_8 ((J38 t113 a1).f2.f3).length c117_8, .int .i64 ((J38 t113 a1).f3), .int .i64 ((J38 t113 a1).f4)], .agg #[.int .i64 ((J38 t113 a2).f0), .int .i64 ((J38 t113 a2).f1.f0), .int .i64 ((J38 t113 a2).f1.f1), .int .i64 ((J38 t113 a2).f1.f2), .int .i64 ((J38 t113 a2).f1.f3), .bool ((J38 t113 a2).f2.f0), .int .i64 ((J38 t113 a2).f2.f1), .int .i64 ((J38 t113 a2).f2.f2), .slice A118_8 ((J38 t113 a2).f2.f3).length c118_8, .int .i64 ((J38 t113 a2).f3), .int .i64 ((J38 t113 a2).f4)]] (by rfl) rfl rfl ags ?_
          with_reducible refine (event_ahead.calls ((J38 t113 a1).f0) ((J38 t113 a1).f1.f0) ((J38 t113 a1).f1.f1) ((J38 t113 a1).f1.f2) ((J38 t113 a1).f1.f3) ((J38 t113 a1).f2.f0) ((J38 t113 a1).f2.f1) ((J38 t113 a1).f2.f2) _ _ ((J38 t113 a1).f2.f3) ((J38 t113 a1).f3) ((J38 t113 a1).f4) ((J38 t113 a2).f0) ((J38 t113 a2).f1.f0) ((J38 t113 a2).f1.f1) ((J38 t113 a2).f1.f2) ((J38 t113 a2).f1.f3) ((J38 t113 a2).f2.f0) ((J38 t113 a2).f2.f1) ((J38 t113 a2).f2.f2) _ _ ((J38 t113 a2).f2.f3) ((J38 t113 a2).f3) ((J38 t113 a2).f4) t119 _ ?side1 ?side2 ?side3 ?side4 A20.out).mono ?_
          (case side1 => exact skC (by repeat (first | (with_reducible exact HR117_8.out) | (with_reducible refine Kd.C_alloc ?_ _) | (with_reducible refine Kd.C_drewN ?_ _) | (with_reducible refine Kd.C_drew ?_) | exact HR117_8.out)))
          (case side2 => exact HC117_8.out)
          (case side3 => exact skC (by repeat (first | (with_reducible exact HR118_8.out) | (with_reducible refine Kd.C_alloc ?_ _) | (with_reducible refine Kd.C_drewN ?_ _) | (with_reducible refine Kd.C_drew ?_) | exact HR118_8.out)))
          (case side4 => exact HC118_8.out)
          rintro e w24 ⟨rfl, hb⟩
          have HS0_ := (hb.cell (World.block_lt_of_cell? _ _ (hHeld.1))).trans (hHeld.1)
          have HS1_ := (hb.cell (World.block_lt_of_cell? _ _ (hHeld.2.1))).trans (hHeld.2.1)
          have HS2_ := (hb.cell (World.block_lt_of_cell? _ _ (hHeld.2.2.1))).trans (hHeld.2.2.1)
          have HS3_ := (hb.cell (World.block_lt_of_cell? _ _ (hHeld.2.2.2.1))).trans (hHeld.2.2.2.1)
          have HS4_ := (hb.cell (World.block_lt_of_cell? _ _ (hHeld.2.2.2.2.1))).trans (hHeld.2.2.2.2.1)
          have HS5_ := (hb.cell (World.block_lt_of_cell? _ _ (hHeld.2.2.2.2.2.1))).trans (hHeld.2.2.2.2.2.1)
          have HS6_ := (hb.cell (World.block_lt_of_cell? _ _ (hHeld.2.2.2.2.2.2.1))).trans (hHeld.2.2.2.2.2.2.1)
          have HS7_ := (hb.cell (World.block_lt_of_cell? _ _ (hHeld.2.2.2.2.2.2.2.1))).trans (hHeld.2.2.2.2.2.2.2.1)
          have HS8_ := (hb.cell (World.block_lt_of_cell? _ _ (hHeld.2.2.2.2.2.2.2.2.1))).trans (hHeld.2.2.2.2.2.2.2.2.1)
          have HS9_ := (hb.cell (World.block_lt_of_cell? _ _ (hHeld.2.2.2.2.2.2.2.2.2.1))).trans (hHeld.2.2.2.2.2.2.2.2.2.1)
          have HS10_ := (hb.cell (World.block_lt_of_cell? _ _ (hHeld.2.2.2.2.2.2.2.2.2.2.1))).trans (hHeld.2.2.2.2.2.2.2.2.2.2.1)
          have HS11_ := (hb.cell (World.block_lt_of_cell? _ _ (hHeld.2.2.2.2.2.2.2.2.2.2.2.1))).trans (hHeld.2.2.2.2.2.2.2.2.2.2.2.1)
          have HS12_ := (hb.cell (World.block_lt_of_cell? _ _ (hHeld.2.2.2.2.2.2.2.2.2.2.2.2.1))).trans (hHeld.2.2.2.2.2.2.2.2.2.2.2.2.1)
          have HS13_ := (hb.cell (World.block_lt_of_cell? _ _ (hHeld.2.2.2.2.2.2.2.2.2.2.2.2.2.1))).trans (hHeld.2.2.2.2.2.2.2.2.2.2.2.2.2.1)
          have HS14_ := (hb.cell (World.block_lt_of_cell? _ _ (hHeld.2.2.2.2.2.2.2.2.2.2.2.2.2.2.1))).trans (hHeld.2.2.2.2.2.2.2.2.2.2.2.2.2.2.1)
          have HS15_ := (hb.cell (World.block_lt_of_cell? _ _ (hHeld.2.2.2.2.2.2.2.2.2.2.2.2.2.2.2.1))).trans (hHeld.2.2.2.2.2.2.2.2.2.2.2.2.2.2.2.1)
          have HS16_ := (hb.cell (World.block_lt_of_cell? _ _ (hHeld.2.2.2.2.2.2.2.2.2.2.2.2.2.2.2.2.1))).trans (hHeld.2.2.2.2.2.2.2.2.2.2.2.2.2.2.2.2.1)
          have HS17_ := (hb.cell (World.block_lt_of_cell? _ _ (hHeld.2.2.2.2.2.2.2.2.2.2.2.2.2.2.2.2.2.1))).trans (hHeld.2.2.2.2.2.2.2.2.2.2.2.2.2.2.2.2.2.1)
          have HS18_ := (hb.cell (World.block_lt_of_cell? _ _ (hHeld.2.2.2.2.2.2.2.2.2.2.2.2.2.2.2.2.2.2.1))).trans (hHeld.2.2.2.2.2.2.2.2.2.2.2.2.2.2.2.2.2.2.1)
          have HS19_ := (hb.cell (World.block_lt_of_cell? _ _ (hHeld.2.2.2.2.2.2.2.2.2.2.2.2.2.2.2.2.2.2.2.1))).trans (hHeld.2.2.2.2.2.2.2.2.2.2.2.2.2.2.2.2.2.2.2.1)
          have HS20_ := (hb.cell (World.block_lt_of_cell? _ _ (hHeld.2.2.2.2.2.2.2.2.2.2.2.2.2.2.2.2.2.2.2.2.1))).trans (hHeld.2.2.2.2.2.2.2.2.2.2.2.2.2.2.2.2.2.2.2.2.1)
          have HS21_ := (hb.cell (World.block_lt_of_cell? _ _ (hHeld.2.2.2.2.2.2.2.2.2.2.2.2.2.2.2.2.2.2.2.2.2))).trans (hHeld.2.2.2.2.2.2.2.2.2.2.2.2.2.2.2.2.2.2.2.2.2)
          refine ⟨_, rfl, ?_⟩
          have n0_ := asd (Kd.S_below (by (with_reducible repeat (first | apply Kd.S_alloc | apply Kd.S_drewN | apply Kd.S_drew)); exact HO116.out) hb)
          have n1_ := asd (Kd.R_below (skR HL117_8.out) hb)
          have n2_ := asd (Kd.R_below (skR HL118_8.out) hb)
          have n3_ := asd (Kd.C_below (by repeat (first | (with_reducible exact HR117_8.out) | (with_reducible refine Kd.C_alloc ?_ _) | (with_reducible refine Kd.C_drewN ?_ _) | (with_reducible refine Kd.C_drew ?_) | exact HR117_8.out)) hb)
          have n4_ := asd (Kd.C_below (by repeat (first | (with_reducible exact HR118_8.out) | (with_reducible refine Kd.C_alloc ?_ _) | (with_reducible refine Kd.C_drewN ?_ _) | (with_reducible refine Kd.C_drew ?_) | exact HR118_8.out)) hb)
          have n5_ := asd (below_step (skB HB.out) hb)
          clear HO116
          clear HL117_8
          clear HL118_8
          clear HR117_8
          clear HR118_8
          clear HB
          have HO116 := n0_
          have HL117_8 := n1_
          have HL118_8 := n2_
          have HR117_8 := n3_
          have HR118_8 := n4_
          have HB := n5_
          clear n0_ n1_ n2_ n3_ n4_ n5_
          (try clear hb)
          (try clear hb2)
          (try clear hk)
          (try clear hi)
          refine hK.out _ _ ⟨HS0_, HS1_, HS2_, HS3_, HS4_, HS5_, HS6_, HS7_, HS8_, HS9_, HS10_, HS11_, HS12_, HS13_, HS14_, HS15_, HS16_, HS17_, HS18_, HS19_, HS20_, HS21_⟩ (fun hHeld => ?_)
          clear hK K
          refine norm_ (a' := ?_) ?_ ?_
          rotate_left
          ·
           show Act.put _ (some 44) _ = _
           simp only [Act.put, sp]
           rfl
          refine pure_ (i := 9) (N := some 6) (v := ?_) (a' := ?_) #[true,true,true,true,true,true,true,true,true,true,false] rfl rfl (aK HT_.out) (fun _ _ _ h => h) (Or.inl ⟨by rfl, ?_⟩) ?_ ?_
          rotate_left
          ·
           intro w'
           go_simp
           with_reducible rfl
          rotate_left
          ·
           simp only [Act.put, sp]
           rfl
          refine pure_ (i := 10) (N := some 7) (v := ?_) (a' := ?_) #[true,true,true,true,true,true,true,true,true,true,true] rfl rfl (aK HT_.out) (fun _ _ _ h => h) (Or.inl ⟨by rfl, ?_⟩) ?_ ?_
          rotate_left
          ·
           intro w'
           go_simp
           with_reducible rfl
          rotate_left
          ·
           simp only [Act.put, sp]
           rfl
          refine done_ (done_of HT_.out (by kernel_rfl)) ?_
          try go_wp2
          go_ret2
          exact ⟨re, skB HB.out⟩
         ·
          rw [if_neg c19] at H
          exact absurd H (by simp)
        ·
         rw [if_neg c18] at H
         exact absurd H (by simp)
       ·
        rw [if_neg c17] at H
        exact absurd H (by simp)
      ·
       rw [if_neg c16] at H
       exact absurd H (by simp)
 ·
  rw [if_neg c5] at H
  have c5b0 : (t114 == 0) = false := beq_eq_false_iff_ne.mpr c5
  have c5b1 : (t114 != 0) = true := bne_iff_ne.mpr c5
  simp only [Option.some.injEq, Prod.mk.injEq] at H
  obtain ⟨rfl, rfl⟩ := H
  go_enter Try.func14, Try.ntmps14
  go_wp2_with (first | ((with_reducible refine gate_callee (f := 13) rfl ?_); refine goesL_ (some 12) rfl rfl Try.func13 (by kernel_rfl) rfl #[.slice A0 l0.length c0] rfl ags ?_; (with_reducible refine (event_Calls.calls _ _ l0 t113 t114 _ ?side1 ?side2 A4.out).mono ?_); (case side1 => exact skC HR0.out); (case side2 => exact HC0.out); rintro e w25 ⟨v115, rfl, ho0, hb⟩; refine ⟨_, rfl, ?_⟩; have n0_ := asd (Kd.S_lower ho0 (below_size (skB HB.out))); have n1_ := asd (below_step (skB HB.out) hb); clear HB; have HO116 := n0_; have HB := n1_; clear n0_ n1_; (try clear hb); (try clear hb2); (try clear hk); (try clear hi); (try clear ho0)))
  go_ret2
  exact ⟨re, skB HB.out⟩
end Go.Proofs.Ytagdkmcgepidoaa.P
/- F60 -/
namespace Go.Proofs.Ytagdkmcgepidoaa.P
open Go.RowKit Go.Proofs.YtagdkmcgepidoaaW.PrintWords Go.Proofs.YtagdkmcgepidoaaW.PrintLast Go.Proofs.YtagdkmcgepidoaaW.PrintMore
attribute [local go_sem] max2_int min2_int max_two min_two max_three min_three max_four min_four   -- for this text's walks alone
set_option linter.unusedVariables false
set_option linter.unusedSimpArgs false
end Go.Proofs.Ytagdkmcgepidoaa.P
