/- P.eventRows_holds, part 12 of 25: the contracts of the Go functions that the law calls, its own walk, and its plain law, for every input that the statement speaks of. -/
import Derived.Test.YtagdkmcgepidoaaMRw2
import Derived.Test.YtagdkmcgepidoaaMRw4
import Derived.Test.YtagdkmcgepidoaaMRw9
import Derived.Test.YtagdkmcgepidoaaMRw1
set_option linter.unusedVariables false
set_option linter.unusedSimpArgs false
/- F8 -/
namespace Go.Proofs.Ytagdkmcgepidoaa.P
open Go.RowKit Go.Proofs.YtagdkmcgepidoaaW.PrintWords Go.Proofs.YtagdkmcgepidoaaW.PrintLast Go.Proofs.YtagdkmcgepidoaaW.PrintMore
attribute [local go_sem] max2_int min2_int max_two min_two max_three min_three max_four min_four   -- for this text's walks alone
set_option linter.unusedVariables false
set_option linter.unusedSimpArgs false
def event_Calls.f (l0 : List (S67)) : Option ((List (S38)) × Int) := (event_Check.f l0).bind fun t107 => (if t107 = 0 then ((event_calls.f l0).bind fun t108 => (some (t108, 0))) else (some (([] : List (S38)), t107)))
set_option maxHeartbeats 8000000 in
set_option maxRecDepth 100000 in
theorem event_Calls.calls (A0 : Option Addr) (c0 : Nat) (l0 : List (S67)) (r1 : List (S38)) (r2 : Int) (w : World) (hr0 : Kd.C k67 w A0 l0.length l0) (hc0 : l0.length ≤ c0) (h : event_Calls.f l0 = some (r1, r2)) :
  Calls Try.prog 13 #[.slice A0 l0.length c0] w fun e w' => ∃ v0_ : Value, e = .returned (.tuple #[v0_, .int .i64 r2]) ∧ Kd.S k38 38 w' w.heap.size (fun _ => True) v0_ r1 ∧ Below w.heap.size w w' := by
 have HR0 := asd hr0
 have HC0 := asd hc0
 clear hr0 hc0
 have HB := asd (Below.refl w.heap.size w)
 have H : ((event_Check.f l0).bind fun t107 => (if t107 = 0 then ((event_calls.f l0).bind fun t108 => (some (t108, 0))) else (some (([] : List (S38)), t107)))) = some (r1, r2) := h
 clear h
 replace H := Option.bind_eq_some_iff.mp H
 obtain ⟨t107, A20, H⟩ := H
 replace H : (if t107 = 0 then ((event_calls.f l0).bind fun t108 => (some (t108, 0))) else (some (([] : List (S38)), t107))) = some (r1, r2) := H
 have A2 := asd A20
 clear A20
 by_cases c3 : t107 = 0
 ·
  rw [if_pos c3] at H
  have c3b0 : (t107 == 0) = true := beq_iff_eq.mpr c3
  have c3b1 : (t107 != 0) = false := bne_eq_false_iff_eq.mpr c3
  clear c3
  replace H := Option.bind_eq_some_iff.mp H
  obtain ⟨t108, A40, H⟩ := H
  replace H : (some (t108, 0)) = some (r1, r2) := H
  have A4 := asd A40
  clear A40
  simp only [Option.some.injEq, Prod.mk.injEq] at H
  obtain ⟨rfl, rfl⟩ := H
  go_enter Try.func13, Try.ntmps13
  go_wp2_with (first | ((with_reducible refine gate_callee (f := 30) rfl ?_); refine goesL_ (some 6) rfl rfl Try.func30 (by kernel_rfl) rfl #[.slice A0 l0.length c0] rfl ags ?_; (with_reducible refine (event_Check.calls _ _ l0 t107 _ ?side1 ?side2 A2.out).mono ?_); (case side1 => exact skC HR0.out); (case side2 => exact HC0.out); rintro e w5 ⟨rfl, hb⟩; refine ⟨_, rfl, ?_⟩; have n0_ := asd (below_step (skB HB.out) hb); clear HB; have HB := n0_; clear n0_; (try clear hb); (try clear hb2); (try clear hk); (try clear hi)) | ((with_reducible refine gate_callee (f := 46) rfl ?_); refine goesL_ (some 11) rfl rfl Try.func46 (by kernel_rfl) rfl #[.slice A0 l0.length c0] rfl ags ?_; (with_reducible refine (event_calls.calls _ _ l0 t108 _ ?side1 ?side2 A4.out).mono ?_); (case side1 => exact skC (Kd.C_below HR0.out HB.out)); (case side2 => exact HC0.out); rintro e w6 ⟨v109, rfl, ho0, hb⟩; refine ⟨_, rfl, ?_⟩; have n0_ := asd (Kd.S_lower ho0 (below_size (skB HB.out))); have n1_ := asd (below_step (skB HB.out) hb); clear HB; have HO110 := n0_; have HB := n1_; clear n0_ n1_; (try clear hb); (try clear hb2); (try clear hk); (try clear hi); (try clear ho0)))
  go_ret2
  exact ⟨_, re, by (with_reducible repeat (first | apply Kd.S_alloc | apply Kd.S_drewN | apply Kd.S_drew)); exact HO110.out, skB HB.out⟩
 ·
  rw [if_neg c3] at H
  have c3b0 : (t107 == 0) = false := beq_eq_false_iff_ne.mpr c3
  have c3b1 : (t107 != 0) = true := bne_iff_ne.mpr c3
  simp only [Option.some.injEq, Prod.mk.injEq] at H
  obtain ⟨rfl, rfl⟩ := H
  go_enter Try.func13, Try.ntmps13
  go_wp2_with (first | ((with_reducible refine gate_callee (f := 30) rfl ?_); refine goesL_ (some 6) rfl rfl Try.func30 (by kernel_rfl) rfl #[.slice A0 l0.length c0] rfl ags ?_; (with_reducible refine (event_Check.calls _ _ l0 t107 _ ?side1 ?side2 A2.out).mono ?_); (case side1 => exact skC HR0.out); (case side2 => exact HC0.out); rintro e w7 ⟨rfl, hb⟩; refine ⟨_, rfl, ?_⟩; have n0_ := asd (below_step (skB HB.out) hb); clear HB; have HB := n0_; clear n0_; (try clear hb); (try clear hb2); (try clear hk); (try clear hi)))
  go_ret2
  exact ⟨_, re, by first | exact Kd.S_nil _ _ _ _ _ | exact Kd.N_nil _ _ _ _ _ | exact Kd.V_nil _ _ _ _ _ | exact Kd.Q_nil _ _ _ _ _ | exact Kd.R_nil _ _ _ _ _, skB HB.out⟩
end Go.Proofs.Ytagdkmcgepidoaa.P
/- F10 -/
namespace Go.Proofs.Ytagdkmcgepidoaa.P
open Go.RowKit Go.Proofs.YtagdkmcgepidoaaW.PrintWords Go.Proofs.YtagdkmcgepidoaaW.PrintLast Go.Proofs.YtagdkmcgepidoaaW.PrintMore
attribute [local go_sem] max2_int min2_int max_two min_two max_three min_three max_four min_four   -- for this text's walks alone
set_option linter.unusedVariables false
set_option linter.unusedSimpArgs false
def event_Ahead.f (l0 : List (S67)) (a1 : Int) (a2 : Int) : Option (Bool × Int) := (event_Calls.f l0).bind fun bt113 => (if bt113.2 = 0 then (if a1 < 0 then (some (false, 1)) else (if a2 < 0 then (some (false, 1)) else (if a1 ≥ (bt113.1.length : Int) then (some (false, 1)) else (if a2 ≥ (bt113.1.length : Int) then (some (false, 1)) else (if 0 ≤ a1 then (if a1 < (bt113.1.length : Int) then (if 0 ≤ a2 then (if a2 < (bt113.1.length : Int) then ((event_ahead.f ((J38 bt113.1 a1).f0) ((J38 bt113.1 a1).f1.f0) ((J38 bt113.1 a1).f1.f1) ((J38 bt113.1 a1).f1.f2) ((J38 bt113.1 a1).f1.f3) ((J38 bt113.1 a1).f2.f0) ((J38 bt113.1 a1).f2.f1) ((J38 bt113.1 a1).f2.f2) ((J38 bt113.1 a1).f2.f3) ((J38 bt113.1 a1).f3) ((J38 bt113.1 a1).f4) ((J38 bt113.1 a2).f0) ((J38 bt113.1 a2).f1.f0) ((J38 bt113.1 a2).f1.f1) ((J38 bt113.1 a2).f1.f2) ((J38 bt113.1 a2).f1.f3) ((J38 bt113.1 a2).f2.f0) ((J38 bt113.1 a2).f2.f1) ((J38 bt113.1 a2).f2.f2) ((J38 bt113.1 a2).f2.f3) ((J38 bt113.1 a2).f3) ((J38 bt113.1 a2).f4)).bind fun t119 => (some (t119, 0))) else (none)) else (none)) else (none)) else (none)))))) else (some (false, bt113.2)))
def event_Ahead.T6 : Bool × List (List Nat × List Nat) := (true, [([], []), ([], []), ([0, 1], [0, 1]), ([2], [2]), ([], []), ([], []), ([4, 5], [4, 5]), ([6], [6]), ([3, 7], [3, 7]), ([8, 8, 0, 1, 2, 3, 4, 5, 6, 7, 8], [8]), ([9, 0, 1, 2, 3, 4, 5, 6, 7, 8, 9], [])])
def event_Ahead.B6 : List Nat := [0, 0, 3, 7, 0, 0, 48, 112, 255, 511, 1023]
theorem event_Ahead.tab6 : rtab .any (opsOf Try.f14 6) = event_Ahead.T6 := by kernel_rfl
theorem event_Ahead.bits6 : waitsOk event_Ahead.T6.2 event_Ahead.B6 = true := by kernel_rfl
set_option maxHeartbeats 8000000 in
set_option maxRecDepth 100000 in
theorem event_Ahead.calls (A0 : Option Addr) (c0 : Nat) (l0 : List (S67)) (a1 : Int) (a2 : Int) (r1 : Bool) (r2 : Int) (w : World) (hr0 : Kd.C k67 w A0 l0.length l0) (hc0 : l0.length ≤ c0) (h : event_Ahead.f l0 a1 a2 = some (r1, r2)) :
  Calls Try.prog 14 #[.slice A0 l0.length c0, .int .i64 a1, .int .i64 a2] w fun e w' => e = .returned (.tuple #[.bool r1, .int .i64 r2]) ∧ Below w.heap.size w w' := by
 have hu38 := Try.underlying38
 have HR0 := asd hr0
 have HC0 := asd hc0
 clear hr0 hc0
 have HB := asd (Below.refl w.heap.size w)
 have H : ((event_Calls.f l0).bind fun bt113 => (if bt113.2 = 0 then (if a1 < 0 then (some (false, 1)) else (if a2 < 0 then (some (false, 1)) else (if a1 ≥ (bt113.1.length : Int) then (some (false, 1)) else (if a2 ≥ (bt113.1.length : Int) then (some (false, 1)) else (if 0 ≤ a1 then (if a1 < (bt113.1.length : Int) then (if 0 ≤ a2 then (if a2 < (bt113.1.length : Int) then ((event_ahead.f ((J38 bt113.1 a1).f0) ((J38 bt113.1 a1).f1.f0) ((J38 bt113.1 a1).f1.f1) ((J38 bt113.1 a1).f1.f2) ((J38 bt113.1 a1).f1.f3) ((J38 bt113.1 a1).f2.f0) ((J38 bt113.1 a1).f2.f1) ((J38 bt113.1 a1).f2.f2) ((J38 bt113.1 a1).f2.f3) ((J38 bt113.1 a1).f3) ((J38 bt113.1 a1).f4) ((J38 bt113.1 a2).f0) ((J38 bt113.1 a2).f1.f0) ((J38 bt113.1 a2).f1.f1) ((J38 bt113.1 a2).f1.f2) ((J38 bt113.1 a2).f1.f3) ((J38 bt113.1 a2).f2.f0) ((J38 bt113.1 a2).f2.f1) ((J38 bt113.1 a2).f2.f2) ((J38 bt113.1 a2).f2.f3) ((J38 bt113.1 a2).f3) ((J38 bt113.1 a2).f4)).bind fun t119 => (some (t119, 0))) else (none)) else (none)) else (none)) else (none)))))) else (some (false, bt113.2)))) = some (r1, r2) := h
 clear h
 replace H := Option.bind_eq_some_iff.mp H
 obtain ⟨⟨t113, t114⟩, A40, H⟩ := H
 replace H : (if t114 = 0 then (if a1 < 0 then (some (false, 1)) else (if a2 < 0 then (some (false, 1)) else (if a1 ≥ (t113.length : Int) then (some (false, 1)) else (if a2 ≥ (t113.length : Int) then (some (false, 1)) else (if 0 ≤ a1 then (if a1 < (t113.length : Int) then (if 0 ≤ a2 then (if a2 < (t113.length : Int) then ((event_ahead.f ((J38 t113 a1).f0) ((J38 t113 a1).f1.f0) ((J38 t113 a1).f1.f1) ((J38 t113 a1).f1.f2) ((J38 t113 a1).f1.f3) ((J38 t113 a1).f2.f0) ((J38 t113 a1).f2.f1) ((J38 t113 a1).f2.f2) ((J38 t113 a1).f2.f3) ((J38 t113 a1).f3) ((J38 t113 a1).f4) ((J38 t113 a2).f0) ((J38 t113 a2).f1.f0) ((J38 t113 a2).f1.f1) ((J38 t113 a2).f1.f2) ((J38 t113 a2).f1.f3) ((J38 t113 a2).f2.f0) ((J38 t113 a2).f2.f1) ((J38 t113 a2).f2.f2) ((J38 t113 a2).f2.f3) ((J38 t113 a2).f3) ((J38 t113 a2).f4)).bind fun t119 => (some (t119, 0))) else (none)) else (none)) else (none)) else (none)))))) else (some (false, t114))) = some (r1, r2) := H
 have A4 := asd A40
 clear A40
 by_cases c5 : t114 = 0
 ·
  rw [if_pos c5] at H
  have c5b0 : (t114 == 0) = true := beq_iff_eq.mpr c5
  have c5b1 : (t114 != 0) = false := bne_eq_false_iff_eq.mpr c5
  clear c5
  by_cases c6 : a1 < 0
  ·
   rw [if_pos c6] at H
   have c6b0 : decide (a1 < 0) = true := decide_eq_true c6
   clear c6
   simp only [Option.some.injEq, Prod.mk.injEq] at H
   obtain ⟨rfl, rfl⟩ := H
   go_enter Try.func14, Try.ntmps14
   go_wp2_with (first | ((with_reducible refine gate_callee (f := 13) rfl ?_); refine goesL_ (some 12) rfl rfl Try.func13 (by kernel_rfl) rfl #[.slice A0 l0.length c0] rfl ags ?_; (with_reducible refine (event_Calls.calls _ _ l0 t113 t114 _ ?side1 ?side2 A4.out).mono ?_); (case side1 => exact skC HR0.out); (case side2 => exact HC0.out); rintro e w7 ⟨v115, rfl, ho0, hb⟩; refine ⟨_, rfl, ?_⟩; have n0_ := asd (Kd.S_lower ho0 (below_size (skB HB.out))); have n1_ := asd (below_step (skB HB.out) hb); clear HB; have HO116 := n0_; have HB := n1_; clear n0_ n1_; (try clear hb); (try clear hb2); (try clear hk); (try clear hi); (try clear ho0)))
   go_ret2
   exact ⟨re, skB HB.out⟩
  ·
   rw [if_neg c6] at H
   have c6b0 : decide (a1 < 0) = false := decide_eq_false c6
   clear c6
   by_cases c8 : a2 < 0
   ·
    rw [if_pos c8] at H
    have c8b0 : decide (a2 < 0) = true := decide_eq_true c8
    clear c8
    simp only [Option.some.injEq, Prod.mk.injEq] at H
    obtain ⟨rfl, rfl⟩ := H
    go_enter Try.func14, Try.ntmps14
    go_wp2_with (first | ((with_reducible refine gate_callee (f := 13) rfl ?_); refine goesL_ (some 12) rfl rfl Try.func13 (by kernel_rfl) rfl #[.slice A0 l0.length c0] rfl ags ?_; (with_reducible refine (event_Calls.calls _ _ l0 t113 t114 _ ?side1 ?side2 A4.out).mono ?_); (case side1 => exact skC HR0.out); (case side2 => exact HC0.out); rintro e w9 ⟨v115, rfl, ho0, hb⟩; refine ⟨_, rfl, ?_⟩; have n0_ := asd (Kd.S_lower ho0 (below_size (skB HB.out))); have n1_ := asd (below_step (skB HB.out) hb); clear HB; have HO116 := n0_; have HB := n1_; clear n0_ n1_; (try clear hb); (try clear hb2); (try clear hk); (try clear hi); (try clear ho0)))
    go_ret2
    exact ⟨re, skB HB.out⟩
   ·
    rw [if_neg c8] at H
    have c8b0 : decide (a2 < 0) = false := decide_eq_false c8
    clear c8
    by_cases c10 : a1 ≥ (t113.length : Int)
    ·
     rw [if_pos c10] at H
     have c10b0 : decide ((t113.length : Int) ≤ a1) = true := decide_eq_true c10
     clear c10
     simp only [Option.some.injEq, Prod.mk.injEq] at H
     obtain ⟨rfl, rfl⟩ := H
     go_enter Try.func14, Try.ntmps14
     go_wp2_with (first | ((with_reducible refine gate_callee (f := 13) rfl ?_); refine goesL_ (some 12) rfl rfl Try.func13 (by kernel_rfl) rfl #[.slice A0 l0.length c0] rfl ags ?_; (with_reducible refine (event_Calls.calls _ _ l0 t113 t114 _ ?side1 ?side2 A4.out).mono ?_); (case side1 => exact skC HR0.out); (case side2 => exact HC0.out); rintro e w11 ⟨v115, rfl, ho0, hb⟩; refine ⟨_, rfl, ?_⟩; have n0_ := asd (Kd.S_lower ho0 (below_size (skB HB.out))); have n1_ := asd (below_step (skB HB.out) hb); clear HB; have HO116 := n0_; have HB := n1_; clear n0_ n1_; (try clear hb); (try clear hb2); (try clear hk); (try clear hi); (try clear ho0); obtain ⟨Ao12, co12, eo12⟩ := Kd.S_slice HO116.out; subst eo12))
     go_ret2
     exact ⟨re, skB HB.out⟩
    ·
     rw [if_neg c10] at H
     have c10b0 : decide ((t113.length : Int) ≤ a1) = false := decide_eq_false c10
     clear c10
     by_cases c13 : a2 ≥ (t113.length : Int)
     ·
      rw [if_pos c13] at H
      have c13b0 : decide ((t113.length : Int) ≤ a2) = true := decide_eq_true c13
      clear c13
      simp only [Option.some.injEq, Prod.mk.injEq] at H
      obtain ⟨rfl, rfl⟩ := H
      go_enter Try.func14, Try.ntmps14
      go_wp2_with (first | ((with_reducible refine gate_callee (f := 13) rfl ?_); refine goesL_ (some 12) rfl rfl Try.func13 (by kernel_rfl) rfl #[.slice A0 l0.length c0] rfl ags ?_; (with_reducible refine (event_Calls.calls _ _ l0 t113 t114 _ ?side1 ?side2 A4.out).mono ?_); (case side1 => exact skC HR0.out); (case side2 => exact HC0.out); rintro e w14 ⟨v115, rfl, ho0, hb⟩; refine ⟨_, rfl, ?_⟩; have n0_ := asd (Kd.S_lower ho0 (below_size (skB HB.out))); have n1_ := asd (below_step (skB HB.out) hb); clear HB; have HO116 := n0_; have HB := n1_; clear n0_ n1_; (try clear hb); (try clear hb2); (try clear hk); (try clear hi); (try clear ho0); obtain ⟨Ao15, co15, eo15⟩ := Kd.S_slice HO116.out; subst eo15))
      go_ret2
      exact ⟨re, skB HB.out⟩
     ·
      rw [if_neg c13] at H
      have c13b0 : decide ((t113.length : Int) ≤ a2) = false := decide_eq_false c13
      clear c13
      by_cases c16 : 0 ≤ a1
      ·
       rw [if_pos c16] at H
       have c16b0 : decide (0 ≤ a1) = true := decide_eq_true c16
       clear c16
       by_cases c17 : a1 < (t113.length : Int)
       ·
        rw [if_pos c17] at H
        have c17b0 : decide (a1 < (t113.length : Int)) = true := decide_eq_true c17
        clear c17
        by_cases c18 : 0 ≤ a2
        ·
         rw [if_pos c18] at H
         have c18b0 : decide (0 ≤ a2) = true := decide_eq_true c18
         clear c18
         by_cases c19 : a2 < (t113.length : Int)
         ·
          rw [if_pos c19] at H
          have c19b0 : decide (a2 < (t113.length : Int)) = true := decide_eq_true c19
          clear c19
          replace H := Option.bind_eq_some_iff.mp H
          obtain ⟨t119, A200, H⟩ := H
          replace H : (some (t119, 0)) = some (r1, r2) := H
          have A20 := asd A200
          clear A200
          simp only [Option.some.injEq, Prod.mk.injEq] at H
          obtain ⟨rfl, rfl⟩ := H
          go_enter Try.func14, Try.ntmps14
          try go_wp2_with (first | ((with_reducible refine gate_callee (f := 13) rfl ?_); refine goesL_ (some 12) rfl rfl Try.func13 (by kernel_rfl) rfl #[.slice A0 l0.length c0] rfl ags ?_; (with_reducible refine (event_Calls.calls _ _ l0 t113 t114 _ ?side1 ?side2 A4.out).mono ?_); (case side1 => exact skC HR0.out); (case side2 => exact HC0.out); rintro e w21 ⟨v115, rfl, ho0, hb⟩; refine ⟨_, rfl, ?_⟩; have n0_ := asd (Kd.S_lower ho0 (below_size (skB HB.out))); have n1_ := asd (below_step (skB HB.out) hb); clear HB; have HO116 := n0_; have HB := n1_; clear n0_ n1_; (try clear hb); (try clear hb2); (try clear hk); (try clear hi); (try clear ho0); obtain ⟨Ao22, co22, eo22⟩ := Kd.S_slice HO116.out; subst eo22))
          have n0_ := asd (Kd.S_drew HO116.out)
          have n1_ := asd (below_drew1 HB.out)
          clear HO116
          clear HB
          have HO116 := n0_
          have HB := n1_
          clear n0_ n1_
          have p117 : 0 ≤ (a1 : Int) := dt
          have q117 : a1 < (t113.length : Int) := dt
          obtain ⟨ad117, A117_8, c117_8, e117, hx117_0, hx117_1, hx117_2, hx117_3, hx117_4, hx117_5, hx117_6, hx117_7, hx117_8, hx117_9, hx117_10, hl117_8, hi117_8⟩ := at_T38 (Kd.S_reads' HO116.out).2.2 a1 p117 q117
          cases e117
          obtain ⟨ce117, hce117, hMe117, hcc117⟩ := Kd.S_get HO116.out z38 a1 p117 (by first | exact q117 | exact dt | (have e_ := (Kd.S_reads' HO116.out).1; omega))
          obtain ⟨ve117_8, rfl, ge117_8⟩ := k38_openM hMe117
          have hv117_8 := hcc117 8 _ rfl
          rw [add_field _ _ 8 (by omega)] at hv117_8
          replace hv117_8 := Option.some.inj (hv117_8.symm.trans hx117_8)
          rw [hv117_8] at ge117_8
          have HL117_8 := asd (show Kd.R k70 70 _ _ _ _ ((J38 t113 a1).f2.f3) from ge117_8)
          clear hv117_8 ge117_8
          clear hcc117 hce117
          have HR117_8 := asd hi117_8
          have HC117_8 := asd hl117_8
          clear hi117_8 hl117_8
          replace p117 := eq_true p117
          replace q117 := eq_true q117
          have p118 : 0 ≤ (a2 : Int) := dt
          have q118 : a2 < (t113.length : Int) := dt
          obtain ⟨ad118, A118_8, c118_8, e118, hx118_0, hx118_1, hx118_2, hx118_3, hx118_4, hx118_5, hx118_6, hx118_7, hx118_8, hx118_9, hx118_10, hl118_8, hi118_8⟩ := at_T38 (Kd.S_reads' HO116.out).2.2 a2 p118 q118
          obtain rfl : ad117 = ad118 := (by injection e118)
          obtain ⟨ce118, hce118, hMe118, hcc118⟩ := Kd.S_get HO116.out z38 a2 p118 (by first | exact q118 | exact dt | (have e_ := (Kd.S_reads' HO116.out).1; omega))
          obtain ⟨ve118_8, rfl, ge118_8⟩ := k38_openM hMe118
          have hv118_8 := hcc118 8 _ rfl
          rw [add_field _ _ 8 (by omega)] at hv118_8
          replace hv118_8 := Option.some.inj (hv118_8.symm.trans hx118_8)
          rw [hv118_8] at ge118_8
          have HL118_8 := asd (show Kd.R k70 70 _ _ _ _ ((J38 t113 a2).f2.f3) from ge118_8)
          clear hv118_8 ge118_8
          clear hcc118 hce118
          have HR118_8 := asd hi118_8
          have HC118_8 := asd hl118_8
          clear hi118_8 hl118_8
          replace p118 := eq_true p118
          replace q118 := eq_true q118
          refine start_ (n := 11) (S := fun w' => w'.cell? (ad117.add ((a1).toNat * 11)) = some (.int .i64 ((J38 t113 a1).f0)) ∧ w'.cell? ⟨(ad117.add ((a1).toNat * 11)).block, (ad117.add ((a1).toNat * 11)).off + 1, none⟩ = some (.int .i64 ((J38 t113 a1).f1.f0)) ∧ w'.cell? ⟨(ad117.add ((a1).toNat * 11)).block, (ad117.add ((a1).toNat * 11)).off + 2, none⟩ = some (.int .i64 ((J38 t113 a1).f1.f1)) ∧ w'.cell? ⟨(ad117.add ((a1).toNat * 11)).block, (ad117.add ((a1).toNat * 11)).off + 3, none⟩ = some (.int .i64 ((J38 t113 a1).f1.f2)) ∧ w'.cell? ⟨(ad117.add ((a1).toNat * 11)).block, (ad117.add ((a1).toNat * 11)).off + 4, none⟩ = some (.int .i64 ((J38 t113 a1).f1.f3)) ∧ w'.cell? ⟨(ad117.add ((a1).toNat * 11)).block, (ad117.add ((a1).toNat * 11)).off + 5, none⟩ = some (.bool ((J38 t113 a1).f2.f0)) ∧ w'.cell? ⟨(ad117.add ((a1).toNat * 11)).block, (ad117.add ((a1).toNat * 11)).off + 6, none⟩ = some (.int .i64 ((J38 t113 a1).f2.f1)) ∧ w'.cell? ⟨(ad117.add ((a1).toNat * 11)).block, (ad117.add ((a1).toNat * 11)).off + 7, none⟩ = some (.int .i64 ((J38 t113 a1).f2.f2)) ∧ w'.cell? ⟨(ad117.add ((a1).toNat * 11)).block, (ad117.add ((a1).toNat * 11)).off + 8, none⟩ = some (.slice A117_8 ((J38 t113 a1).f2.f3).length c117_8) ∧ w'.cell? ⟨(ad117.add ((a1).toNat * 11)).block, (ad117.add ((a1).toNat * 11)).off + 9, none⟩ = some (.int .i64 ((J38 t113 a1).f3)) ∧ w'.cell? ⟨(ad117.add ((a1).toNat * 11)).block, (ad117.add ((a1).toNat * 11)).off + 10, none⟩ = some (.int .i64 ((J38 t113 a1).f4)) ∧ w'.cell? (ad117.add ((a2).toNat * 11)) = some (.int .i64 ((J38 t113 a2).f0)) ∧ w'.cell? ⟨(ad117.add ((a2).toNat * 11)).block, (ad117.add ((a2).toNat * 11)).off + 1, none⟩ = some (.int .i64 ((J38 t113 a2).f1.f0)) ∧ w'.cell? ⟨(ad117.add ((a2).toNat * 11)).block, (ad117.add ((a2).toNat * 11)).off + 2, none⟩ = some (.int .i64 ((J38 t113 a2).f1.f1)) ∧ w'.cell? ⟨(ad117.add ((a2).toNat * 11)).block, (ad117.add ((a2).toNat * 11)).off + 3, none⟩ = some (.int .i64 ((J38 t113 a2).f1.f2)) ∧ w'.cell? ⟨(ad117.add ((a2).toNat * 11)).block, (ad117.add ((a2).toNat * 11)).off + 4, none⟩ = some (.int .i64 ((J38 t113 a2).f1.f3)) ∧ w'.cell? ⟨(ad117.add ((a2).toNat * 11)).block, (ad117.add ((a2).toNat * 11)).off + 5, none⟩ = some (.bool ((J38 t113 a2).f2.f0)) ∧ w'.cell? ⟨(ad117.add ((a2).toNat * 11)).block, (ad117.add ((a2).toNat * 11)).off + 6, none⟩ = some (.int .i64 ((J38 t113 a2).f2.f1)) ∧ w'.cell? ⟨(ad117.add ((a2).toNat * 11)).block, (ad117.add ((a2).toNat * 11)).off + 7, none⟩ = some (.int .i64 ((J38 t113 a2).f2.f2)) ∧ w'.cell? ⟨(ad117.add ((a2).toNat * 11)).block, (ad117.add ((a2).toNat * 11)).off + 8, none⟩ = some (.slice A118_8 ((J38 t113 a2).f2.f3).length c118_8) ∧ w'.cell? ⟨(ad117.add ((a2).toNat * 11)).block, (ad117.add ((a2).toNat * 11)).off + 9, none⟩ = some (.int .i64 ((J38 t113 a2).f3)) ∧ w'.cell? ⟨(ad117.add ((a2).toNat * 11)).block, (ad117.add ((a2).toNat * 11)).off + 10, none⟩ = some (.int .i64 ((J38 t113 a2).f4))) (ds := []) #[false,false,false,false,false,false,false,false,false,false,false] (by kernel_rfl) rfl rfl ⟨hx117_0, hx117_1, hx117_2, hx117_3, hx117_4, hx117_5, hx117_6, hx117_7, hx117_8, hx117_9, hx117_10, hx118_0, hx118_1, hx118_2, hx118_3, hx118_4, hx118_5, hx118_6, hx118_7, hx118_8, hx118_9, hx118_10⟩ (fun hHeld => ?_); refine with_tabW event_Ahead.tab6 event_Ahead.bits6 (fun HT_ HW_ => ?_)
          generalize w21.drew = w23 at HO116 HB HL117_8 HL118_8 HR117_8 HR118_8 hx117_0 hx117_1 hx117_10 hx117_2 hx117_3 hx117_4 hx117_5 hx117_6 hx117_7 hx117_8 hx117_9 hx118_0 hx118_1 hx118_10 hx118_2 hx118_3 hx118_4 hx118_5 hx118_6 hx118_7 hx118_8 hx118_9 hHeld ⊢
          refine pure_ (i := 0) (N := some 36) (v := ?_) (a' := ?_) #[true,false,false,false,false,false,false,false,false,false,false] rfl rfl (aK HT_.out) (fun _ _ _ h => h) (Or.inl ⟨by rfl, ?_⟩) ?_ ?_
          rotate_left
          ·
           intro w'
           go_simp
           with_reducible rfl
          rotate_left
          ·
           simp only [Act.put, sp]
           rfl
          refine pure_ (i := 1) (N := some 37) (v := ?_) (a' := ?_) #[true,true,false,false,false,false,false,false,false,false,false] rfl rfl (aK HT_.out) (fun _ _ _ h => h) (Or.inl ⟨by rfl, ?_⟩) ?_ ?_
          rotate_left
          ·
           intro w'
           go_simp
           with_reducible rfl
          rotate_left
          ·
           simp only [Act.put, sp]
           rfl
          refine pure_ (i := 2) (N := some 38) (v := ?_) (a' := ?_) #[true,true,true,false,false,false,false,false,false,false,false] rfl rfl (aK HT_.out) (fun _ _ _ h => h) (Or.inl ⟨by rfl, ?_⟩) ?_ ?_
          rotate_left
          ·
           intro w'
           go_simp
           with_reducible rfl
          rotate_left
          ·
           simp only [Act.put, sp]
           rfl
          refine pure_ (i := 4) (N := some 40) (v := ?_) (a' := ?_) #[true,true,true,false,true,false,false,false,false,false,false] rfl rfl (aK HT_.out) (fun _ _ _ h => h) (Or.inl ⟨by rfl, ?_⟩) ?_ ?_
          rotate_left
          ·
           intro w'
           go_simp
           with_reducible rfl
          rotate_left
          ·
           simp only [Act.put, sp]
           rfl
          refine pure_ (i := 5) (N := some 41) (v := ?_) (a' := ?_) #[true,true,true,false,true,true,false,false,false,false,false] rfl rfl (aK HT_.out) (fun _ _ _ h => h) (Or.inl ⟨by rfl, ?_⟩) ?_ ?_
          rotate_left
          ·
           intro w'
           go_simp
           with_reducible rfl
          rotate_left
          ·
           simp only [Act.put, sp]
           rfl
          refine pure_ (i := 6) (N := some 42) (v := ?_) (a' := ?_) #[true,true,true,false,true,true,true,false,false,false,false] rfl rfl (aK HT_.out) (fun _ _ _ h => h) (Or.inl ⟨by rfl, ?_⟩) ?_ ?_
          rotate_left
          ·
           intro w'
           go_simp
           with_reducible rfl
          rotate_left
          ·
           simp only [Act.put, sp]
           rfl
          refine take_ (i := 3) (N := some 39) (v := ?_) (a' := ?_) #[true,true,true,true,true,true,true,false,false,false,false] rfl rfl (take_ofW HT_.out HW_.out (by kernel_rfl)) (fun _ _ _ h => h) (Or.inl ⟨by rfl, ?_⟩) hHeld ?_ ?_
          rotate_left
          ·
           rintro w' ⟨s0, s1, s2, s3, s4, s5, s6, s7, s8, s9, s10, s11, s12, s13, s14, s15, s16, s17, s18, s19, s20, s21⟩
           go_simp
           with_reducible rfl
          rotate_left
          ·
           simp only [Act.put, sp]
           rfl
          refine take_ (i := 7) (N := some 43) (v := ?_) (a' := ?_) #[true,true,true,true,true,true,true,true,false,false,false] rfl rfl (take_ofW HT_.out HW_.out (by kernel_rfl)) (fun _ _ _ h => h) (Or.inl ⟨by rfl, ?_⟩) hHeld ?_ ?_
          rotate_left
          ·
           rintro w' ⟨s0, s1, s2, s3, s4, s5, s6, s7, s8, s9, s10, s11, s12, s13, s14, s15, s16, s17, s18, s19, s20, s21⟩
           go_simp
           with_reducible rfl
          rotate_left
          ·
           simp only [Act.put, sp]
           rfl
          refine one_ (i := 8) (N := some 44) #[true,true,true,true,true,true,true,true,true,false,false] rfl rfl (one_of HT_.out (by kernel_rfl)) (by decide) (fun K hK => ?_)
          refine goes_ Try.func47 (by kernel_rfl) rfl #[.agg #[.int .i64 ((J38 t113 a1).f0), .int .i64 ((J38 t113 a1).f1.f0), .int .i64 ((J38 t113 a1).f1.f1), .int .i64 ((J38 t113 a1).f1.f2), .int .i64 ((J38 t113 a1).f1.f3), .bool ((J38 t113 a1).f2.f0), .int .i64 ((J38 t113 a1).f2.f1), .int .i64 ((J38 t113 a1).f2.f2), .slice A117_8 ((J38 t113 a1).f2.f3).length c117_8, .int .i64 ((J38 t113 a1).f3), .int .i64 ((J38 t113 a1).f4)], .agg #[.int .i64 ((J38 t113 a2).f0), .int .i64 ((J38 t113 a2).f1.f0), .int .i64 ((J38 t113 a2).f1.f1), .int .i64 ((J38 t113 a2).f1.f2), .int .i64 ((J38 t113 a2).f1.f3), .bool ((J38 t113 a2).f2.f0), .int .i64 ((J38 t113 a2).f2.f1), .int .i64 ((J38 t113 a2).f2.f2), .slice A118_8 ((J38 t113 a2).f2.f3).length c118_8, .int .i64 ((J38 t113 a2).f3), .int .i64 ((J38 t113 a2).f4)]] (by rfl) rfl rfl ags ?_
          with_reducible refine (event_ahead.calls ((J38 t113 a1).f0) ((J38 t113 a1).f1.f0) ((J38 t113 a1).f1.f1) ((J38 t113 a1).f1.f2) ((J38 t113 a1).f1.f3) ((J38 t113 a1).f2.f0) ((J38 t113 a1).f2.f1) ((J38 t113 a1).f2.f2) _ _ ((J38 t113 a1).f2.f3) ((J38 t113 a1).f3) ((J38 t113 a1).f4) ((J38 t113 a2).f0) ((J38 t113 a2).f1.f0) ((J38 t113 a2).f1.f1) ((J38 t113 a2).f1.f2) ((J38 t113 a2).f1.f3) ((J38 t113 a2).f2.f0) ((J38 t113 a2).f2.f1) ((J38 t113 a2).f2.f2) _ _ ((J38 t113 a2).f2.f3) ((J38 t113 a2).f3) ((J38 t113 a2).f4) t119 _ ?side1 ?side2 ?side3 ?side4 A20.out).mono ?_
          (case side1 => exact skC (by repeat (first | (with_reducible exact HR117_8.out) | (with_reducible refine Kd.C_alloc ?_ _) | (with_reducible refine Kd.C_drewN ?_ _) | (with_reducible refine Kd.C_drew ?_) | exact HR117_8.out)))
          (case side2 => exact HC117_8.out)
          (case side3 => exact skC (by repeat (first | (with_reducible exact HR118_8.out) | (with_reducible refine Kd.C_alloc ?_ _) | (with_reducible refine Kd.C_drewN ?_ _) | (with_reducible refine Kd.C_drew ?_) | exact HR118_8.out)))
          (case side4 => exact HC118_8.out)
          rintro e w24 ⟨rfl, hb⟩
          have HS0_ := (hb.cell (World.block_lt_of_cell? _ _ (hHeld.1))).trans (hHeld.1)
          have HS1_ := (hb.cell (World.block_lt_of_cell? _ _ (hHeld.2.1))).trans (hHeld.2.1)
          have HS2_ := (hb.cell (World.block_lt_of_cell? _ _ (hHeld.2.2.1))).trans (hHeld.2.2.1)
          have HS3_ := (hb.cell (World.block_lt_of_cell? _ _ (hHeld.2.2.2.1))).trans (hHeld.2.2.2.1)
          have HS4_ := (hb.cell (World.block_lt_of_cell? _ _ (hHeld.2.2.2.2.1))).trans (hHeld.2.2.2.2.1)
          have HS5_ := (hb.cell (World.block_lt_of_cell? _ _ (hHeld.2.2.2.2.2.1))).trans (hHeld.2.2.2.2.2.1)
          have HS6_ := (hb.cell (World.block_lt_of_cell? _ _ (hHeld.2.2.2.2.2.2.1))).trans (hHeld.2.2.2.2.2.2.1)
          have HS7_ := (hb.cell (World.block_lt_of_cell? _ _ (hHeld.2.2.2.2.2.2.2.1))).trans (hHeld.2.2.2.2.2.2.2.1)
          have HS8_ := (hb.cell (World.block_lt_of_cell? _ _ (hHeld.2.2.2.2.2.2.2.2.1))).trans (hHeld.2.2.2.2.2.2.2.2.1)
          have HS9_ := (hb.cell (World.block_lt_of_cell? _ _ (hHeld.2.2.2.2.2.2.2.2.2.1))).trans (hHeld.2.2.2.2.2.2.2.2.2.1)
          have HS10_ := (hb.cell (World.block_lt_of_cell? _ _ (hHeld.2.2.2.2.2.2.2.2.2.2.1))).trans (hHeld.2.2.2.2.2.2.2.2.2.2.1)
          have HS11_ := (hb.cell (World.block_lt_of_cell? _ _ (hHeld.2.2.2.2.2.2.2.2.2.2.2.1))).trans (hHeld.2.2.2.2.2.2.2.2.2.2.2.1)
          have HS12_ := (hb.cell (World.block_lt_of_cell? _ _ (hHeld.2.2.2.2.2.2.2.2.2.2.2.2.1))).trans (hHeld.2.2.2.2.2.2.2.2.2.2.2.2.1)
          have HS13_ := (hb.cell (World.block_lt_of_cell? _ _ (hHeld.2.2.2.2.2.2.2.2.2.2.2.2.2.1))).trans (hHeld.2.2.2.2.2.2.2.2.2.2.2.2.2.1)
          have HS14_ := (hb.cell (World.block_lt_of_cell? _ _ (hHeld.2.2.2.2.2.2.2.2.2.2.2.2.2.2.1))).trans (hHeld.2.2.2.2.2.2.2.2.2.2.2.2.2.2.1)
          have HS15_ := (hb.cell (World.block_lt_of_cell? _ _ (hHeld.2.2.2.2.2.2.2.2.2.2.2.2.2.2.2.1))).trans (hHeld.2.2.2.2.2.2.2.2.2.2.2.2.2.2.2.1)
          have HS16_ := (hb.cell (World.block_lt_of_cell? _ _ (hHeld.2.2.2.2.2.2.2.2.2.2.2.2.2.2.2.2.1))).trans (hHeld.2.2.2.2.2.2.2.2.2.2.2.2.2.2.2.2.1)
          have HS17_ := (hb.cell (World.block_lt_of_cell? _ _ (hHeld.2.2.2.2.2.2.2.2.2.2.2.2.2.2.2.2.2.1))).trans (hHeld.2.2.2.2.2.2.2.2.2.2.2.2.2.2.2.2.2.1)
          have HS18_ := (hb.cell (World.block_lt_of_cell? _ _ (hHeld.2.2.2.2.2.2.2.2.2.2.2.2.2.2.2.2.2.2.1))).trans (hHeld.2.2.2.2.2.2.2.2.2.2.2.2.2.2.2.2.2.2.1)
          have HS19_ := (hb.cell (World.block_lt_of_cell? _ _ (hHeld.2.2.2.2.2.2.2.2.2.2.2.2.2.2.2.2.2.2.2.1))).trans (hHeld.2.2.2.2.2.2.2.2.2.2.2.2.2.2.2.2.2.2.2.1)
          have HS20_ := (hb.cell (World.block_lt_of_cell? _ _ (hHeld.2.2.2.2.2.2.2.2.2.2.2.2.2.2.2.2.2.2.2.2.1))).trans (hHeld.2.2.2.2.2.2.2.2.2.2.2.2.2.2.2.2.2.2.2.2.1)
          have HS21_ := (hb.cell (World.block_lt_of_cell? _ _ (hHeld.2.2.2.2.2.2.2.2.2.2.2.2.2.2.2.2.2.2.2.2.2))).trans (hHeld.2.2.2.2.2.2.2.2.2.2.2.2.2.2.2.2.2.2.2.2.2)
          refine ⟨_, rfl, ?_⟩
          have n0_ := asd (Kd.S_below (by (with_reducible repeat (first | apply Kd.S_alloc | apply Kd.S_drewN | apply Kd.S_drew)); exact HO116.out) hb)
          have n1_ := asd (Kd.R_below (skR HL117_8.out) hb)
          have n2_ := asd (Kd.R_below (skR HL118_8.out) hb)
          have n3_ := asd (Kd.C_below (by repeat (first | (with_reducible exact HR117_8.out) | (with_reducible refine Kd.C_alloc ?_ _) | (with_reducible refine Kd.C_drewN ?_ _) | (with_reducible refine Kd.C_drew ?_) | exact HR117_8.out)) hb)
          have n4_ := asd (Kd.C_below (by repeat (first | (with_reducible exact HR118_8.out) | (with_reducible refine Kd.C_alloc ?_ _) | (with_reducible refine Kd.C_drewN ?_ _) | (with_reducible refine Kd.C_drew ?_) | exact HR118_8.out)) hb)
          have n5_ := asd (below_step (skB HB.out) hb)
          clear HO116
          clear HL117_8
          clear HL118_8
          clear HR117_8
          clear HR118_8
          clear HB
          have HO116 := n0_
          have HL117_8 := n1_
          have HL118_8 := n2_
          have HR117_8 := n3_
          have HR118_8 := n4_
          have HB := n5_
          clear n0_ n1_ n2_ n3_ n4_ n5_
          (try clear hb)
          (try clear hb2)
          (try clear hk)
          (try clear hi)
          refine hK.out _ _ ⟨HS0_, HS1_, HS2_, HS3_, HS4_, HS5_, HS6_, HS7_, HS8_, HS9_, HS10_, HS11_, HS12_, HS13_, HS14_, HS15_, HS16_, HS17_, HS18_, HS19_, HS20_, HS21_⟩ (fun hHeld => ?_)
          clear hK K
          refine norm_ (a' := ?_) ?_ ?_
          rotate_left
          ·
           show Act.put _ (some 44) _ = _
           simp only [Act.put, sp]
           rfl
          refine pure_ (i := 9) (N := some 6) (v := ?_) (a' := ?_) #[true,true,true,true,true,true,true,true,true,true,false] rfl rfl (aK HT_.out) (fun _ _ _ h => h) (Or.inl ⟨by rfl, ?_⟩) ?_ ?_
          rotate_left
          ·
           intro w'
           go_simp
           with_reducible rfl
          rotate_left
          ·
           simp only [Act.put, sp]
           rfl
          refine pure_ (i := 10) (N := some 7) (v := ?_) (a' := ?_) #[true,true,true,true,true,true,true,true,true,true,true] rfl rfl (aK HT_.out) (fun _ _ _ h => h) (Or.inl ⟨by rfl, ?_⟩) ?_ ?_
          rotate_left
          ·
           intro w'
           go_simp
           with_reducible rfl
          rotate_left
          ·
           simp only [Act.put, sp]
           rfl
          refine done_ (done_of HT_.out (by kernel_rfl)) ?_
          try go_wp2
          go_ret2
          exact ⟨re, skB HB.out⟩
         ·
          rw [if_neg c19] at H
          exact absurd H (by simp)
        ·
         rw [if_neg c18] at H
         exact absurd H (by simp)
       ·
        rw [if_neg c17] at H
        exact absurd H (by simp)
      ·
       rw [if_neg c16] at H
       exact absurd H (by simp)
 ·
  rw [if_neg c5] at H
  have c5b0 : (t114 == 0) = false := beq_eq_false_iff_ne.mpr c5
  have c5b1 : (t114 != 0) = true := bne_iff_ne.mpr c5
  simp only [Option.some.injEq, Prod.mk.injEq] at H
  obtain ⟨rfl, rfl⟩ := H
  go_enter Try.func14, Try.ntmps14
  go_wp2_with (first | ((with_reducible refine gate_callee (f := 13) rfl ?_); refine goesL_ (some 12) rfl rfl Try.func13 (by kernel_rfl) rfl #[.slice A0 l0.length c0] rfl ags ?_; (with_reducible refine (event_Calls.calls _ _ l0 t113 t114 _ ?side1 ?side2 A4.out).mono ?_); (case side1 => exact skC HR0.out); (case side2 => exact HC0.out); rintro e w25 ⟨v115, rfl, ho0, hb⟩; refine ⟨_, rfl, ?_⟩; have n0_ := asd (Kd.S_lower ho0 (below_size (skB HB.out))); have n1_ := asd (below_step (skB HB.out) hb); clear HB; have HO116 := n0_; have HB := n1_; clear n0_ n1_; (try clear hb); (try clear hb2); (try clear hk); (try clear hi); (try clear ho0)))
  go_ret2
  exact ⟨re, skB HB.out⟩
end Go.Proofs.Ytagdkmcgepidoaa.P
/- F60 -/
namespace Go.Proofs.Ytagdkmcgepidoaa.P
open Go.RowKit Go.Proofs.YtagdkmcgepidoaaW.PrintWords Go.Proofs.YtagdkmcgepidoaaW.PrintLast Go.Proofs.YtagdkmcgepidoaaW.PrintMore
attribute [local go_sem] max2_int min2_int max_two min_two max_three min_three max_four min_four   -- for this text's walks alone
set_option linter.unusedVariables false
set_option linter.unusedSimpArgs false
mutual
def event_Fits.l0 : Nat → List Int → List (S38) → List Int → List Int → Int → Int → Option (Bool × Int)
 | 0, _, _, _, _, _, _ => none
 | k + 1, x1, x6, x8, x27, x28, x29 => if x29 < x28 then (if 0 ≤ x29 then (if x29 < (x27.length : Int) then (if (rd x27 x29) < 0 then (some (false, 0)) else (if (rd x27 x29) ≥ (x6.length : Int) then (some (false, 0)) else (if 0 ≤ (rd x27 x29) then (if (rd x27 x29) < (x8.length : Int) then (if (rd x8 (rd x27 x29)) > 0 then (some (false, 0)) else (event_Fits.l0 k x1 x6 (x8.set ((rd x27 x29) : Int).toNat (wrap64 (x29 + 1))) x27 x28 (wrap64 (x29 + 1)))) else (none)) else (none)))) else (none)) else (none)) else (event_Fits.l1 k x1 x6 x8 x6 (x6.length : Int) 0)
def event_Fits.l1 : Nat → List Int → List (S38) → List Int → List (S38) → Int → Int → Option (Bool × Int)
 | 0, _, _, _, _, _, _ => none
 | k + 1, x1, x6, x8, x55, x56, x57 => if x57 < x56 then (if 0 ≤ x57 then (if x57 < (x55.length : Int) then (if ((J38 x55 x57).f4) ≥ 0 then (if x57 < (x8.length : Int) then (if (rd x8 x57) = 0 then (some (false, 0)) else (event_Fits.l1 k x1 x6 x8 x55 x56 (wrap64 (x57 + 1)))) else (none)) else (event_Fits.l1 k x1 x6 x8 x55 x56 (wrap64 (x57 + 1)))) else (none)) else (none)) else (event_Fits.l2 k x6 (-1) x1 (x1.length : Int) 0)
def event_Fits.l2 : Nat → List (S38) → Int → List Int → Int → Int → Option (Bool × Int)
 | 0, _, _, _, _, _ => none
 | k + 1, x6, x13, x73, x74, x75 => if x75 < x74 then (if 0 ≤ x75 then (if x75 < (x73.length : Int) then (if 0 ≤ (rd x73 x75) then (if (rd x73 x75) < (x6.length : Int) then (if ((J38 x6 (rd x73 x75)).f4) ≥ 0 then (if ((J38 x6 (rd x73 x75)).f4) < x13 then (some (false, 0)) else (event_Fits.l2 k x6 (mx x13 ((J38 x6 (rd x73 x75)).f3)) x73 x74 (wrap64 (x75 + 1)))) else (event_Fits.l2 k x6 (mx x13 ((J38 x6 (rd x73 x75)).f3)) x73 x74 (wrap64 (x75 + 1)))) else (none)) else (none)) else (none)) else (none)) else (some (true, 0))
end
def event_Fits.f (k : Nat) (l0 : List (S67)) (l1 : List Int) : Option (Bool × Int) := (event_Calls.f l0).bind fun bt440 => (if bt440.2 = 0 then (if 0 ≤ (bt440.1.length : Int) then (if ((bt440.1.length : Int) : Int).toNat ≤ 35184372088832 then (event_Fits.l0 k l1 bt440.1 (List.replicate ((bt440.1.length : Int) : Int).toNat 0) l1 (l1.length : Int) 0) else (none)) else (none)) else (some (false, bt440.2)))
set_option maxHeartbeats 8000000 in
set_option maxRecDepth 100000 in
theorem event_Fits.calls (k : Nat) (A0 : Option Addr) (c0 : Nat) (l0 : List (S67)) (A1 : Option Addr) (c1 : Nat) (l1 : List Int) (r1 : Bool) (r2 : Int) (w : World) (hr0 : Kd.C k67 w A0 l0.length l0) (hc0 : l0.length ≤ c0) (hr1 : Kd.C (Kd.int .i64) w A1 l1.length l1) (hc1 : l1.length ≤ c1) (h : event_Fits.f k l0 l1 = some (r1, r2)) :
  Calls Try.prog 17 #[.slice A0 l0.length c0, .slice A1 l1.length c1] w fun e w' => e = .returned (.tuple #[.bool r1, .int .i64 r2]) ∧ Below w.heap.size w w' := by
 have hu38 := Try.underlying38
 have HR0 := asd hr0
 have HC0 := asd hc0
 clear hr0 hc0
 have HR1 := asd hr1
 have HC1 := asd hc1
 clear hr1 hc1
 have HB := asd (Below.refl w.heap.size w)
 have H : ((event_Calls.f l0).bind fun bt440 => (if bt440.2 = 0 then (if 0 ≤ (bt440.1.length : Int) then (if ((bt440.1.length : Int) : Int).toNat ≤ 35184372088832 then (event_Fits.l0 k l1 bt440.1 (List.replicate ((bt440.1.length : Int) : Int).toNat 0) l1 (l1.length : Int) 0) else (none)) else (none)) else (some (false, bt440.2)))) = some (r1, r2) := h
 clear h
 replace H := Option.bind_eq_some_iff.mp H
 obtain ⟨⟨t440, t441⟩, A30, H⟩ := H
 replace H : (if t441 = 0 then (if 0 ≤ (t440.length : Int) then (if ((t440.length : Int) : Int).toNat ≤ 35184372088832 then (event_Fits.l0 k l1 t440 (List.replicate ((t440.length : Int) : Int).toNat 0) l1 (l1.length : Int) 0) else (none)) else (none)) else (some (false, t441))) = some (r1, r2) := H
 have A3 := asd A30
 clear A30
 by_cases c4 : t441 = 0
 ·
  rw [if_pos c4] at H
  have c4b0 : (t441 == 0) = true := beq_iff_eq.mpr c4
  have c4b1 : (t441 != 0) = false := bne_eq_false_iff_eq.mpr c4
  clear c4
  by_cases c5 : 0 ≤ (t440.length : Int)
  ·
   rw [if_pos c5] at H
   have c5b0 := eq_true c5
   have c5b1 : decide (0 ≤ (t440.length : Int)) = true := decide_eq_true c5
   clear c5
   by_cases c6 : ((t440.length : Int) : Int).toNat ≤ 35184372088832
   ·
    rw [if_pos c6] at H
    have c6b0 := eq_true c6
    have c6b1 : decide (((t440.length : Int) : Int).toNat ≤ 35184372088832) = true := decide_eq_true c6
    clear c6
    obtain ⟨y444, hy444⟩ : ∃ y_ : List Int, y_ = (List.replicate ((t440.length : Int) : Int).toNat 0) := ⟨_, rfl⟩
    replace H : (event_Fits.l0 k l1 t440 y444 l1 (l1.length : Int) 0) = some (r1, r2) := by first | (rw [hy444]; with_reducible exact H) | (have H2_ := (Option.bind_some _ _).symm.trans H; rw [hy444]; with_reducible exact H2_) | (have H2_ := (Option.bind_some _ _).symm.trans H; with_reducible exact H2_) | with_reducible exact H | (rw [hy444]; exact H) | exact H
    have Ny444 := asd hy444
    clear hy444
    have H' := asd H
    clear H
    go_enter Try.func17, Try.ntmps17
    go_wp2_with (first | ((with_reducible refine gate_callee (f := 13) rfl ?_); refine goesL_ (some 18) rfl rfl Try.func13 (by kernel_rfl) rfl #[.slice A0 l0.length c0] rfl ags ?_; (with_reducible refine (event_Calls.calls _ _ l0 t440 t441 _ ?side1 ?side2 A3.out).mono ?_); (case side1 => exact skC HR0.out); (case side2 => exact HC0.out); rintro e w7 ⟨v442, rfl, ho0, hb⟩; refine ⟨_, rfl, ?_⟩; have n0_ := asd (Kd.S_lower ho0 (below_size (skB HB.out))); have n1_ := asd (below_step (skB HB.out) hb); clear HB; have HO443 := n0_; have HB := n1_; clear n0_ n1_; (try clear hb); (try clear hb2); (try clear hk); (try clear hi); (try clear ho0); obtain ⟨Ao8, co8, eo8⟩ := Kd.S_slice HO443.out; subst eo8) | ((with_reducible refine gate_dst (N := 26) rfl ?_); (try (refine gate_guard (by rfl) ?_; dsimp only)); refine Kd.R_make (Kd.int .i64) _ 3 rfl (N := 26) rfl 41 _ _ rfl (t440.length : Int) rfl rfl Try.underlying41 (.int .i64 0) 8 info3 rfl (by decide) (by omega) 0 (ok := fun _ => True) (okp := fun _ => True) rfl (fun _ hk => hk) trivial dt (Nat.le_trans (Nat.mul_le_mul_right _ (dt : (t440.length : Int).toNat ≤ 35184372088832)) (by omega)) (Below.refl _ _) (Nat.le_refl _) ?_; intro v445 w9 ho10 hb hg_ hnew_; clear hg_ hnew_; (first | rw [← Ny444.out] at ho10 | (simp only [Int.reduceToNat] at ho10; rw [← Ny444.out] at ho10)); have n0_ := asd (Kd.S_below (by (with_reducible repeat (first | apply Kd.S_alloc | apply Kd.S_drewN | apply Kd.S_drew)); exact HO443.out) hb); have n1_ := asd (Kd.R_lower ho10 (below_size (skB HB.out))); have n2_ := asd (below_step (skB HB.out) hb); clear HO443; clear HB; have HO443 := n0_; have HO446 := n1_; have HB := n2_; clear n0_ n1_ n2_; clear hb ho10))
    go_loopg [29] k (fun kq v29 w' => ∃ (x8_1 : List Int) (x29_1 : Int), v29 = .int .i64 x29_1 ∧ Aside0 (event_Fits.l0 kq l1 t440 x8_1 l1 (l1.length : Int) x29_1 = some (r1, r2)) ∧ Aside0 (kq ≤ k) ∧ Aside0 (Kd.S k38 38 w' w.heap.size (fun _ => True) (.slice Ao8 t440.length co8) t440) ∧ Aside0 (Kd.R (Kd.int .i64) 3 w' w.heap.size (fun _ => True) v445 x8_1) ∧ Aside0 (Below w.heap.size w w'))
    case atStart => exact ⟨(y444), (0), rs, H', ⟨Nat.le_refl _⟩, ⟨by (with_reducible repeat (first | apply Kd.S_alloc | apply Kd.S_drewN | apply Kd.S_drew)); exact HO443.out⟩, ⟨skR HO446.out⟩, ⟨skB HB.out⟩⟩
    case round =>
     clear H'
     try clear c1
     try clear p2
     try clear c4
     try clear c4b0
     try clear c4b1
     try clear c5
     try clear c5b0
     try clear c5b1
     try clear c6
     try clear c6b0
     try clear c6b1
     obtain ⟨x8_1, x29_1, rfl, HA, HK1, HO_6, HO_8, HB⟩ := hrel
     cases gk with
     | zero => exact absurd HA.out (by simp [event_Fits.l0])
     | succ k1 =>
      have H := HA.out
      clear HA
      simp only [event_Fits.l0] at H
      by_cases c11 : x29_1 < (l1.length : Int)
      ·
       rw [if_pos c11] at H
       have c11b0 : decide (x29_1 < (l1.length : Int)) = true := decide_eq_true c11
       clear c11
       by_cases c12 : 0 ≤ x29_1
       ·
        rw [if_pos c12] at H
        have c12b0 : decide (0 ≤ x29_1) = true := decide_eq_true c12
        clear c12
        by_cases c13 : x29_1 < (l1.length : Int)
        ·
         rw [if_pos c13] at H
         have c13b0 : decide (x29_1 < (l1.length : Int)) = true := decide_eq_true c13
         clear c13
         by_cases c14 : (rd l1 x29_1) < 0
         ·
          rw [if_pos c14] at H
          have c14b0 : decide ((rd l1 x29_1) < 0) = true := decide_eq_true c14
          clear c14
          simp only [Option.some.injEq, Prod.mk.injEq] at H
          obtain ⟨rfl, rfl⟩ := H
          have p447 : 0 ≤ (x29_1 : Int) := dt
          have q447 : x29_1 < (l1.length : Int) := dt
          obtain ⟨ad447, e447, hx447_0⟩ := Kd.at_int HR1.out x29_1 p447 q447
          cases e447
          replace hx447_0 := skc HB.out hx447_0
          replace p447 := eq_true p447
          replace q447 := eq_true q447
          go_wp2
          go_ret2
          exact ⟨re, skB HB.out⟩
         ·
          rw [if_neg c14] at H
          have c14b0 : decide ((rd l1 x29_1) < 0) = false := decide_eq_false c14
          clear c14
          by_cases c15 : (rd l1 x29_1) ≥ (t440.length : Int)
          ·
           rw [if_pos c15] at H
           have c15b0 : decide ((t440.length : Int) ≤ (rd l1 x29_1)) = true := decide_eq_true c15
           clear c15
           simp only [Option.some.injEq, Prod.mk.injEq] at H
           obtain ⟨rfl, rfl⟩ := H
           have p447 : 0 ≤ (x29_1 : Int) := dt
           have q447 : x29_1 < (l1.length : Int) := dt
           obtain ⟨ad447, e447, hx447_0⟩ := Kd.at_int HR1.out x29_1 p447 q447
           cases e447
           replace hx447_0 := skc HB.out hx447_0
           replace p447 := eq_true p447
           replace q447 := eq_true q447
           go_wp2
           go_ret2
           exact ⟨re, skB HB.out⟩
          ·
           rw [if_neg c15] at H
           have c15b0 : decide ((t440.length : Int) ≤ (rd l1 x29_1)) = false := decide_eq_false c15
           clear c15
           by_cases c16 : 0 ≤ (rd l1 x29_1)
           ·
            rw [if_pos c16] at H
            have c16b0 : decide (0 ≤ (rd l1 x29_1)) = true := decide_eq_true c16
            clear c16
            by_cases c17 : (rd l1 x29_1) < (x8_1.length : Int)
            ·
             rw [if_pos c17] at H
             have c17b0 : decide ((rd l1 x29_1) < (x8_1.length : Int)) = true := decide_eq_true c17
             clear c17
             by_cases c18 : (rd x8_1 (rd l1 x29_1)) > 0
             ·
              rw [if_pos c18] at H
              have c18b0 : decide (0 < (rd x8_1 (rd l1 x29_1))) = true := decide_eq_true c18
              clear c18
              simp only [Option.some.injEq, Prod.mk.injEq] at H
              obtain ⟨rfl, rfl⟩ := H
              have p447 : 0 ≤ (x29_1 : Int) := dt
              have q447 : x29_1 < (l1.length : Int) := dt
              obtain ⟨ad447, e447, hx447_0⟩ := Kd.at_int HR1.out x29_1 p447 q447
              cases e447
              replace hx447_0 := skc HB.out hx447_0
              replace p447 := eq_true p447
              replace q447 := eq_true q447
              obtain ⟨Ao19, co19, eo19⟩ := Kd.R_slice HO_8.out
              subst eo19
              have p448 : 0 ≤ ((rd l1 x29_1) : Int) := dt
              have q448 : (rd l1 x29_1) < (x8_1.length : Int) := dt
              obtain ⟨ad448, e448, hx448_0⟩ := Kd.at_int (Kd.R_reads' HO_8.out).2.2 (rd l1 x29_1) p448 q448
              cases e448
              replace p448 := eq_true p448
              replace q448 := eq_true q448
              go_wp2
              go_ret2
              exact ⟨re, skB HB.out⟩
             ·
              rw [if_neg c18] at H
              have c18b0 : decide (0 < (rd x8_1 (rd l1 x29_1))) = false := decide_eq_false c18
              clear c18
              obtain ⟨y449, hy449⟩ : ∃ y_ : List Int, y_ = (x8_1.set ((rd l1 x29_1) : Int).toNat (wrap64 (x29_1 + 1))) := ⟨_, rfl⟩
              replace H : (event_Fits.l0 k1 l1 t440 y449 l1 (l1.length : Int) (wrap64 (x29_1 + 1))) = some (r1, r2) := by first | (rw [hy449]; with_reducible exact H) | (have H2_ := (Option.bind_some _ _).symm.trans H; rw [hy449]; with_reducible exact H2_) | (have H2_ := (Option.bind_some _ _).symm.trans H; with_reducible exact H2_) | with_reducible exact H | (rw [hy449]; exact H) | exact H
              have Ny449 := asd hy449
              clear hy449
              have H' := asd H
              clear H
              have p447 : 0 ≤ (x29_1 : Int) := dt
              have q447 : x29_1 < (l1.length : Int) := dt
              obtain ⟨ad447, e447, hx447_0⟩ := Kd.at_int HR1.out x29_1 p447 q447
              cases e447
              replace hx447_0 := skc HB.out hx447_0
              replace p447 := eq_true p447
              replace q447 := eq_true q447
              obtain ⟨Ao21, co21, eo21⟩ := Kd.R_slice HO_8.out
              subst eo21
              have p448 : 0 ≤ ((rd l1 x29_1) : Int) := dt
              have q448 : (rd l1 x29_1) < (x8_1.length : Int) := dt
              obtain ⟨ad448, e448, hx448_0⟩ := Kd.at_int (Kd.R_reads' HO_8.out).2.2 (rd l1 x29_1) p448 q448
              cases e448
              replace p448 := eq_true p448
              replace q448 := eq_true q448
              have p20 : 0 ≤ ((rd l1 x29_1) : Int) := dt
              have q20 : ((rd l1 x29_1) : Int) < ((x8_1.length : Int) : Int) := dt
              obtain ⟨go20, co20, eo20, gb20, gl20, cl20, HG20⟩ := Kd.R_form HO_8.out (by omega)
              (first | cases eo20 | (injection eo20 with ea_ en_ ec_; (first | subst ea_ | (injection ea_ with ea_; subst ea_)); subst ec_; clear en_))
              have GB20 := asd gb20
              have GG20 := asd HG20
              clear gb20 gl20 HG20
              (first | simp only [add_plain] at hx448_0 | skip)
              obtain ⟨hx20_0, hf20_0⟩ := Kd.R_celln 0 HO_8.out ((rd l1 x29_1) : Int) p20 q20
              replace p20 := eq_true p20
              replace q20 := eq_true q20
              have HP22 := Kd.R_putg HO_8.out ((rd l1 x29_1) : Int) (wrap64 (x29_1 + 1))
              go_wp2_with (first | ((with_reducible refine gate_store (t := 3) (p := 53) rfl ?_); refine store_event (t := 3) (p := 53) (v := ?vo_w23) (w1 := (wr.setCell ⟨go20, ((rd l1 x29_1) : Int).toNat, none⟩ (.int .i64 (wrap64 (x29_1 + 1))))) ?hg ?ho ?hn ?hr ?_; (case ho => rfl); (case hg => rfl); (case hn => rfl); (case hr => first | (go_simp; done) | (go_simp; rfl)); intro w23 hw; have hg : wr.grownBy w23 (some go20) := (by rw [hw]; exact HP22.2); have hp_ : Kd.R (Kd.int .i64) 3 w23 w.heap.size (fun _ => True) (.slice (some ⟨go20, 0, none⟩) x8_1.length co21) y449 := (by rw [hw, Ny449.out]; exact HP22.1); clear HP22; have n0_ := asd (Kd.S_over' (v := (.slice (some ⟨go20, 0, none⟩) x8_1.length co21)) (by (with_reducible repeat (first | apply Kd.S_alloc | apply Kd.S_drewN | apply Kd.S_drew)); exact HO_6.out) (Kd.R_typed HO_8.out) (by decide) hg); have n1_ := asd (hp_); have n2_ := asd ((by rw [hw]; exact below_set (HB.out) GB20.out : Below w.heap.size w w23)); clear HO_6; clear HO_8; clear HB; have HO_6 := n0_; have HO_8 := n1_; have HB := n2_; clear n0_ n1_ n2_; clear hg hw hp_))
              go_roundg k1
              case measure => have := HK1.out; omega
              case rel => exact ⟨(y449), (wrap64 (x29_1 + 1)), rs, H', ⟨by have := HK1.out; omega⟩, ⟨by (with_reducible repeat (first | apply Kd.S_alloc | apply Kd.S_drewN | apply Kd.S_drew)); exact HO_6.out⟩, ⟨skR HO_8.out⟩, ⟨skB HB.out⟩⟩
            ·
             rw [if_neg c17] at H
             exact absurd H (by simp)
           ·
            rw [if_neg c16] at H
            exact absurd H (by simp)
        ·
         rw [if_neg c13] at H
         exact absurd H (by simp)
       ·
        rw [if_neg c12] at H
        exact absurd H (by simp)
      ·
       rw [if_neg c11] at H
       have c11b0 : decide (x29_1 < (l1.length : Int)) = false := decide_eq_false c11
       clear c11
       have H' := asd H
       clear H
       go_wp2
       go_loopg [57] k1 (fun kq v57 w' => ∃ (x57_2 : Int), v57 = .int .i64 x57_2 ∧ Aside0 (event_Fits.l1 kq l1 t440 x8_1 t440 (t440.length : Int) x57_2 = some (r1, r2)) ∧ Aside0 (kq ≤ k1) ∧ Aside0 (Kd.S k38 38 w' w.heap.size (fun _ => True) (.slice Ao8 t440.length co8) t440) ∧ Aside0 (Kd.R (Kd.int .i64) 3 w' w.heap.size (fun _ => True) v445 x8_1) ∧ Aside0 (Kd.S k38 38 w' w.heap.size (fun _ => True) (.slice Ao8 t440.length co8) t440) ∧ Aside0 (Below w.heap.size w w'))
       case atStart => exact ⟨(0), rs, H', ⟨Nat.le_refl _⟩, ⟨by (with_reducible repeat (first | apply Kd.S_alloc | apply Kd.S_drewN | apply Kd.S_drew)); exact HO_6.out⟩, ⟨skR HO_8.out⟩, ⟨by (with_reducible repeat (first | apply Kd.S_alloc | apply Kd.S_drewN | apply Kd.S_drew)); exact HO_6.out⟩, ⟨skB HB.out⟩⟩
       case round =>
        clear H'
        try clear c1
        try clear p2
        try clear q2
        try clear hx2
        try clear hf2
        try clear c4
        try clear c4b0
        try clear c4b1
        try clear p4
        try clear q4
        try clear hx4
        try clear c5
        try clear c5b0
        try clear c5b1
        try clear c6
        try clear c6b0
        try clear c6b1
        try clear p6
        try clear c11
        try clear c11b0
        try clear c12
        try clear c12b0
        try clear c13
        try clear c13b0
        try clear c14
        try clear c14b0
        try clear c15
        try clear c15b0
        try clear c16
        try clear c16b0
        try clear c17
        try clear c17b0
        try clear c18
        try clear c18b0
        try clear p20
        try clear q20
        try clear hx20
        try clear hf20
        try clear hx20_0
        try clear hx447_0
        try clear hx448_0
        try clear p2
        try clear p20
        try clear p447
        try clear p448
        try clear q20
        try clear q447
        try clear q448
        obtain ⟨x57_2, rfl, HA, HK2, HO_6, HO_8, HO_55, HB⟩ := hrel
        cases gk with
        | zero => exact absurd HA.out (by simp [event_Fits.l1])
        | succ k2 =>
         have H := HA.out
         clear HA
         simp only [event_Fits.l1] at H
         by_cases c24 : x57_2 < (t440.length : Int)
         ·
          rw [if_pos c24] at H
          have c24b0 : decide (x57_2 < (t440.length : Int)) = true := decide_eq_true c24
          clear c24
          by_cases c25 : 0 ≤ x57_2
          ·
           rw [if_pos c25] at H
           have c25b0 : decide (0 ≤ x57_2) = true := decide_eq_true c25
           clear c25
           by_cases c26 : x57_2 < (t440.length : Int)
           ·
            rw [if_pos c26] at H
            have c26b0 : decide (x57_2 < (t440.length : Int)) = true := decide_eq_true c26
            clear c26
            by_cases c27 : ((J38 t440 x57_2).f4) ≥ 0
            ·
             rw [if_pos c27] at H
             have c27b0 : decide (0 ≤ ((J38 t440 x57_2).f4)) = true := decide_eq_true c27
             clear c27
             by_cases c28 : x57_2 < (x8_1.length : Int)
             ·
              rw [if_pos c28] at H
              have c28b0 : decide (x57_2 < (x8_1.length : Int)) = true := decide_eq_true c28
              clear c28
              by_cases c29 : (rd x8_1 x57_2) = 0
              ·
               rw [if_pos c29] at H
               have c29b0 : ((rd x8_1 x57_2) == 0) = true := beq_iff_eq.mpr c29
               have c29b1 : ((rd x8_1 x57_2) != 0) = false := bne_eq_false_iff_eq.mpr c29
               clear c29
               simp only [Option.some.injEq, Prod.mk.injEq] at H
               obtain ⟨rfl, rfl⟩ := H
               have p450 : 0 ≤ (x57_2 : Int) := dt
               have q450 : x57_2 < (t440.length : Int) := dt
               obtain ⟨ad450, A450_8, c450_8, e450, hx450_0, hx450_1, hx450_2, hx450_3, hx450_4, hx450_5, hx450_6, hx450_7, hx450_8, hx450_9, hx450_10, hl450_8, hi450_8⟩ := at_T38 (Kd.S_reads' HO_55.out).2.2 x57_2 p450 q450
               cases e450
               obtain ⟨ce450, hce450, hMe450, hcc450⟩ := Kd.S_get HO_55.out z38 x57_2 p450 (by first | exact q450 | exact dt | (have e_ := (Kd.S_reads' HO_55.out).1; omega))
               obtain ⟨ve450_8, rfl, ge450_8⟩ := k38_openM hMe450
               have hv450_8 := hcc450 8 _ rfl
               rw [add_field _ _ 8 (by omega)] at hv450_8
               replace hv450_8 := Option.some.inj (hv450_8.symm.trans hx450_8)
               rw [hv450_8] at ge450_8
               have HL450_8 := asd (show Kd.R k70 70 _ _ _ _ ((J38 t440 x57_2).f2.f3) from ge450_8)
               clear hv450_8 ge450_8
               clear hcc450 hce450
               have HR450_8 := asd hi450_8
               have HC450_8 := asd hl450_8
               clear hi450_8 hl450_8
               replace p450 := eq_true p450
               replace q450 := eq_true q450
               go_wp2_with (first | ((with_reducible refine gate_dst (N := 12) rfl ?_); (try (refine gate_guard (by rfl) ?_; dsimp only)); refine box_event ?hg (N := 12) ?hd (cs := #[.int .i64 0, .int .i64 0, .int .i64 0, .int .i64 0, .int .i64 0, .bool false, .int .i64 0, .int .i64 0, .slice none 0 0, .int .i64 0, .int .i64 0]) (t := 38) ?hr ?_; (case hd => rfl); (case hg => rfl); (case hr => first | (go_simp; done) | (go_simp; rfl)); intro gb451 hg w30 hbox hb; have n0_ := asd (Kd.S_below (Kd.S_elderB (by (with_reducible repeat (first | apply Kd.S_alloc | apply Kd.S_drewN | apply Kd.S_drew)); exact HO_6.out) gb451 (Nat.le_of_eq hg.symm)) hb); have n1_ := asd (Kd.R_below (skR HO_8.out) hb); have n2_ := asd (Kd.S_below (Kd.S_elderB (by (with_reducible repeat (first | apply Kd.S_alloc | apply Kd.S_drewN | apply Kd.S_drew)); exact HO_55.out) gb451 (Nat.le_of_eq hg.symm)) hb); have n3_ := asd (Kd.R_below (skR HL450_8.out) hb); have n4_ := asd (Kd.C_below (by repeat (first | (with_reducible exact HR450_8.out) | (with_reducible refine Kd.C_alloc ?_ _) | (with_reducible refine Kd.C_drewN ?_ _) | (with_reducible refine Kd.C_drew ?_) | exact HR450_8.out)) hb); have n5_ := asd (below_step (skB HB.out) hb); have n6_ := asd (hbox); have n7_ := asd ((by rw [hg]; exact (below_size (skB HB.out)) : w.heap.size ≤ gb451)); have n8_ := asd ((by rw [hg]; exact (below_size (skB HB.out)) : w.heap.size ≤ gb451)); clear HO_6; clear HO_8; clear HO_55; clear HL450_8; clear HR450_8; clear HB; have HO_6 := n0_; have HO_8 := n1_; have HO_55 := n2_; have HL450_8 := n3_; have HR450_8 := n4_; have HB := n5_; have BK451 := n6_; have GW451 := n7_; have GE451 := n8_; clear n0_ n1_ n2_ n3_ n4_ n5_ n6_ n7_ n8_; clear hb hbox hg; have hcz31_0 : w30.cell? ⟨gb451, 0, none⟩ = some (.int .i64 0) := (blk_cell BK451.out 0).trans rfl; have hcz31_1 : w30.cell? ⟨gb451, 1, none⟩ = some (.int .i64 0) := (blk_cell BK451.out 1).trans rfl; have hcz31_2 : w30.cell? ⟨gb451, 2, none⟩ = some (.int .i64 0) := (blk_cell BK451.out 2).trans rfl; have hcz31_3 : w30.cell? ⟨gb451, 3, none⟩ = some (.int .i64 0) := (blk_cell BK451.out 3).trans rfl; have hcz31_4 : w30.cell? ⟨gb451, 4, none⟩ = some (.int .i64 0) := (blk_cell BK451.out 4).trans rfl; have hcz31_5 : w30.cell? ⟨gb451, 5, none⟩ = some (.bool false) := (blk_cell BK451.out 5).trans rfl; have hcz31_6 : w30.cell? ⟨gb451, 6, none⟩ = some (.int .i64 0) := (blk_cell BK451.out 6).trans rfl; have hcz31_7 : w30.cell? ⟨gb451, 7, none⟩ = some (.int .i64 0) := (blk_cell BK451.out 7).trans rfl; have hcz31_8 : w30.cell? ⟨gb451, 8, none⟩ = some (.slice none 0 0) := (blk_cell BK451.out 8).trans rfl; have hcz31_9 : w30.cell? ⟨gb451, 9, none⟩ = some (.int .i64 0) := (blk_cell BK451.out 9).trans rfl; have hcz31_10 : w30.cell? ⟨gb451, 10, none⟩ = some (.int .i64 0) := (blk_cell BK451.out 10).trans rfl; have hfz31_0 := blk_frozen BK451.out 0; have hfz31_1 := blk_frozen BK451.out 1; have hfz31_2 := blk_frozen BK451.out 2; have hfz31_3 := blk_frozen BK451.out 3; have hfz31_4 := blk_frozen BK451.out 4; have hfz31_5 := blk_frozen BK451.out 5; have hfz31_6 := blk_frozen BK451.out 6; have hfz31_7 := blk_frozen BK451.out 7; have hfz31_8 := blk_frozen BK451.out 8; have hfz31_9 := blk_frozen BK451.out 9; have hfz31_10 := blk_frozen BK451.out 10; obtain ⟨Ao32, co32, eo32⟩ := Kd.R_slice HO_8.out; subst eo32; have p452 : 0 ≤ (x57_2 : Int) := dt; have q452 : x57_2 < (x8_1.length : Int) := dt; obtain ⟨ad452, e452, hx452_0⟩ := Kd.at_int (Kd.R_reads' HO_8.out).2.2 x57_2 p452 q452; cases e452; have hn452_0 : ad452.block ≠ gb451 := Kd.own_blk (Kd.R_ne HO_8.out BK451.out (by decide)); have hn452_1 : ad452.block ≠ gb451 := Kd.own_blk (Kd.R_ne HO_8.out BK451.out (by decide)); have hn452_2 : ad452.block ≠ gb451 := Kd.own_blk (Kd.R_ne HO_8.out BK451.out (by decide)); have hn452_3 : ad452.block ≠ gb451 := Kd.own_blk (Kd.R_ne HO_8.out BK451.out (by decide)); have hn452_4 : ad452.block ≠ gb451 := Kd.own_blk (Kd.R_ne HO_8.out BK451.out (by decide)); have hn452_5 : ad452.block ≠ gb451 := Kd.own_blk (Kd.R_ne HO_8.out BK451.out (by decide)); have hn452_6 : ad452.block ≠ gb451 := Kd.own_blk (Kd.R_ne HO_8.out BK451.out (by decide)); have hn452_7 : ad452.block ≠ gb451 := Kd.own_blk (Kd.R_ne HO_8.out BK451.out (by decide)); have hn452_8 : ad452.block ≠ gb451 := Kd.own_blk (Kd.R_ne HO_8.out BK451.out (by decide)); have hn452_9 : ad452.block ≠ gb451 := Kd.own_blk (Kd.R_ne HO_8.out BK451.out (by decide)); have hn452_10 : ad452.block ≠ gb451 := Kd.own_blk (Kd.R_ne HO_8.out BK451.out (by decide)); replace hx452_0 := (cell_far (p := ⟨gb451, 0, none⟩) (by first | (rw [add_block]; exact hn452_0) | (show (Addr.add _ _).block ≠ _; rw [add_block]; exact hn452_0) | exact hn452_0) (.int .i64 ((J38 t440 x57_2).f0))).trans hx452_0; replace hx452_0 := (cell_far (p := ⟨gb451, 1, none⟩) (by first | (rw [add_block]; exact hn452_1) | (show (Addr.add _ _).block ≠ _; rw [add_block]; exact hn452_1) | exact hn452_1) (.int .i64 ((J38 t440 x57_2).f1.f0))).trans hx452_0; replace hx452_0 := (cell_far (p := ⟨gb451, 2, none⟩) (by first | (rw [add_block]; exact hn452_2) | (show (Addr.add _ _).block ≠ _; rw [add_block]; exact hn452_2) | exact hn452_2) (.int .i64 ((J38 t440 x57_2).f1.f1))).trans hx452_0; replace hx452_0 := (cell_far (p := ⟨gb451, 3, none⟩) (by first | (rw [add_block]; exact hn452_3) | (show (Addr.add _ _).block ≠ _; rw [add_block]; exact hn452_3) | exact hn452_3) (.int .i64 ((J38 t440 x57_2).f1.f2))).trans hx452_0; replace hx452_0 := (cell_far (p := ⟨gb451, 4, none⟩) (by first | (rw [add_block]; exact hn452_4) | (show (Addr.add _ _).block ≠ _; rw [add_block]; exact hn452_4) | exact hn452_4) (.int .i64 ((J38 t440 x57_2).f1.f3))).trans hx452_0; replace hx452_0 := (cell_far (p := ⟨gb451, 5, none⟩) (by first | (rw [add_block]; exact hn452_5) | (show (Addr.add _ _).block ≠ _; rw [add_block]; exact hn452_5) | exact hn452_5) (.bool ((J38 t440 x57_2).f2.f0))).trans hx452_0; replace hx452_0 := (cell_far (p := ⟨gb451, 6, none⟩) (by first | (rw [add_block]; exact hn452_6) | (show (Addr.add _ _).block ≠ _; rw [add_block]; exact hn452_6) | exact hn452_6) (.int .i64 ((J38 t440 x57_2).f2.f1))).trans hx452_0; replace hx452_0 := (cell_far (p := ⟨gb451, 7, none⟩) (by first | (rw [add_block]; exact hn452_7) | (show (Addr.add _ _).block ≠ _; rw [add_block]; exact hn452_7) | exact hn452_7) (.int .i64 ((J38 t440 x57_2).f2.f2))).trans hx452_0; replace hx452_0 := (cell_far (p := ⟨gb451, 8, none⟩) (by first | (rw [add_block]; exact hn452_8) | (show (Addr.add _ _).block ≠ _; rw [add_block]; exact hn452_8) | exact hn452_8) (.slice A450_8 ((J38 t440 x57_2).f2.f3).length c450_8)).trans hx452_0; replace hx452_0 := (cell_far (p := ⟨gb451, 9, none⟩) (by first | (rw [add_block]; exact hn452_9) | (show (Addr.add _ _).block ≠ _; rw [add_block]; exact hn452_9) | exact hn452_9) (.int .i64 ((J38 t440 x57_2).f3))).trans hx452_0; replace hx452_0 := (cell_far (p := ⟨gb451, 10, none⟩) (by first | (rw [add_block]; exact hn452_10) | (show (Addr.add _ _).block ≠ _; rw [add_block]; exact hn452_10) | exact hn452_10) (.int .i64 ((J38 t440 x57_2).f4))).trans hx452_0; clear hn452_0; clear hn452_1; clear hn452_2; clear hn452_3; clear hn452_4; clear hn452_5; clear hn452_6; clear hn452_7; clear hn452_8; clear hn452_9; clear hn452_10; replace p452 := eq_true p452; replace q452 := eq_true q452))
               go_ret2
               exact ⟨re, skG HB.out GE451.out GE451.out⟩
              ·
               rw [if_neg c29] at H
               have c29b0 : ((rd x8_1 x57_2) == 0) = false := beq_eq_false_iff_ne.mpr c29
               have c29b1 : ((rd x8_1 x57_2) != 0) = true := bne_iff_ne.mpr c29
               have H' := asd H
               clear H
               have p450 : 0 ≤ (x57_2 : Int) := dt
               have q450 : x57_2 < (t440.length : Int) := dt
               obtain ⟨ad450, A450_8, c450_8, e450, hx450_0, hx450_1, hx450_2, hx450_3, hx450_4, hx450_5, hx450_6, hx450_7, hx450_8, hx450_9, hx450_10, hl450_8, hi450_8⟩ := at_T38 (Kd.S_reads' HO_55.out).2.2 x57_2 p450 q450
               cases e450
               obtain ⟨ce450, hce450, hMe450, hcc450⟩ := Kd.S_get HO_55.out z38 x57_2 p450 (by first | exact q450 | exact dt | (have e_ := (Kd.S_reads' HO_55.out).1; omega))
               obtain ⟨ve450_8, rfl, ge450_8⟩ := k38_openM hMe450
               have hv450_8 := hcc450 8 _ rfl
               rw [add_field _ _ 8 (by omega)] at hv450_8
               replace hv450_8 := Option.some.inj (hv450_8.symm.trans hx450_8)
               rw [hv450_8] at ge450_8
               have HL450_8 := asd (show Kd.R k70 70 _ _ _ _ ((J38 t440 x57_2).f2.f3) from ge450_8)
               clear hv450_8 ge450_8
               clear hcc450 hce450
               have HR450_8 := asd hi450_8
               have HC450_8 := asd hl450_8
               clear hi450_8 hl450_8
               replace p450 := eq_true p450
               replace q450 := eq_true q450
               go_wp2_with (first | ((with_reducible refine gate_dst (N := 12) rfl ?_); (try (refine gate_guard (by rfl) ?_; dsimp only)); refine box_event ?hg (N := 12) ?hd (cs := #[.int .i64 0, .int .i64 0, .int .i64 0, .int .i64 0, .int .i64 0, .bool false, .int .i64 0, .int .i64 0, .slice none 0 0, .int .i64 0, .int .i64 0]) (t := 38) ?hr ?_; (case hd => rfl); (case hg => rfl); (case hr => first | (go_simp; done) | (go_simp; rfl)); intro gb451 hg w33 hbox hb; have n0_ := asd (Kd.S_below (Kd.S_elderB (by (with_reducible repeat (first | apply Kd.S_alloc | apply Kd.S_drewN | apply Kd.S_drew)); exact HO_6.out) gb451 (Nat.le_of_eq hg.symm)) hb); have n1_ := asd (Kd.R_below (skR HO_8.out) hb); have n2_ := asd (Kd.S_below (Kd.S_elderB (by (with_reducible repeat (first | apply Kd.S_alloc | apply Kd.S_drewN | apply Kd.S_drew)); exact HO_55.out) gb451 (Nat.le_of_eq hg.symm)) hb); have n3_ := asd (Kd.R_below (skR HL450_8.out) hb); have n4_ := asd (Kd.C_below (by repeat (first | (with_reducible exact HR450_8.out) | (with_reducible refine Kd.C_alloc ?_ _) | (with_reducible refine Kd.C_drewN ?_ _) | (with_reducible refine Kd.C_drew ?_) | exact HR450_8.out)) hb); have n5_ := asd (below_step (skB HB.out) hb); have n6_ := asd (hbox); have n7_ := asd ((by rw [hg]; exact (below_size (skB HB.out)) : w.heap.size ≤ gb451)); have n8_ := asd ((by rw [hg]; exact (below_size (skB HB.out)) : w.heap.size ≤ gb451)); clear HO_6; clear HO_8; clear HO_55; clear HL450_8; clear HR450_8; clear HB; have HO_6 := n0_; have HO_8 := n1_; have HO_55 := n2_; have HL450_8 := n3_; have HR450_8 := n4_; have HB := n5_; have BK451 := n6_; have GW451 := n7_; have GE451 := n8_; clear n0_ n1_ n2_ n3_ n4_ n5_ n6_ n7_ n8_; clear hb hbox hg; have hcz34_0 : w33.cell? ⟨gb451, 0, none⟩ = some (.int .i64 0) := (blk_cell BK451.out 0).trans rfl; have hcz34_1 : w33.cell? ⟨gb451, 1, none⟩ = some (.int .i64 0) := (blk_cell BK451.out 1).trans rfl; have hcz34_2 : w33.cell? ⟨gb451, 2, none⟩ = some (.int .i64 0) := (blk_cell BK451.out 2).trans rfl; have hcz34_3 : w33.cell? ⟨gb451, 3, none⟩ = some (.int .i64 0) := (blk_cell BK451.out 3).trans rfl; have hcz34_4 : w33.cell? ⟨gb451, 4, none⟩ = some (.int .i64 0) := (blk_cell BK451.out 4).trans rfl; have hcz34_5 : w33.cell? ⟨gb451, 5, none⟩ = some (.bool false) := (blk_cell BK451.out 5).trans rfl; have hcz34_6 : w33.cell? ⟨gb451, 6, none⟩ = some (.int .i64 0) := (blk_cell BK451.out 6).trans rfl; have hcz34_7 : w33.cell? ⟨gb451, 7, none⟩ = some (.int .i64 0) := (blk_cell BK451.out 7).trans rfl; have hcz34_8 : w33.cell? ⟨gb451, 8, none⟩ = some (.slice none 0 0) := (blk_cell BK451.out 8).trans rfl; have hcz34_9 : w33.cell? ⟨gb451, 9, none⟩ = some (.int .i64 0) := (blk_cell BK451.out 9).trans rfl; have hcz34_10 : w33.cell? ⟨gb451, 10, none⟩ = some (.int .i64 0) := (blk_cell BK451.out 10).trans rfl; have hfz34_0 := blk_frozen BK451.out 0; have hfz34_1 := blk_frozen BK451.out 1; have hfz34_2 := blk_frozen BK451.out 2; have hfz34_3 := blk_frozen BK451.out 3; have hfz34_4 := blk_frozen BK451.out 4; have hfz34_5 := blk_frozen BK451.out 5; have hfz34_6 := blk_frozen BK451.out 6; have hfz34_7 := blk_frozen BK451.out 7; have hfz34_8 := blk_frozen BK451.out 8; have hfz34_9 := blk_frozen BK451.out 9; have hfz34_10 := blk_frozen BK451.out 10; obtain ⟨Ao35, co35, eo35⟩ := Kd.R_slice HO_8.out; subst eo35; have p452 : 0 ≤ (x57_2 : Int) := dt; have q452 : x57_2 < (x8_1.length : Int) := dt; obtain ⟨ad452, e452, hx452_0⟩ := Kd.at_int (Kd.R_reads' HO_8.out).2.2 x57_2 p452 q452; cases e452; have hn452_0 : ad452.block ≠ gb451 := Kd.own_blk (Kd.R_ne HO_8.out BK451.out (by decide)); have hn452_1 : ad452.block ≠ gb451 := Kd.own_blk (Kd.R_ne HO_8.out BK451.out (by decide)); have hn452_2 : ad452.block ≠ gb451 := Kd.own_blk (Kd.R_ne HO_8.out BK451.out (by decide)); have hn452_3 : ad452.block ≠ gb451 := Kd.own_blk (Kd.R_ne HO_8.out BK451.out (by decide)); have hn452_4 : ad452.block ≠ gb451 := Kd.own_blk (Kd.R_ne HO_8.out BK451.out (by decide)); have hn452_5 : ad452.block ≠ gb451 := Kd.own_blk (Kd.R_ne HO_8.out BK451.out (by decide)); have hn452_6 : ad452.block ≠ gb451 := Kd.own_blk (Kd.R_ne HO_8.out BK451.out (by decide)); have hn452_7 : ad452.block ≠ gb451 := Kd.own_blk (Kd.R_ne HO_8.out BK451.out (by decide)); have hn452_8 : ad452.block ≠ gb451 := Kd.own_blk (Kd.R_ne HO_8.out BK451.out (by decide)); have hn452_9 : ad452.block ≠ gb451 := Kd.own_blk (Kd.R_ne HO_8.out BK451.out (by decide)); have hn452_10 : ad452.block ≠ gb451 := Kd.own_blk (Kd.R_ne HO_8.out BK451.out (by decide)); replace hx452_0 := (cell_far (p := ⟨gb451, 0, none⟩) (by first | (rw [add_block]; exact hn452_0) | (show (Addr.add _ _).block ≠ _; rw [add_block]; exact hn452_0) | exact hn452_0) (.int .i64 ((J38 t440 x57_2).f0))).trans hx452_0; replace hx452_0 := (cell_far (p := ⟨gb451, 1, none⟩) (by first | (rw [add_block]; exact hn452_1) | (show (Addr.add _ _).block ≠ _; rw [add_block]; exact hn452_1) | exact hn452_1) (.int .i64 ((J38 t440 x57_2).f1.f0))).trans hx452_0; replace hx452_0 := (cell_far (p := ⟨gb451, 2, none⟩) (by first | (rw [add_block]; exact hn452_2) | (show (Addr.add _ _).block ≠ _; rw [add_block]; exact hn452_2) | exact hn452_2) (.int .i64 ((J38 t440 x57_2).f1.f1))).trans hx452_0; replace hx452_0 := (cell_far (p := ⟨gb451, 3, none⟩) (by first | (rw [add_block]; exact hn452_3) | (show (Addr.add _ _).block ≠ _; rw [add_block]; exact hn452_3) | exact hn452_3) (.int .i64 ((J38 t440 x57_2).f1.f2))).trans hx452_0; replace hx452_0 := (cell_far (p := ⟨gb451, 4, none⟩) (by first | (rw [add_block]; exact hn452_4) | (show (Addr.add _ _).block ≠ _; rw [add_block]; exact hn452_4) | exact hn452_4) (.int .i64 ((J38 t440 x57_2).f1.f3))).trans hx452_0; replace hx452_0 := (cell_far (p := ⟨gb451, 5, none⟩) (by first | (rw [add_block]; exact hn452_5) | (show (Addr.add _ _).block ≠ _; rw [add_block]; exact hn452_5) | exact hn452_5) (.bool ((J38 t440 x57_2).f2.f0))).trans hx452_0; replace hx452_0 := (cell_far (p := ⟨gb451, 6, none⟩) (by first | (rw [add_block]; exact hn452_6) | (show (Addr.add _ _).block ≠ _; rw [add_block]; exact hn452_6) | exact hn452_6) (.int .i64 ((J38 t440 x57_2).f2.f1))).trans hx452_0; replace hx452_0 := (cell_far (p := ⟨gb451, 7, none⟩) (by first | (rw [add_block]; exact hn452_7) | (show (Addr.add _ _).block ≠ _; rw [add_block]; exact hn452_7) | exact hn452_7) (.int .i64 ((J38 t440 x57_2).f2.f2))).trans hx452_0; replace hx452_0 := (cell_far (p := ⟨gb451, 8, none⟩) (by first | (rw [add_block]; exact hn452_8) | (show (Addr.add _ _).block ≠ _; rw [add_block]; exact hn452_8) | exact hn452_8) (.slice A450_8 ((J38 t440 x57_2).f2.f3).length c450_8)).trans hx452_0; replace hx452_0 := (cell_far (p := ⟨gb451, 9, none⟩) (by first | (rw [add_block]; exact hn452_9) | (show (Addr.add _ _).block ≠ _; rw [add_block]; exact hn452_9) | exact hn452_9) (.int .i64 ((J38 t440 x57_2).f3))).trans hx452_0; replace hx452_0 := (cell_far (p := ⟨gb451, 10, none⟩) (by first | (rw [add_block]; exact hn452_10) | (show (Addr.add _ _).block ≠ _; rw [add_block]; exact hn452_10) | exact hn452_10) (.int .i64 ((J38 t440 x57_2).f4))).trans hx452_0; clear hn452_0; clear hn452_1; clear hn452_2; clear hn452_3; clear hn452_4; clear hn452_5; clear hn452_6; clear hn452_7; clear hn452_8; clear hn452_9; clear hn452_10; replace p452 := eq_true p452; replace q452 := eq_true q452))
               go_roundg k2
               case measure => have := HK1.out; have := HK2.out; omega
               case rel => exact ⟨(wrap64 (x57_2 + 1)), rs, H', ⟨by have := HK1.out; have := HK2.out; omega⟩, ⟨by (with_reducible repeat (first | apply Kd.S_alloc | apply Kd.S_drewN | apply Kd.S_drew)); exact Kd.S_mono (Kd.S_far (p := ⟨gb451, 10, none⟩) (Kd.S_far (p := ⟨gb451, 9, none⟩) (Kd.S_far (p := ⟨gb451, 8, none⟩) (Kd.S_far (p := ⟨gb451, 7, none⟩) (Kd.S_far (p := ⟨gb451, 6, none⟩) (Kd.S_far (p := ⟨gb451, 5, none⟩) (Kd.S_far (p := ⟨gb451, 4, none⟩) (Kd.S_far (p := ⟨gb451, 3, none⟩) (Kd.S_far (p := ⟨gb451, 2, none⟩) (Kd.S_far (p := ⟨gb451, 1, none⟩) (Kd.S_far (p := ⟨gb451, 0, none⟩) (Kd.S_mono HO_6.out (fun k_ hk => (⟨hk, hk.2⟩ : _ ∧ k_ ≠ gb451))) (fun _ hk => hk.2) (.int .i64 ((J38 t440 x57_2).f0))) (fun _ hk => hk.2) (.int .i64 ((J38 t440 x57_2).f1.f0))) (fun _ hk => hk.2) (.int .i64 ((J38 t440 x57_2).f1.f1))) (fun _ hk => hk.2) (.int .i64 ((J38 t440 x57_2).f1.f2))) (fun _ hk => hk.2) (.int .i64 ((J38 t440 x57_2).f1.f3))) (fun _ hk => hk.2) (.bool ((J38 t440 x57_2).f2.f0))) (fun _ hk => hk.2) (.int .i64 ((J38 t440 x57_2).f2.f1))) (fun _ hk => hk.2) (.int .i64 ((J38 t440 x57_2).f2.f2))) (fun _ hk => hk.2) (.slice A450_8 ((J38 t440 x57_2).f2.f3).length c450_8)) (fun _ hk => hk.2) (.int .i64 ((J38 t440 x57_2).f3))) (fun _ hk => hk.2) (.int .i64 ((J38 t440 x57_2).f4))) (fun _ hk => trivial)⟩, ⟨skR (Kd.R_mono (Kd.R_far (p := ⟨gb451, 10, none⟩) (Kd.R_far (p := ⟨gb451, 9, none⟩) (Kd.R_far (p := ⟨gb451, 8, none⟩) (Kd.R_far (p := ⟨gb451, 7, none⟩) (Kd.R_far (p := ⟨gb451, 6, none⟩) (Kd.R_far (p := ⟨gb451, 5, none⟩) (Kd.R_far (p := ⟨gb451, 4, none⟩) (Kd.R_far (p := ⟨gb451, 3, none⟩) (Kd.R_far (p := ⟨gb451, 2, none⟩) (Kd.R_far (p := ⟨gb451, 1, none⟩) (Kd.R_far (p := ⟨gb451, 0, none⟩) (Kd.R_types HO_8.out BK451.out (by decide)) (fun _ hk => hk.2) (.int .i64 ((J38 t440 x57_2).f0))) (fun _ hk => hk.2) (.int .i64 ((J38 t440 x57_2).f1.f0))) (fun _ hk => hk.2) (.int .i64 ((J38 t440 x57_2).f1.f1))) (fun _ hk => hk.2) (.int .i64 ((J38 t440 x57_2).f1.f2))) (fun _ hk => hk.2) (.int .i64 ((J38 t440 x57_2).f1.f3))) (fun _ hk => hk.2) (.bool ((J38 t440 x57_2).f2.f0))) (fun _ hk => hk.2) (.int .i64 ((J38 t440 x57_2).f2.f1))) (fun _ hk => hk.2) (.int .i64 ((J38 t440 x57_2).f2.f2))) (fun _ hk => hk.2) (.slice A450_8 ((J38 t440 x57_2).f2.f3).length c450_8)) (fun _ hk => hk.2) (.int .i64 ((J38 t440 x57_2).f3))) (fun _ hk => hk.2) (.int .i64 ((J38 t440 x57_2).f4))) (fun _ hk => trivial))⟩, ⟨by (with_reducible repeat (first | apply Kd.S_alloc | apply Kd.S_drewN | apply Kd.S_drew)); exact Kd.S_mono (Kd.S_far (p := ⟨gb451, 10, none⟩) (Kd.S_far (p := ⟨gb451, 9, none⟩) (Kd.S_far (p := ⟨gb451, 8, none⟩) (Kd.S_far (p := ⟨gb451, 7, none⟩) (Kd.S_far (p := ⟨gb451, 6, none⟩) (Kd.S_far (p := ⟨gb451, 5, none⟩) (Kd.S_far (p := ⟨gb451, 4, none⟩) (Kd.S_far (p := ⟨gb451, 3, none⟩) (Kd.S_far (p := ⟨gb451, 2, none⟩) (Kd.S_far (p := ⟨gb451, 1, none⟩) (Kd.S_far (p := ⟨gb451, 0, none⟩) (Kd.S_mono HO_55.out (fun k_ hk => (⟨hk, hk.2⟩ : _ ∧ k_ ≠ gb451))) (fun _ hk => hk.2) (.int .i64 ((J38 t440 x57_2).f0))) (fun _ hk => hk.2) (.int .i64 ((J38 t440 x57_2).f1.f0))) (fun _ hk => hk.2) (.int .i64 ((J38 t440 x57_2).f1.f1))) (fun _ hk => hk.2) (.int .i64 ((J38 t440 x57_2).f1.f2))) (fun _ hk => hk.2) (.int .i64 ((J38 t440 x57_2).f1.f3))) (fun _ hk => hk.2) (.bool ((J38 t440 x57_2).f2.f0))) (fun _ hk => hk.2) (.int .i64 ((J38 t440 x57_2).f2.f1))) (fun _ hk => hk.2) (.int .i64 ((J38 t440 x57_2).f2.f2))) (fun _ hk => hk.2) (.slice A450_8 ((J38 t440 x57_2).f2.f3).length c450_8)) (fun _ hk => hk.2) (.int .i64 ((J38 t440 x57_2).f3))) (fun _ hk => hk.2) (.int .i64 ((J38 t440 x57_2).f4))) (fun _ hk => trivial)⟩, ⟨skG HB.out GE451.out GE451.out⟩⟩
             ·
              rw [if_neg c28] at H
              exact absurd H (by simp)
            ·
             rw [if_neg c27] at H
             have c27b0 : decide (0 ≤ ((J38 t440 x57_2).f4)) = false := decide_eq_false c27
             clear c27
             have H' := asd H
             clear H
             have p450 : 0 ≤ (x57_2 : Int) := dt
             have q450 : x57_2 < (t440.length : Int) := dt
             obtain ⟨ad450, A450_8, c450_8, e450, hx450_0, hx450_1, hx450_2, hx450_3, hx450_4, hx450_5, hx450_6, hx450_7, hx450_8, hx450_9, hx450_10, hl450_8, hi450_8⟩ := at_T38 (Kd.S_reads' HO_55.out).2.2 x57_2 p450 q450
             cases e450
             obtain ⟨ce450, hce450, hMe450, hcc450⟩ := Kd.S_get HO_55.out z38 x57_2 p450 (by first | exact q450 | exact dt | (have e_ := (Kd.S_reads' HO_55.out).1; omega))
             obtain ⟨ve450_8, rfl, ge450_8⟩ := k38_openM hMe450
             have hv450_8 := hcc450 8 _ rfl
             rw [add_field _ _ 8 (by omega)] at hv450_8
             replace hv450_8 := Option.some.inj (hv450_8.symm.trans hx450_8)
             rw [hv450_8] at ge450_8
             have HL450_8 := asd (show Kd.R k70 70 _ _ _ _ ((J38 t440 x57_2).f2.f3) from ge450_8)
             clear hv450_8 ge450_8
             clear hcc450 hce450
             have HR450_8 := asd hi450_8
             have HC450_8 := asd hl450_8
             clear hi450_8 hl450_8
             replace p450 := eq_true p450
             replace q450 := eq_true q450
             go_wp2_with (first | ((with_reducible refine gate_dst (N := 12) rfl ?_); (try (refine gate_guard (by rfl) ?_; dsimp only)); refine box_event ?hg (N := 12) ?hd (cs := #[.int .i64 0, .int .i64 0, .int .i64 0, .int .i64 0, .int .i64 0, .bool false, .int .i64 0, .int .i64 0, .slice none 0 0, .int .i64 0, .int .i64 0]) (t := 38) ?hr ?_; (case hd => rfl); (case hg => rfl); (case hr => first | (go_simp; done) | (go_simp; rfl)); intro gb451 hg w36 hbox hb; have n0_ := asd (Kd.S_below (Kd.S_elderB (by (with_reducible repeat (first | apply Kd.S_alloc | apply Kd.S_drewN | apply Kd.S_drew)); exact HO_6.out) gb451 (Nat.le_of_eq hg.symm)) hb); have n1_ := asd (Kd.R_below (skR HO_8.out) hb); have n2_ := asd (Kd.S_below (Kd.S_elderB (by (with_reducible repeat (first | apply Kd.S_alloc | apply Kd.S_drewN | apply Kd.S_drew)); exact HO_55.out) gb451 (Nat.le_of_eq hg.symm)) hb); have n3_ := asd (Kd.R_below (skR HL450_8.out) hb); have n4_ := asd (Kd.C_below (by repeat (first | (with_reducible exact HR450_8.out) | (with_reducible refine Kd.C_alloc ?_ _) | (with_reducible refine Kd.C_drewN ?_ _) | (with_reducible refine Kd.C_drew ?_) | exact HR450_8.out)) hb); have n5_ := asd (below_step (skB HB.out) hb); have n6_ := asd (hbox); have n7_ := asd ((by rw [hg]; exact (below_size (skB HB.out)) : w.heap.size ≤ gb451)); have n8_ := asd ((by rw [hg]; exact (below_size (skB HB.out)) : w.heap.size ≤ gb451)); clear HO_6; clear HO_8; clear HO_55; clear HL450_8; clear HR450_8; clear HB; have HO_6 := n0_; have HO_8 := n1_; have HO_55 := n2_; have HL450_8 := n3_; have HR450_8 := n4_; have HB := n5_; have BK451 := n6_; have GW451 := n7_; have GE451 := n8_; clear n0_ n1_ n2_ n3_ n4_ n5_ n6_ n7_ n8_; clear hb hbox hg; have hcz37_0 : w36.cell? ⟨gb451, 0, none⟩ = some (.int .i64 0) := (blk_cell BK451.out 0).trans rfl; have hcz37_1 : w36.cell? ⟨gb451, 1, none⟩ = some (.int .i64 0) := (blk_cell BK451.out 1).trans rfl; have hcz37_2 : w36.cell? ⟨gb451, 2, none⟩ = some (.int .i64 0) := (blk_cell BK451.out 2).trans rfl; have hcz37_3 : w36.cell? ⟨gb451, 3, none⟩ = some (.int .i64 0) := (blk_cell BK451.out 3).trans rfl; have hcz37_4 : w36.cell? ⟨gb451, 4, none⟩ = some (.int .i64 0) := (blk_cell BK451.out 4).trans rfl; have hcz37_5 : w36.cell? ⟨gb451, 5, none⟩ = some (.bool false) := (blk_cell BK451.out 5).trans rfl; have hcz37_6 : w36.cell? ⟨gb451, 6, none⟩ = some (.int .i64 0) := (blk_cell BK451.out 6).trans rfl; have hcz37_7 : w36.cell? ⟨gb451, 7, none⟩ = some (.int .i64 0) := (blk_cell BK451.out 7).trans rfl; have hcz37_8 : w36.cell? ⟨gb451, 8, none⟩ = some (.slice none 0 0) := (blk_cell BK451.out 8).trans rfl; have hcz37_9 : w36.cell? ⟨gb451, 9, none⟩ = some (.int .i64 0) := (blk_cell BK451.out 9).trans rfl; have hcz37_10 : w36.cell? ⟨gb451, 10, none⟩ = some (.int .i64 0) := (blk_cell BK451.out 10).trans rfl; have hfz37_0 := blk_frozen BK451.out 0; have hfz37_1 := blk_frozen BK451.out 1; have hfz37_2 := blk_frozen BK451.out 2; have hfz37_3 := blk_frozen BK451.out 3; have hfz37_4 := blk_frozen BK451.out 4; have hfz37_5 := blk_frozen BK451.out 5; have hfz37_6 := blk_frozen BK451.out 6; have hfz37_7 := blk_frozen BK451.out 7; have hfz37_8 := blk_frozen BK451.out 8; have hfz37_9 := blk_frozen BK451.out 9; have hfz37_10 := blk_frozen BK451.out 10))
             go_roundg k2
             case measure => have := HK1.out; have := HK2.out; omega
             case rel => exact ⟨(wrap64 (x57_2 + 1)), rs, H', ⟨by have := HK1.out; have := HK2.out; omega⟩, ⟨by (with_reducible repeat (first | apply Kd.S_alloc | apply Kd.S_drewN | apply Kd.S_drew)); exact Kd.S_mono (Kd.S_far (p := ⟨gb451, 10, none⟩) (Kd.S_far (p := ⟨gb451, 9, none⟩) (Kd.S_far (p := ⟨gb451, 8, none⟩) (Kd.S_far (p := ⟨gb451, 7, none⟩) (Kd.S_far (p := ⟨gb451, 6, none⟩) (Kd.S_far (p := ⟨gb451, 5, none⟩) (Kd.S_far (p := ⟨gb451, 4, none⟩) (Kd.S_far (p := ⟨gb451, 3, none⟩) (Kd.S_far (p := ⟨gb451, 2, none⟩) (Kd.S_far (p := ⟨gb451, 1, none⟩) (Kd.S_far (p := ⟨gb451, 0, none⟩) (Kd.S_mono HO_6.out (fun k_ hk => (⟨hk, hk.2⟩ : _ ∧ k_ ≠ gb451))) (fun _ hk => hk.2) (.int .i64 ((J38 t440 x57_2).f0))) (fun _ hk => hk.2) (.int .i64 ((J38 t440 x57_2).f1.f0))) (fun _ hk => hk.2) (.int .i64 ((J38 t440 x57_2).f1.f1))) (fun _ hk => hk.2) (.int .i64 ((J38 t440 x57_2).f1.f2))) (fun _ hk => hk.2) (.int .i64 ((J38 t440 x57_2).f1.f3))) (fun _ hk => hk.2) (.bool ((J38 t440 x57_2).f2.f0))) (fun _ hk => hk.2) (.int .i64 ((J38 t440 x57_2).f2.f1))) (fun _ hk => hk.2) (.int .i64 ((J38 t440 x57_2).f2.f2))) (fun _ hk => hk.2) (.slice A450_8 ((J38 t440 x57_2).f2.f3).length c450_8)) (fun _ hk => hk.2) (.int .i64 ((J38 t440 x57_2).f3))) (fun _ hk => hk.2) (.int .i64 ((J38 t440 x57_2).f4))) (fun _ hk => trivial)⟩, ⟨skR (Kd.R_mono (Kd.R_far (p := ⟨gb451, 10, none⟩) (Kd.R_far (p := ⟨gb451, 9, none⟩) (Kd.R_far (p := ⟨gb451, 8, none⟩) (Kd.R_far (p := ⟨gb451, 7, none⟩) (Kd.R_far (p := ⟨gb451, 6, none⟩) (Kd.R_far (p := ⟨gb451, 5, none⟩) (Kd.R_far (p := ⟨gb451, 4, none⟩) (Kd.R_far (p := ⟨gb451, 3, none⟩) (Kd.R_far (p := ⟨gb451, 2, none⟩) (Kd.R_far (p := ⟨gb451, 1, none⟩) (Kd.R_far (p := ⟨gb451, 0, none⟩) (Kd.R_types HO_8.out BK451.out (by decide)) (fun _ hk => hk.2) (.int .i64 ((J38 t440 x57_2).f0))) (fun _ hk => hk.2) (.int .i64 ((J38 t440 x57_2).f1.f0))) (fun _ hk => hk.2) (.int .i64 ((J38 t440 x57_2).f1.f1))) (fun _ hk => hk.2) (.int .i64 ((J38 t440 x57_2).f1.f2))) (fun _ hk => hk.2) (.int .i64 ((J38 t440 x57_2).f1.f3))) (fun _ hk => hk.2) (.bool ((J38 t440 x57_2).f2.f0))) (fun _ hk => hk.2) (.int .i64 ((J38 t440 x57_2).f2.f1))) (fun _ hk => hk.2) (.int .i64 ((J38 t440 x57_2).f2.f2))) (fun _ hk => hk.2) (.slice A450_8 ((J38 t440 x57_2).f2.f3).length c450_8)) (fun _ hk => hk.2) (.int .i64 ((J38 t440 x57_2).f3))) (fun _ hk => hk.2) (.int .i64 ((J38 t440 x57_2).f4))) (fun _ hk => trivial))⟩, ⟨by (with_reducible repeat (first | apply Kd.S_alloc | apply Kd.S_drewN | apply Kd.S_drew)); exact Kd.S_mono (Kd.S_far (p := ⟨gb451, 10, none⟩) (Kd.S_far (p := ⟨gb451, 9, none⟩) (Kd.S_far (p := ⟨gb451, 8, none⟩) (Kd.S_far (p := ⟨gb451, 7, none⟩) (Kd.S_far (p := ⟨gb451, 6, none⟩) (Kd.S_far (p := ⟨gb451, 5, none⟩) (Kd.S_far (p := ⟨gb451, 4, none⟩) (Kd.S_far (p := ⟨gb451, 3, none⟩) (Kd.S_far (p := ⟨gb451, 2, none⟩) (Kd.S_far (p := ⟨gb451, 1, none⟩) (Kd.S_far (p := ⟨gb451, 0, none⟩) (Kd.S_mono HO_55.out (fun k_ hk => (⟨hk, hk.2⟩ : _ ∧ k_ ≠ gb451))) (fun _ hk => hk.2) (.int .i64 ((J38 t440 x57_2).f0))) (fun _ hk => hk.2) (.int .i64 ((J38 t440 x57_2).f1.f0))) (fun _ hk => hk.2) (.int .i64 ((J38 t440 x57_2).f1.f1))) (fun _ hk => hk.2) (.int .i64 ((J38 t440 x57_2).f1.f2))) (fun _ hk => hk.2) (.int .i64 ((J38 t440 x57_2).f1.f3))) (fun _ hk => hk.2) (.bool ((J38 t440 x57_2).f2.f0))) (fun _ hk => hk.2) (.int .i64 ((J38 t440 x57_2).f2.f1))) (fun _ hk => hk.2) (.int .i64 ((J38 t440 x57_2).f2.f2))) (fun _ hk => hk.2) (.slice A450_8 ((J38 t440 x57_2).f2.f3).length c450_8)) (fun _ hk => hk.2) (.int .i64 ((J38 t440 x57_2).f3))) (fun _ hk => hk.2) (.int .i64 ((J38 t440 x57_2).f4))) (fun _ hk => trivial)⟩, ⟨skG HB.out GE451.out GE451.out⟩⟩
           ·
            rw [if_neg c26] at H
            exact absurd H (by simp)
          ·
           rw [if_neg c25] at H
           exact absurd H (by simp)
         ·
          rw [if_neg c24] at H
          have c24b0 : decide (x57_2 < (t440.length : Int)) = false := decide_eq_false c24
          clear c24
          have H' := asd H
          clear H
          go_wp2
          go_loopg [13, 75] k2 (fun kq v13 v75 w' => ∃ (x13_3 : Int) (x75_3 : Int), v13 = .int .i64 x13_3 ∧ v75 = .int .i64 x75_3 ∧ Aside0 (event_Fits.l2 kq t440 x13_3 l1 (l1.length : Int) x75_3 = some (r1, r2)) ∧ Aside0 (kq ≤ k2) ∧ Aside0 (Kd.S k38 38 w' w.heap.size (fun _ => True) (.slice Ao8 t440.length co8) t440) ∧ Aside0 (Below w.heap.size w w'))
          case atStart => exact ⟨((-1)), (0), rs, rs, H', ⟨Nat.le_refl _⟩, ⟨by (with_reducible repeat (first | apply Kd.S_alloc | apply Kd.S_drewN | apply Kd.S_drew)); exact HO_6.out⟩, ⟨skB HB.out⟩⟩
          case round =>
           clear H'
           try clear c1
           try clear c2
           try clear p2
           try clear q2
           try clear hx2
           try clear hf2
           try clear c4
           try clear c4b0
           try clear c4b1
           try clear p4
           try clear q4
           try clear hx4
           try clear c5
           try clear c5b0
           try clear c5b1
           try clear c6
           try clear c6b0
           try clear c6b1
           try clear p6
           try clear c11
           try clear c11b0
           try clear c12
           try clear c12b0
           try clear c13
           try clear c13b0
           try clear c14
           try clear c14b0
           try clear c15
           try clear c15b0
           try clear c16
           try clear c16b0
           try clear c17
           try clear c17b0
           try clear c18
           try clear c18b0
           try clear p20
           try clear q20
           try clear hx20
           try clear hf20
           try clear c24
           try clear c24b0
           try clear c25
           try clear c25b0
           try clear c26
           try clear c26b0
           try clear c27
           try clear c27b0
           try clear c28
           try clear c28b0
           try clear c29
           try clear c29b0
           try clear c29b1
           try clear hcz31_0
           try clear hcz31_1
           try clear hcz31_10
           try clear hcz31_2
           try clear hcz31_3
           try clear hcz31_4
           try clear hcz31_5
           try clear hcz31_6
           try clear hcz31_7
           try clear hcz31_8
           try clear hcz31_9
           try clear hcz34_0
           try clear hcz34_1
           try clear hcz34_10
           try clear hcz34_2
           try clear hcz34_3
           try clear hcz34_4
           try clear hcz34_5
           try clear hcz34_6
           try clear hcz34_7
           try clear hcz34_8
           try clear hcz34_9
           try clear hcz37_0
           try clear hcz37_1
           try clear hcz37_10
           try clear hcz37_2
           try clear hcz37_3
           try clear hcz37_4
           try clear hcz37_5
           try clear hcz37_6
           try clear hcz37_7
           try clear hcz37_8
           try clear hcz37_9
           try clear hfz31_0
           try clear hfz31_1
           try clear hfz31_10
           try clear hfz31_2
           try clear hfz31_3
           try clear hfz31_4
           try clear hfz31_5
           try clear hfz31_6
           try clear hfz31_7
           try clear hfz31_8
           try clear hfz31_9
           try clear hfz34_0
           try clear hfz34_1
           try clear hfz34_10
           try clear hfz34_2
           try clear hfz34_3
           try clear hfz34_4
           try clear hfz34_5
           try clear hfz34_6
           try clear hfz34_7
           try clear hfz34_8
           try clear hfz34_9
           try clear hfz37_0
           try clear hfz37_1
           try clear hfz37_10
           try clear hfz37_2
           try clear hfz37_3
           try clear hfz37_4
           try clear hfz37_5
           try clear hfz37_6
           try clear hfz37_7
           try clear hfz37_8
           try clear hfz37_9
           try clear hx20_0
           try clear hx447_0
           try clear hx448_0
           try clear hx450_0
           try clear hx450_1
           try clear hx450_10
           try clear hx450_2
           try clear hx450_3
           try clear hx450_4
           try clear hx450_5
           try clear hx450_6
           try clear hx450_7
           try clear hx450_8
           try clear hx450_9
           try clear hx452_0
           try clear p2
           try clear p20
           try clear p4
           try clear p447
           try clear p448
           try clear p450
           try clear p452
           try clear p6
           try clear q2
           try clear q20
           try clear q4
           try clear q447
           try clear q448
           try clear q450
           try clear q452
           obtain ⟨x13_3, x75_3, rfl, rfl, HA, HK3, HO_6, HB⟩ := hrel
           cases gk with
           | zero => exact absurd HA.out (by simp [event_Fits.l2])
           | succ k3 =>
            have H := HA.out
            clear HA
            simp only [event_Fits.l2] at H
            by_cases c38 : x75_3 < (l1.length : Int)
            ·
             rw [if_pos c38] at H
             have c38b0 : decide (x75_3 < (l1.length : Int)) = true := decide_eq_true c38
             clear c38
             by_cases c39 : 0 ≤ x75_3
             ·
              rw [if_pos c39] at H
              have c39b0 : decide (0 ≤ x75_3) = true := decide_eq_true c39
              clear c39
              by_cases c40 : x75_3 < (l1.length : Int)
              ·
               rw [if_pos c40] at H
               have c40b0 : decide (x75_3 < (l1.length : Int)) = true := decide_eq_true c40
               clear c40
               by_cases c41 : 0 ≤ (rd l1 x75_3)
               ·
                rw [if_pos c41] at H
                have c41b0 : decide (0 ≤ (rd l1 x75_3)) = true := decide_eq_true c41
                clear c41
                by_cases c42 : (rd l1 x75_3) < (t440.length : Int)
                ·
                 rw [if_pos c42] at H
                 have c42b0 : decide ((rd l1 x75_3) < (t440.length : Int)) = true := decide_eq_true c42
                 clear c42
                 by_cases c43 : ((J38 t440 (rd l1 x75_3)).f4) ≥ 0
                 ·
                  rw [if_pos c43] at H
                  have c43b0 : decide (0 ≤ ((J38 t440 (rd l1 x75_3)).f4)) = true := decide_eq_true c43
                  clear c43
                  by_cases c44 : ((J38 t440 (rd l1 x75_3)).f4) < x13_3
                  ·
                   rw [if_pos c44] at H
                   have c44b0 : decide (((J38 t440 (rd l1 x75_3)).f4) < x13_3) = true := decide_eq_true c44
                   clear c44
                   simp only [Option.some.injEq, Prod.mk.injEq] at H
                   obtain ⟨rfl, rfl⟩ := H
                   have p453 : 0 ≤ (x75_3 : Int) := dt
                   have q453 : x75_3 < (l1.length : Int) := dt
                   obtain ⟨ad453, e453, hx453_0⟩ := Kd.at_int HR1.out x75_3 p453 q453
                   cases e453
                   replace hx453_0 := skc HB.out hx453_0
                   replace p453 := eq_true p453
                   replace q453 := eq_true q453
                   have p454 : 0 ≤ ((rd l1 x75_3) : Int) := dt
                   have q454 : (rd l1 x75_3) < (t440.length : Int) := dt
                   obtain ⟨ad454, A454_8, c454_8, e454, hx454_0, hx454_1, hx454_2, hx454_3, hx454_4, hx454_5, hx454_6, hx454_7, hx454_8, hx454_9, hx454_10, hl454_8, hi454_8⟩ := at_T38 (Kd.S_reads' HO_6.out).2.2 (rd l1 x75_3) p454 q454
                   cases e454
                   obtain ⟨ce454, hce454, hMe454, hcc454⟩ := Kd.S_get HO_6.out z38 (rd l1 x75_3) p454 (by first | exact q454 | exact dt | (have e_ := (Kd.S_reads' HO_6.out).1; omega))
                   obtain ⟨ve454_8, rfl, ge454_8⟩ := k38_openM hMe454
                   have hv454_8 := hcc454 8 _ rfl
                   rw [add_field _ _ 8 (by omega)] at hv454_8
                   replace hv454_8 := Option.some.inj (hv454_8.symm.trans hx454_8)
                   rw [hv454_8] at ge454_8
                   have HL454_8 := asd (show Kd.R k70 70 _ _ _ _ ((J38 t440 (rd l1 x75_3)).f2.f3) from ge454_8)
                   clear hv454_8 ge454_8
                   clear hcc454 hce454
                   have HR454_8 := asd hi454_8
                   have HC454_8 := asd hl454_8
                   clear hi454_8 hl454_8
                   replace p454 := eq_true p454
                   replace q454 := eq_true q454
                   have p455 : 0 ≤ ((rd l1 x75_3) : Int) := dt
                   have q455 : (rd l1 x75_3) < (t440.length : Int) := dt
                   obtain ⟨ad455, A455_8, c455_8, e455, hx455_0, hx455_1, hx455_2, hx455_3, hx455_4, hx455_5, hx455_6, hx455_7, hx455_8, hx455_9, hx455_10, hl455_8, hi455_8⟩ := at_T38 (Kd.S_reads' HO_6.out).2.2 (rd l1 x75_3) p455 q455
                   obtain rfl : ad454 = ad455 := (by injection e455)
                   obtain ⟨ce455, hce455, hMe455, hcc455⟩ := Kd.S_get HO_6.out z38 (rd l1 x75_3) p455 (by first | exact q455 | exact dt | (have e_ := (Kd.S_reads' HO_6.out).1; omega))
                   obtain ⟨ve455_8, rfl, ge455_8⟩ := k38_openM hMe455
                   have hv455_8 := hcc455 8 _ rfl
                   rw [add_field _ _ 8 (by omega)] at hv455_8
                   replace hv455_8 := Option.some.inj (hv455_8.symm.trans hx455_8)
                   rw [hv455_8] at ge455_8
                   have HL455_8 := asd (show Kd.R k70 70 _ _ _ _ ((J38 t440 (rd l1 x75_3)).f2.f3) from ge455_8)
                   clear hv455_8 ge455_8
                   clear hcc455 hce455
                   have HR455_8 := asd hi455_8
                   have HC455_8 := asd hl455_8
                   clear hi455_8 hl455_8
                   replace p455 := eq_true p455
                   replace q455 := eq_true q455
                   have ea_ := Option.some.inj (hx454_8.symm.trans hx455_8)
                   injection ea_ with ea_ en_ ec_
                   subst ea_
                   subst ec_
                   clear en_
                   go_wp2
                   go_ret2
                   exact ⟨re, skB HB.out⟩
                  ·
                   rw [if_neg c44] at H
                   have c44b0 : decide (((J38 t440 (rd l1 x75_3)).f4) < x13_3) = false := decide_eq_false c44
                   clear c44
                   obtain ⟨ji45, hji45⟩ : ∃ j_ : Int, (mx x13_3 ((J38 t440 (rd l1 x75_3)).f3)) = j_ := ⟨_, rfl⟩
                   replace H : (event_Fits.l2 k3 t440 ji45 l1 (l1.length : Int) (wrap64 (x75_3 + 1))) = some (r1, r2) := by first | (rw [hji45] at H; exact H) | (simp only [hji45] at H ⊢; exact H)
                   have hji45_ : (if x13_3 < ((J38 t440 (rd l1 x75_3)).f3) then ((J38 t440 (rd l1 x75_3)).f3) else x13_3) = ji45 := hji45
                   have H' := asd H
                   clear H
                   have p453 : 0 ≤ (x75_3 : Int) := dt
                   have q453 : x75_3 < (l1.length : Int) := dt
                   obtain ⟨ad453, e453, hx453_0⟩ := Kd.at_int HR1.out x75_3 p453 q453
                   cases e453
                   replace hx453_0 := skc HB.out hx453_0
                   replace p453 := eq_true p453
                   replace q453 := eq_true q453
                   have p454 : 0 ≤ ((rd l1 x75_3) : Int) := dt
                   have q454 : (rd l1 x75_3) < (t440.length : Int) := dt
                   obtain ⟨ad454, A454_8, c454_8, e454, hx454_0, hx454_1, hx454_2, hx454_3, hx454_4, hx454_5, hx454_6, hx454_7, hx454_8, hx454_9, hx454_10, hl454_8, hi454_8⟩ := at_T38 (Kd.S_reads' HO_6.out).2.2 (rd l1 x75_3) p454 q454
                   cases e454
                   obtain ⟨ce454, hce454, hMe454, hcc454⟩ := Kd.S_get HO_6.out z38 (rd l1 x75_3) p454 (by first | exact q454 | exact dt | (have e_ := (Kd.S_reads' HO_6.out).1; omega))
                   obtain ⟨ve454_8, rfl, ge454_8⟩ := k38_openM hMe454
                   have hv454_8 := hcc454 8 _ rfl
                   rw [add_field _ _ 8 (by omega)] at hv454_8
                   replace hv454_8 := Option.some.inj (hv454_8.symm.trans hx454_8)
                   rw [hv454_8] at ge454_8
                   have HL454_8 := asd (show Kd.R k70 70 _ _ _ _ ((J38 t440 (rd l1 x75_3)).f2.f3) from ge454_8)
                   clear hv454_8 ge454_8
                   clear hcc454 hce454
                   have HR454_8 := asd hi454_8
                   have HC454_8 := asd hl454_8
                   clear hi454_8 hl454_8
                   replace p454 := eq_true p454
                   replace q454 := eq_true q454
                   have p455 : 0 ≤ ((rd l1 x75_3) : Int) := dt
                   have q455 : (rd l1 x75_3) < (t440.length : Int) := dt
                   obtain ⟨ad455, A455_8, c455_8, e455, hx455_0, hx455_1, hx455_2, hx455_3, hx455_4, hx455_5, hx455_6, hx455_7, hx455_8, hx455_9, hx455_10, hl455_8, hi455_8⟩ := at_T38 (Kd.S_reads' HO_6.out).2.2 (rd l1 x75_3) p455 q455
                   obtain rfl : ad454 = ad455 := (by injection e455)
                   obtain ⟨ce455, hce455, hMe455, hcc455⟩ := Kd.S_get HO_6.out z38 (rd l1 x75_3) p455 (by first | exact q455 | exact dt | (have e_ := (Kd.S_reads' HO_6.out).1; omega))
                   obtain ⟨ve455_8, rfl, ge455_8⟩ := k38_openM hMe455
                   have hv455_8 := hcc455 8 _ rfl
                   rw [add_field _ _ 8 (by omega)] at hv455_8
                   replace hv455_8 := Option.some.inj (hv455_8.symm.trans hx455_8)
                   rw [hv455_8] at ge455_8
                   have HL455_8 := asd (show Kd.R k70 70 _ _ _ _ ((J38 t440 (rd l1 x75_3)).f2.f3) from ge455_8)
                   clear hv455_8 ge455_8
                   clear hcc455 hce455
                   have HR455_8 := asd hi455_8
                   have HC455_8 := asd hl455_8
                   clear hi455_8 hl455_8
                   replace p455 := eq_true p455
                   replace q455 := eq_true q455
                   have ea_ := Option.some.inj (hx454_8.symm.trans hx455_8)
                   injection ea_ with ea_ en_ ec_
                   subst ea_
                   subst ec_
                   clear en_
                   have p456 : 0 ≤ ((rd l1 x75_3) : Int) := dt
                   have q456 : (rd l1 x75_3) < (t440.length : Int) := dt
                   obtain ⟨ad456, A456_8, c456_8, e456, hx456_0, hx456_1, hx456_2, hx456_3, hx456_4, hx456_5, hx456_6, hx456_7, hx456_8, hx456_9, hx456_10, hl456_8, hi456_8⟩ := at_T38 (Kd.S_reads' HO_6.out).2.2 (rd l1 x75_3) p456 q456
                   obtain rfl : ad454 = ad456 := (by injection e456)
                   obtain ⟨ce456, hce456, hMe456, hcc456⟩ := Kd.S_get HO_6.out z38 (rd l1 x75_3) p456 (by first | exact q456 | exact dt | (have e_ := (Kd.S_reads' HO_6.out).1; omega))
                   obtain ⟨ve456_8, rfl, ge456_8⟩ := k38_openM hMe456
                   have hv456_8 := hcc456 8 _ rfl
                   rw [add_field _ _ 8 (by omega)] at hv456_8
                   replace hv456_8 := Option.some.inj (hv456_8.symm.trans hx456_8)
                   rw [hv456_8] at ge456_8
                   have HL456_8 := asd (show Kd.R k70 70 _ _ _ _ ((J38 t440 (rd l1 x75_3)).f2.f3) from ge456_8)
                   clear hv456_8 ge456_8
                   clear hcc456 hce456
                   have HR456_8 := asd hi456_8
                   have HC456_8 := asd hl456_8
                   clear hi456_8 hl456_8
                   replace p456 := eq_true p456
                   replace q456 := eq_true q456
                   have ea_ := Option.some.inj (hx454_8.symm.trans hx456_8)
                   injection ea_ with ea_ en_ ec_
                   subst ea_
                   subst ec_
                   clear en_
                   go_wp2
                   go_roundg k3
                   case measure => have := HK1.out; have := HK2.out; have := HK3.out; omega
                   case rel => exact ⟨(ji45), (wrap64 (x75_3 + 1)), (by first | rfl | (simp; done) | (simp only [← hji45] <;> (first | rfl | simp)) | (simp [*]; done)), rs, H', ⟨by have := HK1.out; have := HK2.out; have := HK3.out; omega⟩, ⟨by (with_reducible repeat (first | apply Kd.S_alloc | apply Kd.S_drewN | apply Kd.S_drew)); exact HO_6.out⟩, ⟨skB HB.out⟩⟩
                 ·
                  rw [if_neg c43] at H
                  have c43b0 : decide (0 ≤ ((J38 t440 (rd l1 x75_3)).f4)) = false := decide_eq_false c43
                  clear c43
                  obtain ⟨ji46, hji46⟩ : ∃ j_ : Int, (mx x13_3 ((J38 t440 (rd l1 x75_3)).f3)) = j_ := ⟨_, rfl⟩
                  replace H : (event_Fits.l2 k3 t440 ji46 l1 (l1.length : Int) (wrap64 (x75_3 + 1))) = some (r1, r2) := by first | (rw [hji46] at H; exact H) | (simp only [hji46] at H ⊢; exact H)
                  have hji46_ : (if x13_3 < ((J38 t440 (rd l1 x75_3)).f3) then ((J38 t440 (rd l1 x75_3)).f3) else x13_3) = ji46 := hji46
                  have H' := asd H
                  clear H
                  have p453 : 0 ≤ (x75_3 : Int) := dt
                  have q453 : x75_3 < (l1.length : Int) := dt
                  obtain ⟨ad453, e453, hx453_0⟩ := Kd.at_int HR1.out x75_3 p453 q453
                  cases e453
                  replace hx453_0 := skc HB.out hx453_0
                  replace p453 := eq_true p453
                  replace q453 := eq_true q453
                  have p454 : 0 ≤ ((rd l1 x75_3) : Int) := dt
                  have q454 : (rd l1 x75_3) < (t440.length : Int) := dt
                  obtain ⟨ad454, A454_8, c454_8, e454, hx454_0, hx454_1, hx454_2, hx454_3, hx454_4, hx454_5, hx454_6, hx454_7, hx454_8, hx454_9, hx454_10, hl454_8, hi454_8⟩ := at_T38 (Kd.S_reads' HO_6.out).2.2 (rd l1 x75_3) p454 q454
                  cases e454
                  obtain ⟨ce454, hce454, hMe454, hcc454⟩ := Kd.S_get HO_6.out z38 (rd l1 x75_3) p454 (by first | exact q454 | exact dt | (have e_ := (Kd.S_reads' HO_6.out).1; omega))
                  obtain ⟨ve454_8, rfl, ge454_8⟩ := k38_openM hMe454
                  have hv454_8 := hcc454 8 _ rfl
                  rw [add_field _ _ 8 (by omega)] at hv454_8
                  replace hv454_8 := Option.some.inj (hv454_8.symm.trans hx454_8)
                  rw [hv454_8] at ge454_8
                  have HL454_8 := asd (show Kd.R k70 70 _ _ _ _ ((J38 t440 (rd l1 x75_3)).f2.f3) from ge454_8)
                  clear hv454_8 ge454_8
                  clear hcc454 hce454
                  have HR454_8 := asd hi454_8
                  have HC454_8 := asd hl454_8
                  clear hi454_8 hl454_8
                  replace p454 := eq_true p454
                  replace q454 := eq_true q454
                  have p457 : 0 ≤ ((rd l1 x75_3) : Int) := dt
                  have q457 : (rd l1 x75_3) < (t440.length : Int) := dt
                  obtain ⟨ad457, A457_8, c457_8, e457, hx457_0, hx457_1, hx457_2, hx457_3, hx457_4, hx457_5, hx457_6, hx457_7, hx457_8, hx457_9, hx457_10, hl457_8, hi457_8⟩ := at_T38 (Kd.S_reads' HO_6.out).2.2 (rd l1 x75_3) p457 q457
                  obtain rfl : ad454 = ad457 := (by injection e457)
                  obtain ⟨ce457, hce457, hMe457, hcc457⟩ := Kd.S_get HO_6.out z38 (rd l1 x75_3) p457 (by first | exact q457 | exact dt | (have e_ := (Kd.S_reads' HO_6.out).1; omega))
                  obtain ⟨ve457_8, rfl, ge457_8⟩ := k38_openM hMe457
                  have hv457_8 := hcc457 8 _ rfl
                  rw [add_field _ _ 8 (by omega)] at hv457_8
                  replace hv457_8 := Option.some.inj (hv457_8.symm.trans hx457_8)
                  rw [hv457_8] at ge457_8
                  have HL457_8 := asd (show Kd.R k70 70 _ _ _ _ ((J38 t440 (rd l1 x75_3)).f2.f3) from ge457_8)
                  clear hv457_8 ge457_8
                  clear hcc457 hce457
                  have HR457_8 := asd hi457_8
                  have HC457_8 := asd hl457_8
                  clear hi457_8 hl457_8
                  replace p457 := eq_true p457
                  replace q457 := eq_true q457
                  have ea_ := Option.some.inj (hx454_8.symm.trans hx457_8)
                  injection ea_ with ea_ en_ ec_
                  subst ea_
                  subst ec_
                  clear en_
                  go_wp2
                  go_roundg k3
                  case measure => have := HK1.out; have := HK2.out; have := HK3.out; omega
                  case rel => exact ⟨(ji46), (wrap64 (x75_3 + 1)), (by first | rfl | (simp; done) | (simp only [← hji46] <;> (first | rfl | simp)) | (simp [*]; done)), rs, H', ⟨by have := HK1.out; have := HK2.out; have := HK3.out; omega⟩, ⟨by (with_reducible repeat (first | apply Kd.S_alloc | apply Kd.S_drewN | apply Kd.S_drew)); exact HO_6.out⟩, ⟨skB HB.out⟩⟩
                ·
                 rw [if_neg c42] at H
                 exact absurd H (by simp)
               ·
                rw [if_neg c41] at H
                exact absurd H (by simp)
              ·
               rw [if_neg c40] at H
               exact absurd H (by simp)
             ·
              rw [if_neg c39] at H
              exact absurd H (by simp)
            ·
             rw [if_neg c38] at H
             have c38b0 : decide (x75_3 < (l1.length : Int)) = false := decide_eq_false c38
             clear c38
             simp only [Option.some.injEq, Prod.mk.injEq] at H
             obtain ⟨rfl, rfl⟩ := H
             go_wp2
             go_ret2
             exact ⟨re, skB HB.out⟩
   ·
    rw [if_neg c6] at H
    exact absurd H (by simp)
  ·
   rw [if_neg c5] at H
   exact absurd H (by simp)
 ·
  rw [if_neg c4] at H
  have c4b0 : (t441 == 0) = false := beq_eq_false_iff_ne.mpr c4
  have c4b1 : (t441 != 0) = true := bne_iff_ne.mpr c4
  simp only [Option.some.injEq, Prod.mk.injEq] at H
  obtain ⟨rfl, rfl⟩ := H
  go_enter Try.func17, Try.ntmps17
  go_wp2_with (first | ((with_reducible refine gate_callee (f := 13) rfl ?_); refine goesL_ (some 18) rfl rfl Try.func13 (by kernel_rfl) rfl #[.slice A0 l0.length c0] rfl ags ?_; (with_reducible refine (event_Calls.calls _ _ l0 t440 t441 _ ?side1 ?side2 A3.out).mono ?_); (case side1 => exact skC HR0.out); (case side2 => exact HC0.out); rintro e w47 ⟨v442, rfl, ho0, hb⟩; refine ⟨_, rfl, ?_⟩; have n0_ := asd (Kd.S_lower ho0 (below_size (skB HB.out))); have n1_ := asd (below_step (skB HB.out) hb); clear HB; have HO443 := n0_; have HB := n1_; clear n0_ n1_; (try clear hb); (try clear hb2); (try clear hk); (try clear hi); (try clear ho0)))
  go_ret2
  exact ⟨re, skB HB.out⟩
end Go.Proofs.Ytagdkmcgepidoaa.P
