/- P.eventRows_holds, part 22 of 25: the contracts of the Go functions that the law calls, its own walk, and its plain law, for every input that the statement speaks of. -/
import Derived.Test.YtagdkmcgepidoaaMRw2
import Derived.Test.YtagdkmcgepidoaaMRw17
import Derived.Test.YtagdkmcgepidoaaMRw4
import Derived.Test.YtagdkmcgepidoaaMRw7
import Derived.Test.YtagdkmcgepidoaaMRw8
import Derived.Test.YtagdkmcgepidoaaMRw9
import Derived.Test.YtagdkmcgepidoaaMRw11
import Derived.Test.YtagdkmcgepidoaaMRw20
import Derived.Test.YtagdkmcgepidoaaMRw1
import Derived.Test.YtagdkmcgepidoaaMRw16
set_option linter.unusedVariables false
set_option linter.unusedSimpArgs false
/- F48 -/
namespace Go.Proofs.Ytagdkmcgepidoaa.P
open Go.RowKit Go.Proofs.YtagdkmcgepidoaaW.PrintWords Go.Proofs.YtagdkmcgepidoaaW.PrintLast Go.Proofs.YtagdkmcgepidoaaW.PrintMore
attribute [local go_sem] max2_int min2_int max_two min_two max_three min_three max_four min_four   -- for this text's walks alone
set_option linter.unusedVariables false
set_option linter.unusedSimpArgs false
end Go.Proofs.Ytagdkmcgepidoaa.P
/- F64 -/
namespace Go.Proofs.Ytagdkmcgepidoaa.P
open Go.RowKit Go.Proofs.YtagdkmcgepidoaaW.PrintWords Go.Proofs.YtagdkmcgepidoaaW.PrintLast Go.Proofs.YtagdkmcgepidoaaW.PrintMore
attribute [local go_sem] max2_int min2_int max_two min_two max_three min_three max_four min_four   -- for this text's walks alone
set_option linter.unusedVariables false
set_option linter.unusedSimpArgs false
mutual
def larchlaw05_EventRows.l0 : Nat → List (S67) → List (S38) → List Int → Int → Option (Bool)
 | 0, _, _, _, _ => none
 | k + 1, x0, x3, x5, x6 => if x6 < (x3.length : Int) then (if x5.length < 17592186044416 then (larchlaw05_EventRows.l0 k x0 x3 (x5 ++ [x6]) (wrap64 (x6 + 1))) else (none)) else ((event_Fits.f k x0 x5).bind fun bt541 => (if bt541.2 = 0 then (larchlaw05_EventRows.j1 k x0 x3 x5 (!bt541.1)) else (larchlaw05_EventRows.j1 k x0 x3 x5 true)))
def larchlaw05_EventRows.j1 : Nat → List (S67) → List (S38) → List Int → Bool → Option (Bool)
 | 0, _, _, _, _ => none
 | k + 1, x0, x3, x5, x60 => if x60 = true then (none) else (larchlaw05_EventRows.l1 k x0 x3 x5 0)
def larchlaw05_EventRows.l1 : Nat → List (S67) → List (S38) → List Int → Int → Option (Bool)
 | 0, _, _, _, _ => none
 | k + 1, x0, x3, x5, x8 => if (wrap64 (x8 + 1)) < (x3.length : Int) then ((some (([] : List Int) : List Int)).bind fun y543 => (if y543.length + x5.length < 17592186044416 then ((some (y543 ++ x5 : List Int)).bind fun y546 => (if 0 ≤ x8 then (if x8 < (y546.length : Int) then (if 0 ≤ (wrap64 (x8 + 1)) then (if (wrap64 (x8 + 1)) < (y546.length : Int) then ((event_Ahead.f x0 x8 (wrap64 (x8 + 1))).bind fun bt551 => ((event_Fits.f k x0 ((y546.set (x8 : Int).toNat (wrap64 (x8 + 1))).set ((wrap64 (x8 + 1)) : Int).toNat x8)).bind fun bt553 => ((some (([] : List Int) : List Int)).bind fun y555 => (if x8 ≤ (x5.length : Int) then ((some (x5.take (x8 : Int).toNat : List Int)).bind fun y558 => (if y555.length + y558.length < 17592186044416 then ((some (y555 ++ y558 : List Int)).bind fun y562 => (if (wrap64 (x8 + 1)) ≤ (x5.length : Int) then ((some (x5.drop ((wrap64 (x8 + 1)) : Int).toNat : List Int)).bind fun y565 => (if y562.length + y565.length < 17592186044416 then ((event_Fits.f k x0 (y562 ++ y565)).bind fun bt572 => (if bt551.2 = 0 then (if bt553.2 = 0 then (if bt572.2 = 0 then (if (bt553.1 == bt551.1) = true then (none) else (if x8 < (x3.length : Int) then (if (bt572.1 != (((J38 x3 x8).f4) == (-1))) = true then (none) else (larchlaw05_EventRows.l1 k x0 x3 x5 (wrap64 (x8 + 1)))) else (none))) else (none)) else (none)) else (none))) else (none))) else (none))) else (none))) else (none))))) else (none)) else (none)) else (none)) else (none))) else (none))) else ((event_Done.f x0).bind fun bt575 => ((event_Orders.f x0).bind fun bt579 => ((event_Orders.f bt575.1).bind fun bt581 => ((event_Row.f k bt575.1).bind fun bt583 => (if bt575.2 = 0 then (if bt579.2 = 0 then (if bt581.2 = 0 then (if bt583.2 = 0 then (if bt579.1 = bt581.1 then (if bt579.1 ≥ 1 then (some ((bt579.1 == 1) == bt583.1)) else (none)) else (none)) else (none)) else (none)) else (none)) else (none))))))
end
def larchlaw05_EventRows.f (k : Nat) (l0 : List (S67)) : Option (Bool) := (larchlaw05_known.f).bind fun t529 => (if t529 = true then (if 0 ≤ (mn (l0.length : Int) 24) then (if (mn (l0.length : Int) 24) ≤ (l0.length : Int) then ((some (l0.take ((mn (l0.length : Int) 24) : Int).toNat : List (S67))).bind fun y530 => ((event_Calls.f y530).bind fun bt534 => (if bt534.2 = 0 then (larchlaw05_EventRows.l0 k y530 bt534.1 ([] : List Int) 0) else (some true)))) else (none)) else (none)) else (none))
def larchlaw05_EventRows.T22 : Bool × List (List Nat × List Nat) := (true, [([], []), ([], []), ([], []), ([1, 2], [1, 2]), ([0, 3], [0, 3]), ([], []), ([], []), ([6], [6]), ([5, 7], [5, 7]), ([4, 8, 4], [4, 8]), ([9, 9, 0, 1, 2, 3, 4, 5, 6, 7, 8, 9], [9])])
def larchlaw05_EventRows.B22 : List Nat := [0, 0, 0, 6, 15, 0, 0, 64, 224, 511, 1023]
theorem larchlaw05_EventRows.tab22 : rtab .any (opsOf Try.f9 22) = larchlaw05_EventRows.T22 := by kernel_rfl
theorem larchlaw05_EventRows.bits22 : waitsOk larchlaw05_EventRows.T22.2 larchlaw05_EventRows.B22 = true := by kernel_rfl
set_option maxHeartbeats 8000000 in
set_option maxRecDepth 100000 in
theorem larchlaw05_EventRows.calls (k : Nat) (A0 : Option Addr) (c0 : Nat) (l0 : List (S67)) (r : Bool) (w : World) (hr0 : Kd.C k67 w A0 l0.length l0) (hc0 : l0.length ≤ c0) (h : larchlaw05_EventRows.f k l0 = some r) :
  Calls Try.prog 9 #[.slice A0 l0.length c0] w fun e w' => e = .returned (.bool r) ∧ Below w.heap.size w w' := by
 have HR0 := asd hr0
 have HC0 := asd hc0
 clear hr0 hc0
 have HB := asd (Below.refl w.heap.size w)
 have H : ((larchlaw05_known.f).bind fun t529 => (if t529 = true then (if 0 ≤ (mn (l0.length : Int) 24) then (if (mn (l0.length : Int) 24) ≤ (l0.length : Int) then ((some (l0.take ((mn (l0.length : Int) 24) : Int).toNat : List (S67))).bind fun y530 => ((event_Calls.f y530).bind fun bt534 => (if bt534.2 = 0 then (larchlaw05_EventRows.l0 k y530 bt534.1 ([] : List Int) 0) else (some true)))) else (none)) else (none)) else (none))) = some r := h
 clear h
 replace H := Option.bind_eq_some_iff.mp H
 obtain ⟨t529, A20, H⟩ := H
 replace H : (if t529 = true then (if 0 ≤ (mn (l0.length : Int) 24) then (if (mn (l0.length : Int) 24) ≤ (l0.length : Int) then ((some (l0.take ((mn (l0.length : Int) 24) : Int).toNat : List (S67))).bind fun y530 => ((event_Calls.f y530).bind fun bt534 => (if bt534.2 = 0 then (larchlaw05_EventRows.l0 k y530 bt534.1 ([] : List Int) 0) else (some true)))) else (none)) else (none)) else (none)) = some r := H
 have A2 := asd A20
 clear A20
 by_cases c3 : t529 = true
 ·
  subst c3
  have H1 : (if 0 ≤ (mn (l0.length : Int) 24) then (if (mn (l0.length : Int) 24) ≤ (l0.length : Int) then ((some (l0.take ((mn (l0.length : Int) 24) : Int).toNat : List (S67))).bind fun y530 => ((event_Calls.f y530).bind fun bt534 => (if bt534.2 = 0 then (larchlaw05_EventRows.l0 k y530 bt534.1 ([] : List Int) 0) else (some true)))) else (none)) else (none)) = some r := by rw [if_pos rfl] at H; exact H
  clear H
  have H := H1
  clear H1
  obtain ⟨ji4, hji4⟩ : ∃ j_ : Int, (mn (l0.length : Int) 24) = j_ := ⟨_, rfl⟩
  replace H : (if 0 ≤ (ji4) then (if (ji4) ≤ (l0.length : Int) then ((some (l0.take ((ji4) : Int).toNat : List (S67))).bind fun y530 => ((event_Calls.f y530).bind fun bt534 => (if bt534.2 = 0 then (larchlaw05_EventRows.l0 k y530 bt534.1 ([] : List Int) 0) else (some true)))) else (none)) else (none)) = some r := by first | (rw [hji4] at H; exact H) | (simp only [hji4] at H ⊢; exact H)
  (try rw [hji4] at A2)
  (try (have hji4h : ji4 ≤ 24 := by (rw [← hji4]; unfold mn; (repeat' split) <;> omega)))
  (try (have hji4g : ji4 ≤ 64 := by omega))
  (try (have hji4l : 0 ≤ ji4 := by (rw [← hji4]; unfold mn; (repeat' split) <;> omega)))
  (try (have hji4m : 0 ≤ ji4 := by omega))
  have hji4_ : (if 24 < (l0.length : Int) then 24 else (l0.length : Int)) = ji4 := hji4
  by_cases c5 : 0 ≤ (ji4)
  ·
   rw [if_pos c5] at H
   have c5b0 := eq_true c5
   have c5b1 : decide (0 ≤ (ji4)) = true := decide_eq_true c5
   clear c5
   by_cases c6 : (ji4) ≤ (l0.length : Int)
   ·
    rw [if_pos c6] at H
    have c6b0 := eq_true c6
    have c6b1 : decide ((ji4) ≤ (l0.length : Int)) = true := decide_eq_true c6
    clear c6
    obtain ⟨y530, hy530⟩ : ∃ y_ : List (S67), y_ = (l0.take ((ji4) : Int).toNat) := ⟨_, rfl⟩
    replace H : ((event_Calls.f y530).bind fun bt534 => (if bt534.2 = 0 then (larchlaw05_EventRows.l0 k y530 bt534.1 ([] : List Int) 0) else (some true))) = some r := by first | (rw [hy530]; with_reducible exact H) | (have H2_ := (Option.bind_some _ _).symm.trans H; rw [hy530]; with_reducible exact H2_) | (have H2_ := (Option.bind_some _ _).symm.trans H; with_reducible exact H2_) | with_reducible exact H | (rw [hy530]; exact H) | exact H
    have Ny530 := asd hy530
    clear hy530
    replace H := Option.bind_eq_some_iff.mp H
    obtain ⟨⟨t534, t535⟩, A70, H⟩ := H
    replace H : (if t535 = 0 then (larchlaw05_EventRows.l0 k y530 t534 ([] : List Int) 0) else (some true)) = some r := H
    have A7 := asd A70
    clear A70
    by_cases c8 : t535 = 0
    ·
     rw [if_pos c8] at H
     have c8b0 : (t535 == 0) = true := beq_iff_eq.mpr c8
     have c8b1 : (t535 != 0) = false := bne_eq_false_iff_eq.mpr c8
     clear c8
     have H' := asd H
     clear H
     go_enter Try.func9, Try.ntmps9
     go_wp2_with (first | ((with_reducible refine gate_callee (f := 12) rfl ?_); refine goesL_ (some 25) rfl rfl Try.func12 (by kernel_rfl) rfl #[] rfl ags ?_; (with_reducible refine (larchlaw05_known.calls  true _ A2.out).mono ?_); rintro e w9 ⟨rfl, hb⟩; refine ⟨_, rfl, ?_⟩; have n0_ := asd (below_step (skB HB.out) hb); clear HB; have HB := n0_; clear n0_; (try clear hb); (try clear hb2); (try clear hk); (try clear hi); have q10 : ((ji4) : Int) ≤ ((l0.length : Int) : Int) := dt; obtain ⟨i010, hi010, _, hsz10, _⟩ := info_parts info67; have hroom10 : l0.length ≤ c0 := HC0.out; have hC10 : Kd.C k67 _ A0 l0.length l0 := HR0.out; have hcut10 := cut_to (P := Try.prog) 22 67 .i64 Try.underlying22 hi010 A0 l0.length c0 (ji4) dt q10 hroom10; have hr10 := Kd.C_take (m := ((ji4) : Int).toNat) hC10 (by omega); have hy10 : y530.length = ((ji4) : Int).toNat := (by rw [Ny530.out, List.length_take]; omega); rw [← Ny530.out] at hr10; rw [← hy10] at hcut10; have HR533 := asd hr10; have HC533 := asd (show y530.length ≤ c0 from by omega); clear hr10 hC10 hroom10 hi010 hsz10; have KY10 := asd hy10; clear hy10; replace q10 := eq_true q10) | ((with_reducible refine gate_callee (f := 13) rfl ?_); refine goesL_ (some 34) rfl rfl Try.func13 (by kernel_rfl) rfl #[.slice A0 y530.length c0] rfl ags ?_; (with_reducible refine (event_Calls.calls _ _ y530 t534 t535 _ ?side1 ?side2 A7.out).mono ?_); (case side1 => exact skC (Kd.C_below HR533.out HB.out)); (case side2 => exact HC533.out); rintro e w11 ⟨v536, rfl, ho0, hb⟩; refine ⟨_, rfl, ?_⟩; have n0_ := asd (Kd.S_lower ho0 (below_size (skB HB.out))); have n1_ := asd (below_step (skB HB.out) hb); clear HB; have HO537 := n0_; have HB := n1_; clear n0_ n1_; (try clear hb); (try clear hb2); (try clear hk); (try clear hi); (try clear ho0)))
     go_loopg [5, 6] k (fun kq v5 v6 w' => ∃ (x5_1 : List Int) (x6_1 : Int), v6 = .int .i64 x6_1 ∧ Aside0 (larchlaw05_EventRows.l0 kq y530 t534 x5_1 x6_1 = some r) ∧ Aside0 (kq ≤ k) ∧ Aside0 (Kd.S k38 38 w' w.heap.size (fun _ => True) v536 t534) ∧ Aside0 (Kd.R (Kd.int .i64) 3 w' w.heap.size (fun _ => True) v5 x5_1) ∧ Aside0 (Below w.heap.size w w'))
     case atStart => exact ⟨(([] : List Int)), (0), rs, H', ⟨Nat.le_refl _⟩, ⟨by (with_reducible repeat (first | apply Kd.S_alloc | apply Kd.S_drewN | apply Kd.S_drew)); exact HO537.out⟩, ⟨by first | exact Kd.R_nil _ _ _ _ _ | exact Kd.N_nil _ _ _ _ _ | exact Kd.V_nil _ _ _ _ _ | exact Kd.Q_nil _ _ _ _ _ | exact Kd.S_nil _ _ _ _ _⟩, ⟨skB HB.out⟩⟩
     case round =>
      clear H'
      try clear c1
      try clear q1
      try clear p2
      try clear c3
      try clear c5
      try clear c5b0
      try clear c5b1
      try clear c6
      try clear c6b0
      try clear c6b1
      try clear c8
      try clear c8b0
      try clear c8b1
      try clear c9
      try clear q10
      try clear q10
      obtain ⟨x5_1, x6_1, rfl, HA, HK1, HO_3, HO_5, HB⟩ := hrel
      cases gk with
      | zero => exact absurd HA.out (by simp [larchlaw05_EventRows.l0])
      | succ k1 =>
       have H := HA.out
       clear HA
       simp only [larchlaw05_EventRows.l0] at H
       by_cases c12 : x6_1 < (t534.length : Int)
       ·
        rw [if_pos c12] at H
        have c12b0 : decide (x6_1 < (t534.length : Int)) = true := decide_eq_true c12
        clear c12
        by_cases c13 : x5_1.length < 17592186044416
        ·
         rw [if_pos c13] at H
         have LMc13 := asd c13
         clear c13
         obtain ⟨y538, hy538⟩ : ∃ y_ : List Int, y_ = (x5_1 ++ [x6_1]) := ⟨_, rfl⟩
         replace H : (larchlaw05_EventRows.l0 k1 y530 t534 y538 (wrap64 (x6_1 + 1))) = some r := by first | (rw [hy538]; with_reducible exact H) | (have H2_ := (Option.bind_some _ _).symm.trans H; rw [hy538]; with_reducible exact H2_) | (have H2_ := (Option.bind_some _ _).symm.trans H; with_reducible exact H2_) | with_reducible exact H | (rw [hy538]; exact H) | exact H
         have Ny538 := asd hy538
         clear hy538
         have H' := asd H
         clear H
         obtain ⟨Ao14, co14, eo14⟩ := Kd.S_slice HO_3.out
         subst eo14
         go_wp2_with (first | ((with_reducible refine gate_builtin (b := .append) (xs := #[.tmp 45, .tmp 47]) rfl ?_); at_builtin; refine Kd.R_append (Kd.int .i64) (w0 := w) w.heap.size rfl (.tmp 45) (.tmp 47) 41 3 (.int .i64 0) 8 rfl Try.underlying41 info3 rfl (by decide) (by omega) u5 x5_1 x6_1 [.int .i64 x6_1] (fun _ => True) (fun _ => False) rfl rfl ?aP (fun _ hk => hk.elim) ?aF ?aO ?aB ?aS ?aL ?_; (case aP => exact rfl); (case aB => exact (skB HB.out)); (case aF => exact (fun _ _ => trivial)); (case aO => exact (skR HO_5.out)); (case aS => exact (below_size (skB HB.out))); (case aL => have := LMc13.out; omega); intro v539 w15 ho hb hg hat; rw [← Ny538.out] at ho; have n0_ := asd (Kd.S_over' (by (with_reducible repeat (first | apply Kd.S_alloc | apply Kd.S_drewN | apply Kd.S_drew)); exact HO_3.out) (Kd.R_typed (skR HO_5.out)) (by decide) hg); have n1_ := asd (hb); have n2_ := asd (ho); clear HO_3; clear HB; clear HO_5; have HO_3 := n0_; have HB := n1_; have HO540 := n2_; clear n0_ n1_ n2_; clear ho hb hg hat))
         go_roundg k1
         case measure => have := HK1.out; omega
         case rel => exact ⟨(y538), (wrap64 (x6_1 + 1)), rs, H', ⟨by have := HK1.out; omega⟩, ⟨by (with_reducible repeat (first | apply Kd.S_alloc | apply Kd.S_drewN | apply Kd.S_drew)); exact HO_3.out⟩, ⟨skR HO540.out⟩, ⟨skB HB.out⟩⟩
        ·
         rw [if_neg c13] at H
         exact absurd H (by simp)
       ·
        rw [if_neg c12] at H
        have c12b0 : decide (x6_1 < (t534.length : Int)) = false := decide_eq_false c12
        clear c12
        replace H := Option.bind_eq_some_iff.mp H
        obtain ⟨⟨t541, t542⟩, A160, H⟩ := H
        replace H : (if t542 = 0 then (larchlaw05_EventRows.j1 k1 y530 t534 x5_1 (!t541)) else (larchlaw05_EventRows.j1 k1 y530 t534 x5_1 true)) = some r := H
        have A16 := asd A160
        clear A160
        have HC17 := asd H
        clear H
        obtain ⟨Ao18, co18, eo18⟩ := Kd.S_slice HO_3.out
        subst eo18
        obtain ⟨Ao19, co19, eo19⟩ := Kd.R_slice HO_5.out
        subst eo19
        go_upto_region 13 with (first | ((with_reducible refine gate_callee (f := 17) rfl ?_); refine goesL_ (some 52) rfl rfl Try.func17 (by kernel_rfl) rfl #[.slice A0 y530.length c0, .slice Ao19 x5_1.length co19] rfl ags ?_; (with_reducible refine (event_Fits.calls k1 _ _ y530 _ _ x5_1 t541 t542 _ ?side1 ?side2 ?side3 ?side4 A16.out).mono ?_); (case side1 => exact skC (Kd.C_below HR533.out HB.out)); (case side2 => exact HC533.out); (case side3 => exact skC (Kd.R_reads' HO_5.out).2.2); (case side4 => exact (Kd.R_reads' HO_5.out).2.1); rintro e w20 ⟨rfl, hb⟩; refine ⟨_, rfl, ?_⟩; have n0_ := asd (Kd.S_below (by (with_reducible repeat (first | apply Kd.S_alloc | apply Kd.S_drewN | apply Kd.S_drew)); exact HO_3.out) hb); have n1_ := asd (Kd.R_below (skR HO_5.out) hb); have n2_ := asd (below_step (skB HB.out) hb); clear HO_3; clear HO_5; clear HB; have HO_3 := n0_; have HO_5 := n1_; have HB := n2_; clear n0_ n1_ n2_; (try clear hb); (try clear hb2); (try clear hk); (try clear hi)))
        (try simp only [Act.put, List.setIfInBounds_toArray, List.set_cons_zero, List.set_cons_succ])
        go_cut [60] (fun v60 wc => ∃ (kq : Nat) (x60_16 : Bool), v60 = .bool x60_16 ∧ Aside0 (larchlaw05_EventRows.j1 kq y530 t534 x5_1 x60_16 = some r) ∧ Aside0 (kq ≤ k1) ∧ Aside0 (Kd.S k38 38 wc w.heap.size (fun _ => True) (.slice Ao18 t534.length co18) t534) ∧ Aside0 (Kd.R (Kd.int .i64) 3 wc w.heap.size (fun _ => True) (.slice Ao19 x5_1.length co19) x5_1) ∧ Aside0 (Below w.heap.size w wc))
        case first =>
         have H := HC17.out
         clear HC17
         by_cases c21 : t542 = 0
         ·
          rw [if_pos c21] at H
          have c21b0 : (t542 == 0) = true := beq_iff_eq.mpr c21
          have c21b1 : (t542 != 0) = false := bne_eq_false_iff_eq.mpr c21
          clear c21
          (first | rw [c21b0] | (simp only [i64_w, i32_w]; rw [c21b0]) | skip)
          have H' := asd H
          clear H
          go_wp2
          go_meet
          case rel => exact ⟨_, (!t541), rs, H', ⟨by have := HK1.out; first | omega | exact Nat.le_refl _⟩, ⟨by (with_reducible repeat (first | apply Kd.S_alloc | apply Kd.S_drewN | apply Kd.S_drew)); exact HO_3.out⟩, ⟨skR HO_5.out⟩, ⟨skB HB.out⟩⟩
         ·
          rw [if_neg c21] at H
          have c21b0 : (t542 == 0) = false := beq_eq_false_iff_ne.mpr c21
          have c21b1 : (t542 != 0) = true := bne_iff_ne.mpr c21
          (first | rw [c21b0] | (simp only [i64_w, i32_w]; rw [c21b0]) | skip)
          have H' := asd H
          clear H
          go_wp2
          go_meet
          case rel => exact ⟨_, (true), rs, H', ⟨by have := HK1.out; first | omega | exact Nat.le_refl _⟩, ⟨by (with_reducible repeat (first | apply Kd.S_alloc | apply Kd.S_drewN | apply Kd.S_drew)); exact HO_3.out⟩, ⟨skR HO_5.out⟩, ⟨skB HB.out⟩⟩
        case rest =>
         clear HC17
         try clear c1
         try clear q1
         try clear c2
         try clear p2
         try clear c3
         try clear c5
         try clear c5b0
         try clear c5b1
         try clear c6
         try clear c6b0
         try clear c6b1
         try clear p6
         try clear c8
         try clear c8b0
         try clear c8b1
         try clear c9
         try clear q10
         try clear c12
         try clear c12b0
         try clear c13
         try clear c17
         try clear c21
         try clear c21b0
         try clear c21b1
         try clear p2
         try clear q1
         try clear q10
         obtain ⟨kq, x60_16, rfl, HA, HJ16, HO_3, HO_5, HB⟩ := hcut
         cases kq with
         | zero => exact absurd HA.out (by simp [larchlaw05_EventRows.j1])
         | succ kj16 =>
          have H := HA.out
          clear HA
          simp only [larchlaw05_EventRows.j1] at H
          by_cases c22 : x60_16 = true
          ·
           subst c22
           have H1 : (none) = some r := by rw [if_pos rfl] at H; exact H
           clear H
           have H := H1
           clear H1
           exact absurd H (by simp)
          ·
           replace c22 := Bool.eq_false_iff.mpr c22
           subst c22
           have H1 : (larchlaw05_EventRows.l1 kj16 y530 t534 x5_1 0) = some r := by rw [if_neg (show ¬ (false = true) by decide)] at H; exact H
           clear H
           have H := H1
           clear H1
           have H' := asd H
           clear H
           go_wp2
           go_loopg [8] kj16 (fun kq v8 w' => ∃ (x5_3 : List Int) (x8_3 : Int), v8 = .int .i64 x8_3 ∧ Aside0 (larchlaw05_EventRows.l1 kq y530 t534 x5_3 x8_3 = some r) ∧ Aside0 (kq ≤ kj16) ∧ Aside0 (Kd.S k38 38 w' w.heap.size (fun _ => True) (.slice Ao18 t534.length co18) t534) ∧ Aside0 (Kd.R (Kd.int .i64) 3 w' w.heap.size (fun _ => True) (.slice Ao19 x5_1.length co19) x5_3) ∧ Aside0 (Below w.heap.size w w'))
           case atStart => exact ⟨(x5_1), (0), rs, H', ⟨Nat.le_refl _⟩, ⟨by (with_reducible repeat (first | apply Kd.S_alloc | apply Kd.S_drewN | apply Kd.S_drew)); exact HO_3.out⟩, ⟨skR HO_5.out⟩, ⟨skB HB.out⟩⟩
           case round =>
            clear H'
            try clear c1
            try clear q1
            try clear c2
            try clear p2
            try clear c3
            try clear c5
            try clear c5b0
            try clear c5b1
            try clear c6
            try clear c6b0
            try clear c6b1
            try clear p6
            try clear c8
            try clear c8b0
            try clear c8b1
            try clear c9
            try clear q10
            try clear c12
            try clear c12b0
            try clear c13
            try clear c17
            try clear c21
            try clear c21b0
            try clear c21b1
            try clear c22
            try clear p2
            try clear p6
            try clear q1
            try clear q10
            obtain ⟨x5_3, x8_3, rfl, HA, HK3, HO_3, HO_5, HB⟩ := hrel
            have hl5_3 := (Kd.R_reads' HO_5.out).1
            rw [hl5_3] at HO_5
            (try simp only [hl5_3])
            (try simp only [hl5_3] at HO_3)
            cases gk with
            | zero => exact absurd HA.out (by simp [larchlaw05_EventRows.l1])
            | succ k3 =>
             have H := HA.out
             clear HA
             simp only [larchlaw05_EventRows.l1] at H
             by_cases c23 : (wrap64 (x8_3 + 1)) < (t534.length : Int)
             ·
              rw [if_pos c23] at H
              have c23b0 : decide ((wrap64 (x8_3 + 1)) < (t534.length : Int)) = true := decide_eq_true c23
              clear c23
              obtain ⟨y543, hy543⟩ : ∃ y_ : List Int, y_ = (([] : List Int)) := ⟨_, rfl⟩
              replace H : (if y543.length + x5_3.length < 17592186044416 then ((some (y543 ++ x5_3 : List Int)).bind fun y546 => (if 0 ≤ x8_3 then (if x8_3 < (y546.length : Int) then (if 0 ≤ (wrap64 (x8_3 + 1)) then (if (wrap64 (x8_3 + 1)) < (y546.length : Int) then ((event_Ahead.f y530 x8_3 (wrap64 (x8_3 + 1))).bind fun bt551 => ((event_Fits.f k3 y530 ((y546.set (x8_3 : Int).toNat (wrap64 (x8_3 + 1))).set ((wrap64 (x8_3 + 1)) : Int).toNat x8_3)).bind fun bt553 => ((some (([] : List Int) : List Int)).bind fun y555 => (if x8_3 ≤ (x5_3.length : Int) then ((some (x5_3.take (x8_3 : Int).toNat : List Int)).bind fun y558 => (if y555.length + y558.length < 17592186044416 then ((some (y555 ++ y558 : List Int)).bind fun y562 => (if (wrap64 (x8_3 + 1)) ≤ (x5_3.length : Int) then ((some (x5_3.drop ((wrap64 (x8_3 + 1)) : Int).toNat : List Int)).bind fun y565 => (if y562.length + y565.length < 17592186044416 then ((event_Fits.f k3 y530 (y562 ++ y565)).bind fun bt572 => (if bt551.2 = 0 then (if bt553.2 = 0 then (if bt572.2 = 0 then (if (bt553.1 == bt551.1) = true then (none) else (if x8_3 < (t534.length : Int) then (if (bt572.1 != (((J38 t534 x8_3).f4) == (-1))) = true then (none) else (larchlaw05_EventRows.l1 k3 y530 t534 x5_3 (wrap64 (x8_3 + 1)))) else (none))) else (none)) else (none)) else (none))) else (none))) else (none))) else (none))) else (none))))) else (none)) else (none)) else (none)) else (none))) else (none)) = some r := by first | (rw [hy543]; with_reducible exact H) | (have H2_ := (Option.bind_some _ _).symm.trans H; rw [hy543]; with_reducible exact H2_) | (have H2_ := (Option.bind_some _ _).symm.trans H; with_reducible exact H2_) | with_reducible exact H | (rw [hy543]; exact H) | exact H
              have Ny543 := asd hy543
              clear hy543
              by_cases c24 : y543.length + x5_3.length < 17592186044416
              ·
               rw [if_pos c24] at H
               have LMc24 := asd c24
               clear c24
               obtain ⟨y546, hy546⟩ : ∃ y_ : List Int, y_ = (y543 ++ x5_3) := ⟨_, rfl⟩
               replace H : (if 0 ≤ x8_3 then (if x8_3 < (y546.length : Int) then (if 0 ≤ (wrap64 (x8_3 + 1)) then (if (wrap64 (x8_3 + 1)) < (y546.length : Int) then ((event_Ahead.f y530 x8_3 (wrap64 (x8_3 + 1))).bind fun bt551 => ((event_Fits.f k3 y530 ((y546.set (x8_3 : Int).toNat (wrap64 (x8_3 + 1))).set ((wrap64 (x8_3 + 1)) : Int).toNat x8_3)).bind fun bt553 => ((some (([] : List Int) : List Int)).bind fun y555 => (if x8_3 ≤ (x5_3.length : Int) then ((some (x5_3.take (x8_3 : Int).toNat : List Int)).bind fun y558 => (if y555.length + y558.length < 17592186044416 then ((some (y555 ++ y558 : List Int)).bind fun y562 => (if (wrap64 (x8_3 + 1)) ≤ (x5_3.length : Int) then ((some (x5_3.drop ((wrap64 (x8_3 + 1)) : Int).toNat : List Int)).bind fun y565 => (if y562.length + y565.length < 17592186044416 then ((event_Fits.f k3 y530 (y562 ++ y565)).bind fun bt572 => (if bt551.2 = 0 then (if bt553.2 = 0 then (if bt572.2 = 0 then (if (bt553.1 == bt551.1) = true then (none) else (if x8_3 < (t534.length : Int) then (if (bt572.1 != (((J38 t534 x8_3).f4) == (-1))) = true then (none) else (larchlaw05_EventRows.l1 k3 y530 t534 x5_3 (wrap64 (x8_3 + 1)))) else (none))) else (none)) else (none)) else (none))) else (none))) else (none))) else (none))) else (none))))) else (none)) else (none)) else (none)) else (none)) = some r := by first | (rw [hy546]; with_reducible exact H) | (have H2_ := (Option.bind_some _ _).symm.trans H; rw [hy546]; with_reducible exact H2_) | (have H2_ := (Option.bind_some _ _).symm.trans H; with_reducible exact H2_) | with_reducible exact H | (rw [hy546]; exact H) | exact H
               have Ny546 := asd hy546
               clear hy546
               by_cases c25 : 0 ≤ x8_3
               ·
                rw [if_pos c25] at H
                have c25b0 : decide (0 ≤ x8_3) = true := decide_eq_true c25
                clear c25
                by_cases c26 : x8_3 < (y546.length : Int)
                ·
                 rw [if_pos c26] at H
                 have c26b0 : decide (x8_3 < (y546.length : Int)) = true := decide_eq_true c26
                 clear c26
                 obtain ⟨y549, hy549⟩ : ∃ y_ : List Int, y_ = (y546.set (x8_3 : Int).toNat (wrap64 (x8_3 + 1))) := ⟨_, rfl⟩
                 replace H : (if 0 ≤ (wrap64 (x8_3 + 1)) then (if (wrap64 (x8_3 + 1)) < (y546.length : Int) then ((event_Ahead.f y530 x8_3 (wrap64 (x8_3 + 1))).bind fun bt551 => ((event_Fits.f k3 y530 (y549.set ((wrap64 (x8_3 + 1)) : Int).toNat x8_3)).bind fun bt553 => ((some (([] : List Int) : List Int)).bind fun y555 => (if x8_3 ≤ (x5_3.length : Int) then ((some (x5_3.take (x8_3 : Int).toNat : List Int)).bind fun y558 => (if y555.length + y558.length < 17592186044416 then ((some (y555 ++ y558 : List Int)).bind fun y562 => (if (wrap64 (x8_3 + 1)) ≤ (x5_3.length : Int) then ((some (x5_3.drop ((wrap64 (x8_3 + 1)) : Int).toNat : List Int)).bind fun y565 => (if y562.length + y565.length < 17592186044416 then ((event_Fits.f k3 y530 (y562 ++ y565)).bind fun bt572 => (if bt551.2 = 0 then (if bt553.2 = 0 then (if bt572.2 = 0 then (if (bt553.1 == bt551.1) = true then (none) else (if x8_3 < (t534.length : Int) then (if (bt572.1 != (((J38 t534 x8_3).f4) == (-1))) = true then (none) else (larchlaw05_EventRows.l1 k3 y530 t534 x5_3 (wrap64 (x8_3 + 1)))) else (none))) else (none)) else (none)) else (none))) else (none))) else (none))) else (none))) else (none))))) else (none)) else (none)) = some r := by first | (rw [hy549]; with_reducible exact H) | (have H2_ := (Option.bind_some _ _).symm.trans H; rw [hy549]; with_reducible exact H2_) | (have H2_ := (Option.bind_some _ _).symm.trans H; with_reducible exact H2_) | with_reducible exact H | (rw [hy549]; exact H) | exact H
                 have Ny549 := asd hy549
                 clear hy549
                 obtain ⟨ji28, hji28⟩ : ∃ j_ : Int, (wrap64 (x8_3 + 1)) = j_ := ⟨_, rfl⟩
                 replace H : (if 0 ≤ (ji28) then (if (ji28) < (y546.length : Int) then ((event_Ahead.f y530 x8_3 (ji28)).bind fun bt551 => ((event_Fits.f k3 y530 (y549.set ((ji28) : Int).toNat x8_3)).bind fun bt553 => ((some (([] : List Int) : List Int)).bind fun y555 => (if x8_3 ≤ (x5_3.length : Int) then ((some (x5_3.take (x8_3 : Int).toNat : List Int)).bind fun y558 => (if y555.length + y558.length < 17592186044416 then ((some (y555 ++ y558 : List Int)).bind fun y562 => (if (ji28) ≤ (x5_3.length : Int) then ((some (x5_3.drop ((ji28) : Int).toNat : List Int)).bind fun y565 => (if y562.length + y565.length < 17592186044416 then ((event_Fits.f k3 y530 (y562 ++ y565)).bind fun bt572 => (if bt551.2 = 0 then (if bt553.2 = 0 then (if bt572.2 = 0 then (if (bt553.1 == bt551.1) = true then (none) else (if x8_3 < (t534.length : Int) then (if (bt572.1 != (((J38 t534 x8_3).f4) == (-1))) = true then (none) else (larchlaw05_EventRows.l1 k3 y530 t534 x5_3 ji28)) else (none))) else (none)) else (none)) else (none))) else (none))) else (none))) else (none))) else (none))))) else (none)) else (none)) = some r := by first | (rw [hji28] at H; exact H) | (simp only [hji28] at H ⊢; exact H)
                 (try rw [hji28] at c23b0)
                 (try rw [hji28] at Ny549)
                 have hji28w : (IntKind.i64.wrap (x8_3 + 1)) = ji28 := (i64_w _).trans hji28
                 by_cases c29 : 0 ≤ (ji28)
                 ·
                  rw [if_pos c29] at H
                  have c29b0 : decide (0 ≤ (ji28)) = true := decide_eq_true c29
                  clear c29
                  by_cases c30 : (ji28) < (y546.length : Int)
                  ·
                   rw [if_pos c30] at H
                   have c30b0 : decide ((ji28) < (y546.length : Int)) = true := decide_eq_true c30
                   clear c30
                   obtain ⟨y550, hy550⟩ : ∃ y_ : List Int, y_ = (y549.set ((ji28) : Int).toNat x8_3) := ⟨_, rfl⟩
                   replace H : ((event_Ahead.f y530 x8_3 (ji28)).bind fun bt551 => ((event_Fits.f k3 y530 y550).bind fun bt553 => ((some (([] : List Int) : List Int)).bind fun y555 => (if x8_3 ≤ (x5_3.length : Int) then ((some (x5_3.take (x8_3 : Int).toNat : List Int)).bind fun y558 => (if y555.length + y558.length < 17592186044416 then ((some (y555 ++ y558 : List Int)).bind fun y562 => (if (ji28) ≤ (x5_3.length : Int) then ((some (x5_3.drop ((ji28) : Int).toNat : List Int)).bind fun y565 => (if y562.length + y565.length < 17592186044416 then ((event_Fits.f k3 y530 (y562 ++ y565)).bind fun bt572 => (if bt551.2 = 0 then (if bt553.2 = 0 then (if bt572.2 = 0 then (if (bt553.1 == bt551.1) = true then (none) else (if x8_3 < (t534.length : Int) then (if (bt572.1 != (((J38 t534 x8_3).f4) == (-1))) = true then (none) else (larchlaw05_EventRows.l1 k3 y530 t534 x5_3 ji28)) else (none))) else (none)) else (none)) else (none))) else (none))) else (none))) else (none))) else (none))))) = some r := by first | (rw [hy550]; with_reducible exact H) | (have H2_ := (Option.bind_some _ _).symm.trans H; rw [hy550]; with_reducible exact H2_) | (have H2_ := (Option.bind_some _ _).symm.trans H; with_reducible exact H2_) | with_reducible exact H | (rw [hy550]; exact H) | exact H
                   have Ny550 := asd hy550
                   clear hy550
                   replace H := Option.bind_eq_some_iff.mp H
                   obtain ⟨⟨t551, t552⟩, A320, H⟩ := H
                   replace H : ((event_Fits.f k3 y530 y550).bind fun bt553 => ((some (([] : List Int) : List Int)).bind fun y555 => (if x8_3 ≤ (x5_3.length : Int) then ((some (x5_3.take (x8_3 : Int).toNat : List Int)).bind fun y558 => (if y555.length + y558.length < 17592186044416 then ((some (y555 ++ y558 : List Int)).bind fun y562 => (if (ji28) ≤ (x5_3.length : Int) then ((some (x5_3.drop ((ji28) : Int).toNat : List Int)).bind fun y565 => (if y562.length + y565.length < 17592186044416 then ((event_Fits.f k3 y530 (y562 ++ y565)).bind fun bt572 => (if t552 = 0 then (if bt553.2 = 0 then (if bt572.2 = 0 then (if (bt553.1 == t551) = true then (none) else (if x8_3 < (t534.length : Int) then (if (bt572.1 != (((J38 t534 x8_3).f4) == (-1))) = true then (none) else (larchlaw05_EventRows.l1 k3 y530 t534 x5_3 ji28)) else (none))) else (none)) else (none)) else (none))) else (none))) else (none))) else (none))) else (none)))) = some r := H
                   have A32 := asd A320
                   clear A320
                   replace H := Option.bind_eq_some_iff.mp H
                   obtain ⟨⟨t553, t554⟩, A330, H⟩ := H
                   replace H : ((some (([] : List Int) : List Int)).bind fun y555 => (if x8_3 ≤ (x5_3.length : Int) then ((some (x5_3.take (x8_3 : Int).toNat : List Int)).bind fun y558 => (if y555.length + y558.length < 17592186044416 then ((some (y555 ++ y558 : List Int)).bind fun y562 => (if (ji28) ≤ (x5_3.length : Int) then ((some (x5_3.drop ((ji28) : Int).toNat : List Int)).bind fun y565 => (if y562.length + y565.length < 17592186044416 then ((event_Fits.f k3 y530 (y562 ++ y565)).bind fun bt572 => (if t552 = 0 then (if t554 = 0 then (if bt572.2 = 0 then (if (t553 == t551) = true then (none) else (if x8_3 < (t534.length : Int) then (if (bt572.1 != (((J38 t534 x8_3).f4) == (-1))) = true then (none) else (larchlaw05_EventRows.l1 k3 y530 t534 x5_3 ji28)) else (none))) else (none)) else (none)) else (none))) else (none))) else (none))) else (none))) else (none))) = some r := H
                   have A33 := asd A330
                   clear A330
                   obtain ⟨y555, hy555⟩ : ∃ y_ : List Int, y_ = (([] : List Int)) := ⟨_, rfl⟩
                   replace H : (if x8_3 ≤ (x5_3.length : Int) then ((some (x5_3.take (x8_3 : Int).toNat : List Int)).bind fun y558 => (if y555.length + y558.length < 17592186044416 then ((some (y555 ++ y558 : List Int)).bind fun y562 => (if (ji28) ≤ (x5_3.length : Int) then ((some (x5_3.drop ((ji28) : Int).toNat : List Int)).bind fun y565 => (if y562.length + y565.length < 17592186044416 then ((event_Fits.f k3 y530 (y562 ++ y565)).bind fun bt572 => (if t552 = 0 then (if t554 = 0 then (if bt572.2 = 0 then (if (t553 == t551) = true then (none) else (if x8_3 < (t534.length : Int) then (if (bt572.1 != (((J38 t534 x8_3).f4) == (-1))) = true then (none) else (larchlaw05_EventRows.l1 k3 y530 t534 x5_3 ji28)) else (none))) else (none)) else (none)) else (none))) else (none))) else (none))) else (none))) else (none)) = some r := by first | (rw [hy555]; with_reducible exact H) | (have H2_ := (Option.bind_some _ _).symm.trans H; rw [hy555]; with_reducible exact H2_) | (have H2_ := (Option.bind_some _ _).symm.trans H; with_reducible exact H2_) | with_reducible exact H | (rw [hy555]; exact H) | exact H
                   have Ny555 := asd hy555
                   clear hy555
                   have c34b0 := eq_true (dt : 0 ≤ x8_3)
                   by_cases c35 : x8_3 ≤ (x5_3.length : Int)
                   ·
                    rw [if_pos c35] at H
                    have c35b0 := eq_true c35
                    have c35b1 : decide (x8_3 ≤ (x5_3.length : Int)) = true := decide_eq_true c35
                    clear c35
                    obtain ⟨y558, hy558⟩ : ∃ y_ : List Int, y_ = (x5_3.take (x8_3 : Int).toNat) := ⟨_, rfl⟩
                    replace H : (if y555.length + y558.length < 17592186044416 then ((some (y555 ++ y558 : List Int)).bind fun y562 => (if (ji28) ≤ (x5_3.length : Int) then ((some (x5_3.drop ((ji28) : Int).toNat : List Int)).bind fun y565 => (if y562.length + y565.length < 17592186044416 then ((event_Fits.f k3 y530 (y562 ++ y565)).bind fun bt572 => (if t552 = 0 then (if t554 = 0 then (if bt572.2 = 0 then (if (t553 == t551) = true then (none) else (if x8_3 < (t534.length : Int) then (if (bt572.1 != (((J38 t534 x8_3).f4) == (-1))) = true then (none) else (larchlaw05_EventRows.l1 k3 y530 t534 x5_3 ji28)) else (none))) else (none)) else (none)) else (none))) else (none))) else (none))) else (none)) = some r := by first | (rw [hy558]; with_reducible exact H) | (have H2_ := (Option.bind_some _ _).symm.trans H; rw [hy558]; with_reducible exact H2_) | (have H2_ := (Option.bind_some _ _).symm.trans H; with_reducible exact H2_) | with_reducible exact H | (rw [hy558]; exact H) | exact H
                    have Ny558 := asd hy558
                    clear hy558
                    by_cases c36 : y555.length + y558.length < 17592186044416
                    ·
                     rw [if_pos c36] at H
                     have LMc36 := asd c36
                     clear c36
                     obtain ⟨y562, hy562⟩ : ∃ y_ : List Int, y_ = (y555 ++ y558) := ⟨_, rfl⟩
                     replace H : (if (ji28) ≤ (x5_3.length : Int) then ((some (x5_3.drop ((ji28) : Int).toNat : List Int)).bind fun y565 => (if y562.length + y565.length < 17592186044416 then ((event_Fits.f k3 y530 (y562 ++ y565)).bind fun bt572 => (if t552 = 0 then (if t554 = 0 then (if bt572.2 = 0 then (if (t553 == t551) = true then (none) else (if x8_3 < (t534.length : Int) then (if (bt572.1 != (((J38 t534 x8_3).f4) == (-1))) = true then (none) else (larchlaw05_EventRows.l1 k3 y530 t534 x5_3 ji28)) else (none))) else (none)) else (none)) else (none))) else (none))) else (none)) = some r := by first | (rw [hy562]; with_reducible exact H) | (have H2_ := (Option.bind_some _ _).symm.trans H; rw [hy562]; with_reducible exact H2_) | (have H2_ := (Option.bind_some _ _).symm.trans H; with_reducible exact H2_) | with_reducible exact H | (rw [hy562]; exact H) | exact H
                     have Ny562 := asd hy562
                     clear hy562
                     have c37b0 := eq_true (dt : 0 ≤ (ji28))
                     by_cases c38 : (ji28) ≤ (x5_3.length : Int)
                     ·
                      rw [if_pos c38] at H
                      have c38b0 := eq_true c38
                      have c38b1 : decide ((ji28) ≤ (x5_3.length : Int)) = true := decide_eq_true c38
                      clear c38
                      obtain ⟨y565, hy565⟩ : ∃ y_ : List Int, y_ = (x5_3.drop ((ji28) : Int).toNat) := ⟨_, rfl⟩
                      replace H : (if y562.length + y565.length < 17592186044416 then ((event_Fits.f k3 y530 (y562 ++ y565)).bind fun bt572 => (if t552 = 0 then (if t554 = 0 then (if bt572.2 = 0 then (if (t553 == t551) = true then (none) else (if x8_3 < (t534.length : Int) then (if (bt572.1 != (((J38 t534 x8_3).f4) == (-1))) = true then (none) else (larchlaw05_EventRows.l1 k3 y530 t534 x5_3 ji28)) else (none))) else (none)) else (none)) else (none))) else (none)) = some r := by first | (rw [hy565]; with_reducible exact H) | (have H2_ := (Option.bind_some _ _).symm.trans H; rw [hy565]; with_reducible exact H2_) | (have H2_ := (Option.bind_some _ _).symm.trans H; with_reducible exact H2_) | with_reducible exact H | (rw [hy565]; exact H) | exact H
                      have Ny565 := asd hy565
                      clear hy565
                      by_cases c39 : y562.length + y565.length < 17592186044416
                      ·
                       rw [if_pos c39] at H
                       have LMc39 := asd c39
                       clear c39
                       obtain ⟨y569, hy569⟩ : ∃ y_ : List Int, y_ = (y562 ++ y565) := ⟨_, rfl⟩
                       replace H : ((event_Fits.f k3 y530 y569).bind fun bt572 => (if t552 = 0 then (if t554 = 0 then (if bt572.2 = 0 then (if (t553 == t551) = true then (none) else (if x8_3 < (t534.length : Int) then (if (bt572.1 != (((J38 t534 x8_3).f4) == (-1))) = true then (none) else (larchlaw05_EventRows.l1 k3 y530 t534 x5_3 ji28)) else (none))) else (none)) else (none)) else (none))) = some r := by first | (rw [hy569]; with_reducible exact H) | (have H2_ := (Option.bind_some _ _).symm.trans H; rw [hy569]; with_reducible exact H2_) | (have H2_ := (Option.bind_some _ _).symm.trans H; with_reducible exact H2_) | with_reducible exact H | (rw [hy569]; exact H) | exact H
                       have Ny569 := asd hy569
                       clear hy569
                       replace H := Option.bind_eq_some_iff.mp H
                       obtain ⟨⟨t572, t573⟩, A400, H⟩ := H
                       replace H : (if t552 = 0 then (if t554 = 0 then (if t573 = 0 then (if (t553 == t551) = true then (none) else (if x8_3 < (t534.length : Int) then (if (t572 != (((J38 t534 x8_3).f4) == (-1))) = true then (none) else (larchlaw05_EventRows.l1 k3 y530 t534 x5_3 ji28)) else (none))) else (none)) else (none)) else (none)) = some r := H
                       have A40 := asd A400
                       clear A400
                       by_cases c41 : t552 = 0
                       ·
                        rw [if_pos c41] at H
                        have c41b0 : (t552 == 0) = true := beq_iff_eq.mpr c41
                        have c41b1 : (t552 != 0) = false := bne_eq_false_iff_eq.mpr c41
                        clear c41
                        by_cases c42 : t554 = 0
                        ·
                         rw [if_pos c42] at H
                         have c42b0 : (t554 == 0) = true := beq_iff_eq.mpr c42
                         have c42b1 : (t554 != 0) = false := bne_eq_false_iff_eq.mpr c42
                         clear c42
                         by_cases c43 : t573 = 0
                         ·
                          rw [if_pos c43] at H
                          have c43b0 : (t573 == 0) = true := beq_iff_eq.mpr c43
                          have c43b1 : (t573 != 0) = false := bne_eq_false_iff_eq.mpr c43
                          clear c43
                          by_cases c44 : (t553 == t551) = true
                          ·
                           rw [if_pos c44] at H
                           exact absurd H (by simp)
                          ·
                           rw [if_neg c44] at H
                           have c44b0 : (t553 == t551) = false := by simpa using c44
                           (try (have c44b1 : decide (t553 = t551) = false := by simpa using c44))
                           (try (have c44b2 : (t553 == t551) = false := by simpa using c44))
                           (try (have c44b3 : ¬ (t553 = t551) := by simpa using c44))
                           clear c44
                           by_cases c45 : x8_3 < (t534.length : Int)
                           ·
                            rw [if_pos c45] at H
                            have c45b0 : decide (x8_3 < (t534.length : Int)) = true := decide_eq_true c45
                            clear c45
                            by_cases c46 : (t572 != (((J38 t534 x8_3).f4) == (-1))) = true
                            ·
                             rw [if_pos c46] at H
                             exact absurd H (by simp)
                            ·
                             rw [if_neg c46] at H
                             have c46b0 : (t572 != (((J38 t534 x8_3).f4) == (-1))) = false := by simpa using c46
                             (try (have c46b1 : decide (t572 = (((J38 t534 x8_3).f4) == (-1))) = true := by simpa using c46))
                             (try (have c46b2 : (t572 == (((J38 t534 x8_3).f4) == (-1))) = true := by simpa using c46))
                             clear c46
                             have H' := asd H
                             clear H
                             try go_wp2_with (first | ((with_reducible refine gate_dst (N := 68) rfl ?_); refine Kd.R_lit (Kd.int .i64) _ 3 ?hg (N := 68) ?hd (xs := ([] : List Int)) (inner := []) (ok := fun _ => True) (okp := fun _ => True) ?hr ?hp (fun _ hk => hk) trivial (Below.refl _ _) (Nat.le_refl _) (by simp) ?_; (case hd => rfl); (case hg => rfl); (case hr => first | (go_simp; done) | (go_simp; rfl)); (case hp => exact (Reps.none _ _)); intro v544 w47 ho48 hb hg_ hnew_; clear hg_ hnew_; (first | rw [← Ny543.out] at ho48 | (simp only [Int.reduceToNat] at ho48; rw [← Ny543.out] at ho48)); have n0_ := asd (Kd.S_below (by (with_reducible repeat (first | apply Kd.S_alloc | apply Kd.S_drewN | apply Kd.S_drew)); exact HO_3.out) hb); have n1_ := asd (Kd.R_elder' (skR HO_5.out) (Kd.R_base ho48) hb); have n2_ := asd (Kd.R_lower (Kd.R_new' ho48 (Kd.R_lt (skR HO_5.out))) (below_size (skB HB.out))); have n3_ := asd (below_step (skB HB.out) hb); clear HO_3; clear HO_5; clear HB; have HO_3 := n0_; have HO_5 := n1_; have HO545 := n2_; have HB := n3_; clear n0_ n1_ n2_ n3_; clear hb ho48) | ((with_reducible refine gate_builtin (b := .append) (xs := #[.tmp 68, .tmp 69]) rfl ?_); at_builtin; refine Kd.R_append_rows (Kd.int .i64) (w0 := w) w.heap.size rfl (.tmp 68) (.tmp 69) 41 3 (.int .i64 0) 8 rfl Try.underlying41 info3 rfl (by decide) (by omega) v544 y543 x5_3 _ _ _ (fun k_ => some k_ ≠ (.slice Ao19 x5_3.length co19 : Value).ownBlock) (fun _ => False) rfl rfl ?aO ?aR (fun _ _ h => h) (fun _ h => h.elim) ?aF ?aB ?aS ?aL ?_; (case aR => exact skC (Kd.R_reads' HO_5.out).2.2); (case aB => exact (skB HB.out)); (case aF => exact (fun k_ hk => Kd.fresh' (Kd.R_lt (skR HO_5.out)) k_ hk)); (case aO => exact (skR (Kd.R_mono HO545.out (fun _ hk => hk.2)))); (case aS => exact (below_size (skB HB.out))); (case aL => have := LMc24.out; omega); intro v547 w49 ho hb hg hat; rw [← Ny546.out] at ho; have n0_ := asd (Kd.S_over' (by (with_reducible repeat (first | apply Kd.S_alloc | apply Kd.S_drewN | apply Kd.S_drew)); exact HO_3.out) (Kd.R_typed (skR HO545.out)) (by decide) hg); have n1_ := asd (Kd.R_after (ok := (fun _ => True)) (skR HO_5.out) hg hat); have n2_ := asd (hb); have n3_ := asd (ho); clear HO_3; clear HO_5; clear HB; clear HO545; have HO_3 := n0_; have HO_5 := n1_; have HB := n2_; have HO548 := n3_; clear n0_ n1_ n2_ n3_; clear ho hb hg hat; have p27 : 0 ≤ (x8_3 : Int) := dt; have q27 : (x8_3 : Int) < ((y546.length : Int) : Int) := dt; obtain ⟨go27, co27, eo27, gb27, gl27, cl27, HG27⟩ := Kd.R_form HO548.out (by omega); (first | cases eo27 | (injection eo27 with ea_ en_ ec_; (first | subst ea_ | (injection ea_ with ea_; subst ea_)); subst ec_; clear en_)); have GB27 := asd gb27; have GG27 := asd HG27; clear gb27 gl27 HG27; obtain ⟨hx27_0, hf27_0⟩ := Kd.R_celln 0 HO548.out (x8_3 : Int) p27 q27; replace p27 := eq_true p27; replace q27 := eq_true q27; obtain ⟨hy50_, hz50_⟩ := Kd.R_celln 0 HO548.out (x8_3 : Int) dt dt; have HP50 := Kd.R_putg HO548.out (x8_3 : Int) ji28) | ((with_reducible refine gate_store (t := 3) (p := 79) rfl ?_); refine store_event (t := 3) (p := 79) (v := ?vo_w51) (w1 := (w49.setCell ⟨go27, (x8_3 : Int).toNat, none⟩ (.int .i64 ji28))) ?hg ?ho ?hn ?hr ?_; (case ho => rfl); (case hg => rfl); (case hn => rfl); (case hr => first | (go_simp; done) | (go_simp; rfl)); intro w51 hw; have hg : w49.grownBy w51 (some go27) := (by rw [hw]; exact HP50.2); have hp_ : Kd.R (Kd.int .i64) 3 w51 w.heap.size (fun k_ => some k_ ≠ (.slice Ao19 x5_3.length co19 : Value).ownBlock) (.slice (some ⟨go27, 0, none⟩) y546.length co27) y549 := (by rw [hw, Ny549.out]; exact HP50.1); clear HP50; have n0_ := asd (Kd.S_over' (v := (.slice (some ⟨go27, 0, none⟩) y546.length co27)) (by (with_reducible repeat (first | apply Kd.S_alloc | apply Kd.S_drewN | apply Kd.S_drew)); exact HO_3.out) (Kd.R_typed HO548.out) (by decide) hg); have n1_ := asd (Kd.R_after (v := (.slice (some ⟨go27, 0, none⟩) y546.length co27)) (v1 := (.slice (some ⟨go27, 0, none⟩) y546.length co27)) (ok := (fun _ => True)) (skR HO_5.out) hg (.inl rfl)); have n2_ := asd (hp_); have n3_ := asd ((by rw [hw]; exact below_set (HB.out) GB27.out : Below w.heap.size w w51)); clear HO_3; clear HO_5; clear HO548; clear HB; have HO_3 := n0_; have HO_5 := n1_; have HO548 := n2_; have HB := n3_; clear n0_ n1_ n2_ n3_; clear hg hw hp_; have p31 : 0 ≤ ((ji28) : Int) := dt; have q31 : ((ji28) : Int) < ((y546.length : Int) : Int) := dt; obtain ⟨hx31_0, hf31_0⟩ := Kd.R_celln 0 HO548.out ((ji28) : Int) p31 q31; replace p31 := eq_true p31; replace q31 := eq_true q31; obtain ⟨hy52_, hz52_⟩ := Kd.R_celln 0 HO548.out ((ji28) : Int) dt dt; have HP52 := Kd.R_putg HO548.out ((ji28) : Int) x8_3) | ((with_reducible refine gate_store (t := 3) (p := 80) rfl ?_); refine store_event (t := 3) (p := 80) (v := ?vo_w53) (w1 := (w51.setCell ⟨go27, ((ji28) : Int).toNat, none⟩ (.int .i64 x8_3))) ?hg ?ho ?hn ?hr ?_; (case ho => rfl); (case hg => rfl); (case hn => rfl); (case hr => first | (go_simp; done) | (go_simp; rfl)); intro w53 hw; have hg : w51.grownBy w53 (some go27) := (by rw [hw]; exact HP52.2); have hp_ : Kd.R (Kd.int .i64) 3 w53 w.heap.size (fun k_ => some k_ ≠ (.slice Ao19 x5_3.length co19 : Value).ownBlock) (.slice (some ⟨go27, 0, none⟩) y546.length co27) y550 := (by rw [hw, Ny550.out]; exact HP52.1); clear HP52; have n0_ := asd (Kd.S_over' (v := (.slice (some ⟨go27, 0, none⟩) y546.length co27)) (by (with_reducible repeat (first | apply Kd.S_alloc | apply Kd.S_drewN | apply Kd.S_drew)); exact HO_3.out) (Kd.R_typed HO548.out) (by decide) hg); have n1_ := asd (Kd.R_after (v := (.slice (some ⟨go27, 0, none⟩) y546.length co27)) (v1 := (.slice (some ⟨go27, 0, none⟩) y546.length co27)) (ok := (fun _ => True)) (skR HO_5.out) hg (.inl rfl)); have n2_ := asd (hp_); have n3_ := asd ((by rw [hw]; exact below_set (HB.out) GB27.out : Below w.heap.size w w53)); clear HO_3; clear HO_5; clear HO548; clear HB; have HO_3 := n0_; have HO_5 := n1_; have HO548 := n2_; have HB := n3_; clear n0_ n1_ n2_ n3_; clear hg hw hp_) | ((with_reducible refine gate_callee (f := 14) rfl ?_); refine goesL_ (some 86) rfl rfl Try.func14 (by kernel_rfl) rfl #[.slice A0 y530.length c0, .int .i64 x8_3, .int .i64 ji28] rfl (by (try simp only [List.map_toArray, List.map_cons, List.map_nil]); first | done | (simp only [hji28]; rfl) | rfl | (simp only [List.length_drop, List.length_take]; rfl)) ?_; (with_reducible refine (event_Ahead.calls _ _ y530 x8_3 ji28 t551 t552 _ ?side1 ?side2 A32.out).mono ?_); (case side1 => exact skC (Kd.C_below HR533.out HB.out)); (case side2 => exact HC533.out); rintro e w54 ⟨rfl, hb⟩; refine ⟨_, rfl, ?_⟩; have n0_ := asd (Kd.S_below (by (with_reducible repeat (first | apply Kd.S_alloc | apply Kd.S_drewN | apply Kd.S_drew)); exact HO_3.out) hb); have n1_ := asd (Kd.R_below (skR HO_5.out) hb); have n2_ := asd (Kd.R_below (skR HO548.out) hb); have n3_ := asd (below_step (skB HB.out) hb); clear HO_3; clear HO_5; clear HO548; clear HB; have HO_3 := n0_; have HO_5 := n1_; have HO548 := n2_; have HB := n3_; clear n0_ n1_ n2_ n3_; (try clear hb); (try clear hb2); (try clear hk); (try clear hi)) | ((with_reducible refine gate_callee (f := 17) rfl ?_); refine goesL_ (some 92) rfl rfl Try.func17 (by kernel_rfl) rfl #[.slice A0 y530.length c0, .slice (some ⟨go27, 0, none⟩) y550.length co27] rfl (by (try simp only [List.map_toArray, List.map_cons, List.map_nil]); first | done | (rw [show y550.length = y546.length from (Kd.R_reads' HO548.out).1.symm] <;> rfl) | rfl | (simp only [List.length_drop, List.length_take]; rfl)) ?_; (with_reducible refine (event_Fits.calls k3 _ _ y530 _ _ y550 t553 t554 _ ?side1 ?side2 ?side3 ?side4 A33.out).mono ?_); (case side1 => exact skC (Kd.C_below HR533.out HB.out)); (case side2 => exact HC533.out); (case side3 => exact skC (Kd.R_reads' HO548.out).2.2); (case side4 => rw [show y550.length = y546.length from (Kd.R_reads' HO548.out).1.symm]; exact (Kd.R_reads' HO548.out).2.1); rintro e w55 ⟨rfl, hb⟩; refine ⟨_, rfl, ?_⟩; have n0_ := asd (Kd.S_below (by (with_reducible repeat (first | apply Kd.S_alloc | apply Kd.S_drewN | apply Kd.S_drew)); exact HO_3.out) hb); have n1_ := asd (Kd.R_below (skR HO_5.out) hb); have n2_ := asd (Kd.R_below (skR HO548.out) hb); have n3_ := asd (below_step (skB HB.out) hb); clear HO_3; clear HO_5; clear HO548; clear HB; have HO_3 := n0_; have HO_5 := n1_; have HO548 := n2_; have HB := n3_; clear n0_ n1_ n2_ n3_; (try clear hb); (try clear hb2); (try clear hk); (try clear hi)))
                             have n0_ := asd (Kd.S_drew HO_3.out)
                             have n1_ := asd (Kd.R_drew HO_5.out)
                             have n2_ := asd (Kd.R_drew HO548.out)
                             have n3_ := asd (below_drew1 HB.out)
                             clear HO_3
                             clear HO_5
                             clear HO548
                             clear HB
                             have HO_3 := n0_
                             have HO_5 := n1_
                             have HO548 := n2_
                             have HB := n3_
                             clear n0_ n1_ n2_ n3_
                             have q57 : (x8_3 : Int) ≤ ((x5_3.length : Int) : Int) := dt
                             obtain ⟨i057, hi057, _, hsz57, _⟩ := info_parts info3
                             have hroom57 : x5_3.length ≤ co19 := (Kd.R_reads' HO_5.out).2.1
                             have hC57 : Kd.C (Kd.int .i64) _ Ao19 x5_3.length x5_3 := (Kd.R_reads' HO_5.out).2.2
                             have hcut57 := cut_to (P := Try.prog) 41 3 .i64 Try.underlying41 hi057 Ao19 x5_3.length co19 x8_3 dt q57 hroom57
                             have hr57 := Kd.C_take (m := (x8_3 : Int).toNat) hC57 (by omega)
                             have hy57 : y558.length = (x8_3 : Int).toNat := (by rw [Ny558.out, List.length_take]; omega)
                             rw [← Ny558.out] at hr57
                             rw [← hy57] at hcut57
                             have HR561 := asd hr57
                             have HC561 := asd (show y558.length ≤ co19 from by omega)
                             clear hr57 hC57 hroom57 hi057 hsz57
                             have KY57 := asd hy57
                             clear hy57
                             have KL57 := asd (show (x8_3 : Int).toNat ≤ x5_3.length from by omega)
                             replace q57 := eq_true q57
                             have q58 : ((ji28) : Int) ≤ ((x5_3.length : Int) : Int) := dt
                             obtain ⟨i058, hi058, _, hsz58, _⟩ := info_parts info3
                             have hroom58 : x5_3.length ≤ co19 := (Kd.R_reads' HO_5.out).2.1
                             have hC58 : Kd.C (Kd.int .i64) _ Ao19 x5_3.length x5_3 := (Kd.R_reads' HO_5.out).2.2
                             have q058 : (0 : Int) ≤ ((ji28) : Int) := dt
                             have hcut58 := cut_from (P := Try.prog) 41 3 .i64 Try.underlying41 hi058 1 hsz58 Ao19 x5_3.length co19 (ji28) q058 q58
                             have hr58 := Kd.C_drop (m := ((ji28) : Int).toNat) (c := co19) hC58 (by omega) hroom58
                             obtain ⟨A58, hA58⟩ : ∃ A1, A1 = (if co19 = ((ji28) : Int).toNat then Ao19 else (Ao19 : Option Addr).map (·.add (((ji28) : Int).toNat * 1))) := ⟨_, rfl⟩
                             obtain ⟨c58, hc58⟩ : ∃ c1, c1 = co19 - ((ji28) : Int).toNat := ⟨_, rfl⟩
                             have hy58 : y565.length = x5_3.length - ((ji28) : Int).toNat := (by rw [Ny565.out, List.length_drop] <;> omega)
                             rw [show (x5_3).drop ((ji28) : Int).toNat = y565 from Ny565.out.symm] at hr58
                             replace hr58 : Kd.C (Kd.int .i64) _ A58 y565.length y565 := (by rw [hA58]; exact hr58)
                             rw [← hy58, ← hA58, ← hc58] at hcut58
                             have HR568 := asd hr58
                             have HC568 := asd (show y565.length ≤ c58 from by rw [hy58, hc58]; exact Nat.sub_le_sub_right hroom58 _)
                             clear hr58 hC58 hroom58 hi058 hsz58 hc58
                             have KY58 := asd hy58
                             have KA58 := asd hA58
                             clear hy58 hA58
                             have KL58 := asd (show ((ji28) : Int).toNat ≤ x5_3.length from by omega)
                             replace q58 := eq_true q58
                             refine start_ (n := 11) (S := fun w' => True) (ds := []) #[false,false,false,false,false,false,false,false,false,false,false] (by kernel_rfl) rfl rfl trivial (fun hHeld => ?_); refine with_tabW larchlaw05_EventRows.tab22 larchlaw05_EventRows.bits22 (fun HT_ HW_ => ?_)
                             generalize w55.drew = w56 at HO_3 HO_5 HO548 HB HR561 HR568 hHeld ⊢
                             refine pure_ (i := 1) (N := some 96) (v := ?_) (a' := ?_) #[false,true,false,false,false,false,false,false,false,false,false] rfl rfl (aK HT_.out) (fun _ _ _ h => h) (Or.inl ⟨by rfl, ?_⟩) ?_ ?_
                             rotate_left
                             ·
                              intro w'
                              go_simp
                              with_reducible rfl
                             rotate_left
                             ·
                              simp only [Act.put, sp]
                              rfl
                             refine pure_ (i := 2) (N := some 97) (v := ?_) (a' := ?_) #[false,true,true,false,false,false,false,false,false,false,false] rfl rfl (aK HT_.out) (fun _ _ _ h => h) (Or.inl ⟨by rfl, ?_⟩) ?_ ?_
                             rotate_left
                             ·
                              intro w'
                              go_simp
                              with_reducible rfl
                             rotate_left
                             ·
                              simp only [Act.put, sp]
                              rfl
                             refine pure_ (i := 3) (N := some 98) (v := ?_) (a' := ?_) #[false,true,true,true,false,false,false,false,false,false,false] rfl rfl (aK HT_.out) (fun _ _ _ h => h) (Or.inl ⟨by rfl, ?_⟩) ?_ ?_
                             rotate_left
                             ·
                              intro w'
                              go_simp
                              with_reducible rfl
                             rotate_left
                             ·
                              simp only [Act.put, sp]
                              rfl
                             refine pure_ (i := 5) (N := some 100) (v := ?_) (a' := ?_) #[false,true,true,true,false,true,false,false,false,false,false] rfl rfl (aK HT_.out) (fun _ _ _ h => h) (Or.inl ⟨by rfl, ?_⟩) ?_ ?_
                             rotate_left
                             ·
                              intro w'
                              go_simp
                              with_reducible rfl
                             rotate_left
                             ·
                              simp only [Act.put, sp]
                              rfl
                             refine pure_ (i := 6) (N := some 101) (v := ?_) (a' := ?_) #[false,true,true,true,false,true,true,false,false,false,false] rfl rfl (aK HT_.out) (fun _ _ _ h => h) (Or.inl ⟨by rfl, ?_⟩) ?_ ?_
                             rotate_left
                             ·
                              intro w'
                              go_simp
                              with_reducible rfl
                             rotate_left
                             ·
                              simp only [Act.put, sp]
                              rfl
                             refine pure_ (i := 7) (N := some 102) (v := ?_) (a' := ?_) #[false,true,true,true,false,true,true,true,false,false,false] rfl rfl (aK HT_.out) (fun _ _ _ h => h) (Or.inl ⟨by rfl, ?_⟩) ?_ ?_
                             rotate_left
                             ·
                              intro w'
                              go_simp
                              with_reducible rfl
                             rotate_left
                             ·
                              simp only [Act.put, sp]
                              rfl
                             refine pure_ (i := 8) (N := some 103) (v := ?_) (a' := ?_) #[false,true,true,true,false,true,true,true,true,false,false] rfl rfl (aK HT_.out) (fun _ _ _ h => h) (Or.inl ⟨by rfl, ?_⟩) ?_ ?_
                             rotate_left
                             ·
                              intro w'
                              go_simp
                              with_reducible rfl
                             rotate_left
                             ·
                              simp only [Act.put, sp]
                              rfl
                             refine one_ (i := 0) (N := some 95) #[true,true,true,true,false,true,true,true,true,false,false] rfl rfl (one_of HT_.out (by kernel_rfl)) (by decide) (fun K hK => ?_)
                             refine Kd.R_lit_step (Kd.int .i64) _ 3 ?hg (N := 95) ?hd (xs := ([] : List Int)) (inner := []) (ok := fun _ => True) (okp := fun _ => True) ?hr ?hp (fun _ hk => hk) trivial (Below.refl _ _) (Nat.le_refl _) (by simp) ?_; (case hd => rfl); (case hg => rfl); (case hr => first | (go_simp; done) | (go_simp; rfl)); (case hp => exact (Reps.none _ _))
                             intro v556 w59 ho60 hb hg_ hnew_
                             clear hg_ hnew_
                             (first | rw [← Ny555.out] at ho60 | (simp only [Int.reduceToNat] at ho60; rw [← Ny555.out] at ho60))
                             have n0_ := asd (Kd.S_below (by (with_reducible repeat (first | apply Kd.S_alloc | apply Kd.S_drewN | apply Kd.S_drew)); exact HO_3.out) hb)
                             have n1_ := asd (Kd.R_elder' (skR HO_5.out) (Kd.R_base ho60) hb)
                             have n2_ := asd (Kd.R_elder' (skR HO548.out) (Kd.R_base ho60) hb)
                             have n3_ := asd (Kd.R_lower (Kd.R_new' (Kd.R_new' ho60 (Kd.R_lt (skR HO_5.out))) (Kd.R_lt (skR HO548.out))) (below_size (skB HB.out)))
                             have n4_ := asd (Kd.C_below (by repeat (first | (with_reducible exact HR561.out) | (with_reducible refine Kd.C_alloc ?_ _) | (with_reducible refine Kd.C_drewN ?_ _) | (with_reducible refine Kd.C_drew ?_) | exact HR561.out)) hb)
                             have n5_ := asd (Kd.C_below (by repeat (first | (with_reducible exact HR568.out) | (with_reducible refine Kd.C_alloc ?_ _) | (with_reducible refine Kd.C_drewN ?_ _) | (with_reducible refine Kd.C_drew ?_) | exact HR568.out)) hb)
                             have n6_ := asd (below_step (skB HB.out) hb)
                             clear HO_3
                             clear HO_5
                             clear HO548
                             clear HR561
                             clear HR568
                             clear HB
                             have HO_3 := n0_
                             have HO_5 := n1_
                             have HO548 := n2_
                             have HO557 := n3_
                             have HR561 := n4_
                             have HR568 := n5_
                             have HB := n6_
                             clear n0_ n1_ n2_ n3_ n4_ n5_ n6_
                             clear hb ho60
                             refine hK.out _ _ trivial (fun hHeld => ?_)
                             clear hK K
                             refine norm_ (a' := ?_) ?_ ?_
                             rotate_left
                             ·
                              show Act.put _ (some 95) _ = _
                              simp only [Act.put, sp]
                              rfl
                             refine one_ (i := 4) (N := some 99) #[true,true,true,true,true,true,true,true,true,false,false] rfl rfl (one_of HT_.out (by kernel_rfl)) (by decide) (fun K hK => ?_)
                             refine Kd.R_append_rows_step (Kd.int .i64) (w0 := w) w.heap.size (by rfl) (.tmp 95) (.tmp 98) 41 3 (.int .i64 0) 8 rfl Try.underlying41 info3 rfl (by decide) (by omega) v556 y555 y558 _ _ _ (fun k_ => some k_ ≠ (.slice Ao19 x5_3.length co19 : Value).ownBlock ∧ some k_ ≠ (.slice (some ⟨go27, 0, none⟩) y546.length co27 : Value).ownBlock) (fun _ => False) rfl rfl ?aO ?aR (fun _ _ h => h) (fun _ h => h.elim) ?aF ?aB ?aS ?aL ?_
                             (case aR => exact skC (by repeat (first | (with_reducible exact HR561.out) | (with_reducible refine Kd.C_alloc ?_ _) | (with_reducible refine Kd.C_drewN ?_ _) | (with_reducible refine Kd.C_drew ?_) | exact HR561.out)))
                             (case aB => exact (skB HB.out))
                             (case aF => exact (fun k_ hk => ⟨Kd.fresh' (Kd.R_lt (skR HO_5.out)) k_ hk, Kd.fresh' (Kd.R_lt (skR HO548.out)) k_ hk⟩))
                             (case aO => exact (skR (Kd.R_mono HO557.out (fun _ hk => ⟨hk.1.2, hk.2⟩))))
                             (case aS => exact (below_size (skB HB.out)))
                             (case aL => have := LMc36.out; omega)
                             intro v563 w61 ho hb hg hat
                             rw [← Ny562.out] at ho
                             have n0_ := asd (Kd.S_over' (by (with_reducible repeat (first | apply Kd.S_alloc | apply Kd.S_drewN | apply Kd.S_drew)); exact HO_3.out) (Kd.R_typed (skR HO557.out)) (by decide) hg)
                             have n1_ := asd (Kd.R_after (ok := (fun k_ => some k_ ≠ (.slice (some ⟨go27, 0, none⟩) y546.length co27 : Value).ownBlock)) (skR (Kd.R_mono HO_5.out (fun _ hk => ⟨hk.1.2, hk.2⟩))) hg hat)
                             have n2_ := asd (Kd.R_after (ok := (fun k_ => some k_ ≠ (.slice Ao19 x5_3.length co19 : Value).ownBlock)) (skR HO548.out) hg hat)
                             have n3_ := asd (hb)
                             have n4_ := asd ((show Kd.C (Kd.int .i64) w61 Ao19 y558.length y558 from by rw [Ny558.out]; exact Kd.C_take (m := (x8_3 : Int).toNat) ((Kd.R_reads' (Kd.R_after (ok := (fun k_ => some k_ ≠ (.slice (some ⟨go27, 0, none⟩) y546.length co27 : Value).ownBlock)) (skR (Kd.R_mono HO_5.out (fun _ hk => ⟨hk.1.2, hk.2⟩))) hg hat)).2.2) KL57.out))
                             have n5_ := asd ((show Kd.C (Kd.int .i64) w61 A58 y565.length y565 from by rw [Ny565.out, KA58.out]; exact Kd.C_drop (m := ((ji28) : Int).toNat) (c := co19) ((Kd.R_reads' (Kd.R_after (ok := (fun k_ => some k_ ≠ (.slice (some ⟨go27, 0, none⟩) y546.length co27 : Value).ownBlock)) (skR (Kd.R_mono HO_5.out (fun _ hk => ⟨hk.1.2, hk.2⟩))) hg hat)).2.2) KL58.out ((Kd.R_reads' (Kd.R_after (ok := (fun k_ => some k_ ≠ (.slice (some ⟨go27, 0, none⟩) y546.length co27 : Value).ownBlock)) (skR (Kd.R_mono HO_5.out (fun _ hk => ⟨hk.1.2, hk.2⟩))) hg hat)).2.1)))
                             have n6_ := asd (ho)
                             clear HO_3
                             clear HO_5
                             clear HO548
                             clear HB
                             clear HR561
                             clear HR568
                             clear HO557
                             have HO_3 := n0_
                             have HO_5 := n1_
                             have HO548 := n2_
                             have HB := n3_
                             have HR561 := n4_
                             have HR568 := n5_
                             have HO564 := n6_
                             clear n0_ n1_ n2_ n3_ n4_ n5_ n6_
                             clear ho hb hg hat
                             refine hK.out _ _ trivial (fun hHeld => ?_)
                             clear hK K
                             refine norm_ (a' := ?_) ?_ ?_
                             rotate_left
                             ·
                              show Act.put _ (some 99) _ = _
                              simp only [Act.put, sp]
                              rfl
                             refine one_ (i := 9) (N := some 104) #[true,true,true,true,true,true,true,true,true,true,false] rfl rfl (one_of HT_.out (by kernel_rfl)) (by decide) (fun K hK => ?_)
                             refine Kd.R_append_rows_step (Kd.int .i64) (w0 := w) w.heap.size (by rfl) (.tmp 99) (.tmp 103) 41 3 (.int .i64 0) 8 rfl Try.underlying41 info3 rfl (by decide) (by omega) v563 y562 y565 _ _ _ (fun k_ => some k_ ≠ (.slice Ao19 x5_3.length co19 : Value).ownBlock ∧ some k_ ≠ (.slice (some ⟨go27, 0, none⟩) y546.length co27 : Value).ownBlock) (fun _ => False) rfl rfl ?aO ?aR (fun _ _ h => h) (fun _ h => h.elim) ?aF ?aB ?aS ?aL ?_
                             (case aR => exact skC (by repeat (first | (with_reducible exact HR568.out) | (with_reducible refine Kd.C_alloc ?_ _) | (with_reducible refine Kd.C_drewN ?_ _) | (with_reducible refine Kd.C_drew ?_) | exact HR568.out)))
                             (case aB => exact (skB HB.out))
                             (case aF => exact (fun k_ hk => ⟨Kd.fresh' (Kd.R_lt (skR HO_5.out)) k_ hk, Kd.fresh' (Kd.R_lt (skR HO548.out)) k_ hk⟩))
                             (case aO => exact (skR HO564.out))
                             (case aS => exact (below_size (skB HB.out)))
                             (case aL => have := LMc39.out; omega)
                             intro v570 w62 ho hb hg hat
                             rw [← Ny569.out] at ho
                             have n0_ := asd (Kd.S_over' (by (with_reducible repeat (first | apply Kd.S_alloc | apply Kd.S_drewN | apply Kd.S_drew)); exact HO_3.out) (Kd.R_typed (skR HO564.out)) (by decide) hg)
                             have n1_ := asd (Kd.R_after (ok := (fun k_ => some k_ ≠ (.slice (some ⟨go27, 0, none⟩) y546.length co27 : Value).ownBlock)) (skR HO_5.out) hg hat)
                             have n2_ := asd (Kd.R_after (ok := (fun k_ => some k_ ≠ (.slice Ao19 x5_3.length co19 : Value).ownBlock)) (skR HO548.out) hg hat)
                             have n3_ := asd (hb)
                             have n4_ := asd ((show Kd.C (Kd.int .i64) w62 Ao19 y558.length y558 from by rw [Ny558.out]; exact Kd.C_take (m := (x8_3 : Int).toNat) ((Kd.R_reads' (Kd.R_after (ok := (fun k_ => some k_ ≠ (.slice (some ⟨go27, 0, none⟩) y546.length co27 : Value).ownBlock)) (skR HO_5.out) hg hat)).2.2) KL57.out))
                             have n5_ := asd ((show Kd.C (Kd.int .i64) w62 A58 y565.length y565 from by rw [Ny565.out, KA58.out]; exact Kd.C_drop (m := ((ji28) : Int).toNat) (c := co19) ((Kd.R_reads' (Kd.R_after (ok := (fun k_ => some k_ ≠ (.slice (some ⟨go27, 0, none⟩) y546.length co27 : Value).ownBlock)) (skR HO_5.out) hg hat)).2.2) KL58.out ((Kd.R_reads' (Kd.R_after (ok := (fun k_ => some k_ ≠ (.slice (some ⟨go27, 0, none⟩) y546.length co27 : Value).ownBlock)) (skR HO_5.out) hg hat)).2.1)))
                             have n6_ := asd (ho)
                             clear HO_3
                             clear HO_5
                             clear HO548
                             clear HB
                             clear HR561
                             clear HR568
                             clear HO564
                             have HO_3 := n0_
                             have HO_5 := n1_
                             have HO548 := n2_
                             have HB := n3_
                             have HR561 := n4_
                             have HR568 := n5_
                             have HO571 := n6_
                             clear n0_ n1_ n2_ n3_ n4_ n5_ n6_
                             clear ho hb hg hat
                             refine hK.out _ _ trivial (fun hHeld => ?_)
                             clear hK K
                             refine norm_ (a' := ?_) ?_ ?_
                             rotate_left
                             ·
                              show Act.put _ (some 104) _ = _
                              simp only [Act.put, sp]
                              rfl
                             refine pure_ (i := 10) (N := some 14) (v := ?_) (a' := ?_) #[true,true,true,true,true,true,true,true,true,true,true] rfl rfl (aK HT_.out) (fun _ _ _ h => h) (Or.inl ⟨by rfl, ?_⟩) ?_ ?_
                             rotate_left
                             ·
                              intro w'
                              go_simp
                              with_reducible rfl
                             rotate_left
                             ·
                              simp only [Act.put, sp]
                              rfl
                             refine done_ (done_of HT_.out (by kernel_rfl)) ?_
                             obtain ⟨Ao63, co63, eo63⟩ := Kd.R_slice HO571.out
                             subst eo63
                             try go_wp2_with (first | ((with_reducible refine gate_callee (f := 17) rfl ?_); refine goesL_ (some 108) rfl rfl Try.func17 (by kernel_rfl) rfl #[.slice A0 y530.length c0, .slice Ao63 y569.length co63] rfl ags ?_; (with_reducible refine (event_Fits.calls k3 _ _ y530 _ _ y569 t572 t573 _ ?side1 ?side2 ?side3 ?side4 A40.out).mono ?_); (case side1 => exact skC (Kd.C_below HR533.out HB.out)); (case side2 => exact HC533.out); (case side3 => exact skC (Kd.R_reads' HO571.out).2.2); (case side4 => exact (Kd.R_reads' HO571.out).2.1); rintro e w64 ⟨rfl, hb⟩; refine ⟨_, rfl, ?_⟩; have n0_ := asd (Kd.S_below (by (with_reducible repeat (first | apply Kd.S_alloc | apply Kd.S_drewN | apply Kd.S_drew)); exact HO_3.out) hb); have n1_ := asd (Kd.R_below (skR HO_5.out) hb); have n2_ := asd (Kd.R_below (skR HO548.out) hb); have n3_ := asd (Kd.R_below (skR HO571.out) hb); have n4_ := asd (Kd.C_below (by repeat (first | (with_reducible exact HR561.out) | (with_reducible refine Kd.C_alloc ?_ _) | (with_reducible refine Kd.C_drewN ?_ _) | (with_reducible refine Kd.C_drew ?_) | exact HR561.out)) hb); have n5_ := asd (Kd.C_below (by repeat (first | (with_reducible exact HR568.out) | (with_reducible refine Kd.C_alloc ?_ _) | (with_reducible refine Kd.C_drewN ?_ _) | (with_reducible refine Kd.C_drew ?_) | exact HR568.out)) hb); have n6_ := asd (below_step (skB HB.out) hb); clear HO_3; clear HO_5; clear HO548; clear HO571; clear HR561; clear HR568; clear HB; have HO_3 := n0_; have HO_5 := n1_; have HO548 := n2_; have HO571 := n3_; have HR561 := n4_; have HR568 := n5_; have HB := n6_; clear n0_ n1_ n2_ n3_ n4_ n5_ n6_; (try clear hb); (try clear hb2); (try clear hk); (try clear hi); have p574 : 0 ≤ (x8_3 : Int) := dt; have q574 : x8_3 < (t534.length : Int) := dt; obtain ⟨ad574, A574_8, c574_8, e574, hx574_0, hx574_1, hx574_2, hx574_3, hx574_4, hx574_5, hx574_6, hx574_7, hx574_8, hx574_9, hx574_10, hl574_8, hi574_8⟩ := at_T38 (Kd.S_reads' HO_3.out).2.2 x8_3 p574 q574; cases e574; obtain ⟨ce574, hce574, hMe574, hcc574⟩ := Kd.S_get HO_3.out z38 x8_3 p574 (by first | exact q574 | exact dt | (have e_ := (Kd.S_reads' HO_3.out).1; omega)); obtain ⟨ve574_8, rfl, ge574_8⟩ := k38_openM hMe574; have hv574_8 := hcc574 8 _ rfl; rw [add_field _ _ 8 (by omega)] at hv574_8; replace hv574_8 := Option.some.inj (hv574_8.symm.trans hx574_8); rw [hv574_8] at ge574_8; have HL574_8 := asd (show Kd.R k70 70 _ _ _ _ ((J38 t534 x8_3).f2.f3) from ge574_8); clear hv574_8 ge574_8; clear hcc574 hce574; have HR574_8 := asd hi574_8; have HC574_8 := asd hl574_8; clear hi574_8 hl574_8; replace p574 := eq_true p574; replace q574 := eq_true q574))
                             (try simp only [← hl5_3])
                             go_roundg k3
                             case measure => have := HK1.out; have := HJ16.out; have := HK3.out; omega
                             case rel => exact ⟨(x5_3), (ji28), (by first | rfl | (simp; done) | (simp only [← hji28] <;> (first | rfl | simp)) | (simp [*]; done)), H', ⟨by have := HK1.out; have := HJ16.out; have := HK3.out; omega⟩, ⟨by (try simp only [hl5_3]); (with_reducible repeat (first | apply Kd.S_alloc | apply Kd.S_drewN | apply Kd.S_drew)); exact HO_3.out⟩, ⟨by (try simp only [hl5_3]); (with_reducible repeat (first | apply Kd.R_alloc | apply Kd.R_drewN | apply Kd.R_drew)); exact Kd.R_mono HO_5.out (fun _ hk => trivial)⟩, ⟨skB HB.out⟩⟩
                           ·
                            rw [if_neg c45] at H
                            exact absurd H (by simp)
                         ·
                          rw [if_neg c43] at H
                          exact absurd H (by simp)
                        ·
                         rw [if_neg c42] at H
                         exact absurd H (by simp)
                       ·
                        rw [if_neg c41] at H
                        exact absurd H (by simp)
                      ·
                       rw [if_neg c39] at H
                       exact absurd H (by simp)
                     ·
                      rw [if_neg c38] at H
                      exact absurd H (by simp)
                    ·
                     rw [if_neg c36] at H
                     exact absurd H (by simp)
                   ·
                    rw [if_neg c35] at H
                    exact absurd H (by simp)
                  ·
                   rw [if_neg c30] at H
                   exact absurd H (by simp)
                 ·
                  rw [if_neg c29] at H
                  exact absurd H (by simp)
                ·
                 rw [if_neg c26] at H
                 exact absurd H (by simp)
               ·
                rw [if_neg c25] at H
                exact absurd H (by simp)
              ·
               rw [if_neg c24] at H
               exact absurd H (by simp)
             ·
              rw [if_neg c23] at H
              have c23b0 : decide ((wrap64 (x8_3 + 1)) < (t534.length : Int)) = false := decide_eq_false c23
              clear c23
              replace H := Option.bind_eq_some_iff.mp H
              obtain ⟨⟨t575, t576⟩, A650, H⟩ := H
              replace H : ((event_Orders.f y530).bind fun bt579 => ((event_Orders.f t575).bind fun bt581 => ((event_Row.f k3 t575).bind fun bt583 => (if t576 = 0 then (if bt579.2 = 0 then (if bt581.2 = 0 then (if bt583.2 = 0 then (if bt579.1 = bt581.1 then (if bt579.1 ≥ 1 then (some ((bt579.1 == 1) == bt583.1)) else (none)) else (none)) else (none)) else (none)) else (none)) else (none))))) = some r := H
              have A65 := asd A650
              clear A650
              replace H := Option.bind_eq_some_iff.mp H
              obtain ⟨⟨t579, t580⟩, A660, H⟩ := H
              replace H : ((event_Orders.f t575).bind fun bt581 => ((event_Row.f k3 t575).bind fun bt583 => (if t576 = 0 then (if t580 = 0 then (if bt581.2 = 0 then (if bt583.2 = 0 then (if t579 = bt581.1 then (if t579 ≥ 1 then (some ((t579 == 1) == bt583.1)) else (none)) else (none)) else (none)) else (none)) else (none)) else (none)))) = some r := H
              have A66 := asd A660
              clear A660
              replace H := Option.bind_eq_some_iff.mp H
              obtain ⟨⟨t581, t582⟩, A670, H⟩ := H
              replace H : ((event_Row.f k3 t575).bind fun bt583 => (if t576 = 0 then (if t580 = 0 then (if t582 = 0 then (if bt583.2 = 0 then (if t579 = t581 then (if t579 ≥ 1 then (some ((t579 == 1) == bt583.1)) else (none)) else (none)) else (none)) else (none)) else (none)) else (none))) = some r := H
              have A67 := asd A670
              clear A670
              replace H := Option.bind_eq_some_iff.mp H
              obtain ⟨⟨t583, t584⟩, A680, H⟩ := H
              replace H : (if t576 = 0 then (if t580 = 0 then (if t582 = 0 then (if t584 = 0 then (if t579 = t581 then (if t579 ≥ 1 then (some ((t579 == 1) == t583)) else (none)) else (none)) else (none)) else (none)) else (none)) else (none)) = some r := H
              have A68 := asd A680
              clear A680
              by_cases c69 : t576 = 0
              ·
               rw [if_pos c69] at H
               have c69b0 : (t576 == 0) = true := beq_iff_eq.mpr c69
               have c69b1 : (t576 != 0) = false := bne_eq_false_iff_eq.mpr c69
               clear c69
               by_cases c70 : t580 = 0
               ·
                rw [if_pos c70] at H
                have c70b0 : (t580 == 0) = true := beq_iff_eq.mpr c70
                have c70b1 : (t580 != 0) = false := bne_eq_false_iff_eq.mpr c70
                clear c70
                by_cases c71 : t582 = 0
                ·
                 rw [if_pos c71] at H
                 have c71b0 : (t582 == 0) = true := beq_iff_eq.mpr c71
                 have c71b1 : (t582 != 0) = false := bne_eq_false_iff_eq.mpr c71
                 clear c71
                 by_cases c72 : t584 = 0
                 ·
                  rw [if_pos c72] at H
                  have c72b0 : (t584 == 0) = true := beq_iff_eq.mpr c72
                  have c72b1 : (t584 != 0) = false := bne_eq_false_iff_eq.mpr c72
                  clear c72
                  by_cases c73 : t579 = t581
                  ·
                   rw [if_pos c73] at H
                   have c73b0 : (t579 == t581) = true := beq_iff_eq.mpr c73
                   have c73b1 : (t579 != t581) = false := bne_eq_false_iff_eq.mpr c73
                   clear c73
                   by_cases c74 : t579 ≥ 1
                   ·
                    rw [if_pos c74] at H
                    have c74b0 : decide (1 ≤ t579) = true := decide_eq_true c74
                    clear c74
                    obtain rfl := Option.some.inj H
                    go_wp2_with (first | ((with_reducible refine gate_callee (f := 34) rfl ?_); refine goesL_ (some 138) rfl rfl Try.func34 (by kernel_rfl) rfl #[.slice A0 y530.length c0] rfl ags ?_; (with_reducible refine (event_Done.calls _ _ y530 t575 t576 _ ?side1 ?side2 A65.out).mono ?_); (case side1 => exact skC (Kd.C_below HR533.out HB.out)); (case side2 => exact HC533.out); rintro e w75 ⟨v577, rfl, ho0, hb⟩; refine ⟨_, rfl, ?_⟩; have n0_ := asd (Kd.S_below (by (with_reducible repeat (first | apply Kd.S_alloc | apply Kd.S_drewN | apply Kd.S_drew)); exact HO_3.out) hb); have n1_ := asd (Kd.R_below (skR HO_5.out) hb); have n2_ := asd (Kd.S_lower ho0 (below_size (skB HB.out))); have n3_ := asd (below_step (skB HB.out) hb); clear HO_3; clear HO_5; clear HB; have HO_3 := n0_; have HO_5 := n1_; have HO578 := n2_; have HB := n3_; clear n0_ n1_ n2_ n3_; (try clear hb); (try clear hb2); (try clear hk); (try clear hi); (try clear ho0)) | ((with_reducible refine gate_callee (f := 19) rfl ?_); refine goesL_ (some 143) rfl rfl Try.func19 (by kernel_rfl) rfl #[.slice A0 y530.length c0] rfl ags ?_; (with_reducible refine (event_Orders.calls _ _ y530 t579 t580 _ ?side1 ?side2 A66.out).mono ?_); (case side1 => exact skC (Kd.C_below HR533.out HB.out)); (case side2 => exact HC533.out); rintro e w76 ⟨rfl, hb⟩; refine ⟨_, rfl, ?_⟩; have n0_ := asd (Kd.S_below (by (with_reducible repeat (first | apply Kd.S_alloc | apply Kd.S_drewN | apply Kd.S_drew)); exact HO_3.out) hb); have n1_ := asd (Kd.R_below (skR HO_5.out) hb); have n2_ := asd (Kd.S_below (by (with_reducible repeat (first | apply Kd.S_alloc | apply Kd.S_drewN | apply Kd.S_drew)); exact HO578.out) hb); have n3_ := asd (below_step (skB HB.out) hb); clear HO_3; clear HO_5; clear HO578; clear HB; have HO_3 := n0_; have HO_5 := n1_; have HO578 := n2_; have HB := n3_; clear n0_ n1_ n2_ n3_; (try clear hb); (try clear hb2); (try clear hk); (try clear hi); obtain ⟨Ao77, co77, eo77⟩ := Kd.S_slice HO578.out; subst eo77) | ((with_reducible refine gate_callee (f := 19) rfl ?_); refine goesL_ (some 148) rfl rfl Try.func19 (by kernel_rfl) rfl #[.slice Ao77 t575.length co77] rfl ags ?_; (with_reducible refine (event_Orders.calls _ _ t575 t581 t582 _ ?side1 ?side2 A67.out).mono ?_); (case side1 => exact skC (Kd.S_reads' HO578.out).2.2); (case side2 => exact (Kd.S_reads' HO578.out).2.1); rintro e w78 ⟨rfl, hb⟩; refine ⟨_, rfl, ?_⟩; have n0_ := asd (Kd.S_below (by (with_reducible repeat (first | apply Kd.S_alloc | apply Kd.S_drewN | apply Kd.S_drew)); exact HO_3.out) hb); have n1_ := asd (Kd.R_below (skR HO_5.out) hb); have n2_ := asd (Kd.S_below (by (with_reducible repeat (first | apply Kd.S_alloc | apply Kd.S_drewN | apply Kd.S_drew)); exact HO578.out) hb); have n3_ := asd (below_step (skB HB.out) hb); clear HO_3; clear HO_5; clear HO578; clear HB; have HO_3 := n0_; have HO_5 := n1_; have HO578 := n2_; have HB := n3_; clear n0_ n1_ n2_ n3_; (try clear hb); (try clear hb2); (try clear hk); (try clear hi)) | ((with_reducible refine gate_callee (f := 15) rfl ?_); refine goesL_ (some 153) rfl rfl Try.func15 (by kernel_rfl) rfl #[.slice Ao77 t575.length co77] rfl ags ?_; (with_reducible refine (event_Row.calls k3 _ _ t575 t583 t584 _ ?side1 ?side2 A68.out).mono ?_); (case side1 => exact skC (Kd.S_reads' HO578.out).2.2); (case side2 => exact (Kd.S_reads' HO578.out).2.1); rintro e w79 ⟨rfl, hb⟩; refine ⟨_, rfl, ?_⟩; have n0_ := asd (Kd.S_below (by (with_reducible repeat (first | apply Kd.S_alloc | apply Kd.S_drewN | apply Kd.S_drew)); exact HO_3.out) hb); have n1_ := asd (Kd.R_below (skR HO_5.out) hb); have n2_ := asd (Kd.S_below (by (with_reducible repeat (first | apply Kd.S_alloc | apply Kd.S_drewN | apply Kd.S_drew)); exact HO578.out) hb); have n3_ := asd (below_step (skB HB.out) hb); clear HO_3; clear HO_5; clear HO578; clear HB; have HO_3 := n0_; have HO_5 := n1_; have HO578 := n2_; have HB := n3_; clear n0_ n1_ n2_ n3_; (try clear hb); (try clear hb2); (try clear hk); (try clear hi)))
                    go_ret
                    exact ⟨by first | rfl | (simp [errW_none, errW_some] <;> rfl) | (simp only [← hji4]; first | rfl | (simp [errW_none, errW_some] <;> rfl)) | (simp [*, errW_none, errW_some] <;> rfl), skB HB.out⟩
                   ·
                    rw [if_neg c74] at H
                    exact absurd H (by simp)
                  ·
                   rw [if_neg c73] at H
                   exact absurd H (by simp)
                 ·
                  rw [if_neg c72] at H
                  exact absurd H (by simp)
                ·
                 rw [if_neg c71] at H
                 exact absurd H (by simp)
               ·
                rw [if_neg c70] at H
                exact absurd H (by simp)
              ·
               rw [if_neg c69] at H
               exact absurd H (by simp)
    ·
     rw [if_neg c8] at H
     have c8b0 : (t535 == 0) = false := beq_eq_false_iff_ne.mpr c8
     have c8b1 : (t535 != 0) = true := bne_iff_ne.mpr c8
     obtain rfl := Option.some.inj H
     go_enter Try.func9, Try.ntmps9
     go_wp2_with (first | ((with_reducible refine gate_callee (f := 12) rfl ?_); refine goesL_ (some 25) rfl rfl Try.func12 (by kernel_rfl) rfl #[] rfl ags ?_; (with_reducible refine (larchlaw05_known.calls  true _ A2.out).mono ?_); rintro e w80 ⟨rfl, hb⟩; refine ⟨_, rfl, ?_⟩; have n0_ := asd (below_step (skB HB.out) hb); clear HB; have HB := n0_; clear n0_; (try clear hb); (try clear hb2); (try clear hk); (try clear hi); have q81 : ((ji4) : Int) ≤ ((l0.length : Int) : Int) := dt; obtain ⟨i081, hi081, _, hsz81, _⟩ := info_parts info67; have hroom81 : l0.length ≤ c0 := HC0.out; have hC81 : Kd.C k67 _ A0 l0.length l0 := HR0.out; have hcut81 := cut_to (P := Try.prog) 22 67 .i64 Try.underlying22 hi081 A0 l0.length c0 (ji4) dt q81 hroom81; have hr81 := Kd.C_take (m := ((ji4) : Int).toNat) hC81 (by omega); have hy81 : y530.length = ((ji4) : Int).toNat := (by rw [Ny530.out, List.length_take]; omega); rw [← Ny530.out] at hr81; rw [← hy81] at hcut81; have HR533 := asd hr81; have HC533 := asd (show y530.length ≤ c0 from by omega); clear hr81 hC81 hroom81 hi081 hsz81; have KY81 := asd hy81; clear hy81; replace q81 := eq_true q81) | ((with_reducible refine gate_callee (f := 13) rfl ?_); refine goesL_ (some 34) rfl rfl Try.func13 (by kernel_rfl) rfl #[.slice A0 y530.length c0] rfl ags ?_; (with_reducible refine (event_Calls.calls _ _ y530 t534 t535 _ ?side1 ?side2 A7.out).mono ?_); (case side1 => exact skC (Kd.C_below HR533.out HB.out)); (case side2 => exact HC533.out); rintro e w82 ⟨v536, rfl, ho0, hb⟩; refine ⟨_, rfl, ?_⟩; have n0_ := asd (Kd.S_lower ho0 (below_size (skB HB.out))); have n1_ := asd (below_step (skB HB.out) hb); clear HB; have HO537 := n0_; have HB := n1_; clear n0_ n1_; (try clear hb); (try clear hb2); (try clear hk); (try clear hi); (try clear ho0)))
     go_ret
     exact ⟨by first | rfl | (simp [errW_none, errW_some] <;> rfl) | (simp only [← hji4]; first | rfl | (simp [errW_none, errW_some] <;> rfl)) | (simp [*, errW_none, errW_some] <;> rfl), skB HB.out⟩
   ·
    rw [if_neg c6] at H
    exact absurd H (by simp)
  ·
   rw [if_neg c5] at H
   exact absurd H (by simp)
 ·
  replace c3 := Bool.eq_false_iff.mpr c3
  subst c3
  have H1 : (none) = some r := by rw [if_neg (show ¬ (false = true) by decide)] at H; exact H
  clear H
  have H := H1
  clear H1
  exact absurd H (by simp)
end Go.Proofs.Ytagdkmcgepidoaa.P
