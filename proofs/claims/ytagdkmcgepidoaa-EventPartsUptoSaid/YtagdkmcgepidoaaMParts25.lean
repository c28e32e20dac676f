/- P.eventParts_holds, part 26 of 29: the contracts of the Go functions that the law calls, its own walk, and its plain law, for every input that the statement speaks of. -/
import Derived.Test.YtagdkmcgepidoaaMParts2
import Derived.Test.YtagdkmcgepidoaaMParts13
import Derived.Test.YtagdkmcgepidoaaMParts4
import Derived.Test.YtagdkmcgepidoaaMParts21
import Derived.Test.YtagdkmcgepidoaaMParts1
import Derived.Test.YtagdkmcgepidoaaMParts19
import Derived.Test.YtagdkmcgepidoaaMParts5
import Derived.Test.YtagdkmcgepidoaaMParts7
import Derived.Test.YtagdkmcgepidoaaMParts18
import Derived.Test.YtagdkmcgepidoaaMParts22
import Derived.Test.YtagdkmcgepidoaaMParts23
set_option linter.unusedVariables false
set_option linter.unusedSimpArgs false
/- F15 -/
namespace Go.Proofs.Ytagdkmcgepidoaa.P
open Go.RowKit Go.Proofs.YtagdkmcgepidoaaW.PrintWords Go.Proofs.YtagdkmcgepidoaaW.PrintLast Go.Proofs.YtagdkmcgepidoaaW.PrintMore
attribute [local go_sem] max2_int min2_int max_two min_two max_three min_three max_four min_four   -- for this text's walks alone
set_option linter.unusedVariables false
set_option linter.unusedSimpArgs false
def larchlaw05_known.f  : Option (Bool) := (larchlaw05_sample.f).bind fun t125 => ((event_Orders.f t125).bind fun bt128 => ((larchlaw05_sample.f).bind fun t130 => ((event_Ahead.f t130 0 1).bind fun bt133 => (if bt128.1 = 2 then (if bt128.2 = 0 then (if bt133.1 = true then (none) else (some (bt133.2 == 0))) else (none)) else (none)))))
set_option maxHeartbeats 8000000 in
set_option maxRecDepth 100000 in
theorem larchlaw05_known.calls  (r : Bool) (w : World) (h : larchlaw05_known.f  = some r) :
  Calls Try.prog 12 #[] w fun e w' => e = .returned (.bool r) ∧ Below w.heap.size w w' := by
 have HB := asd (Below.refl w.heap.size w)
 have H : ((larchlaw05_sample.f).bind fun t125 => ((event_Orders.f t125).bind fun bt128 => ((larchlaw05_sample.f).bind fun t130 => ((event_Ahead.f t130 0 1).bind fun bt133 => (if bt128.1 = 2 then (if bt128.2 = 0 then (if bt133.1 = true then (none) else (some (bt133.2 == 0))) else (none)) else (none)))))) = some r := h
 clear h
 replace H := Option.bind_eq_some_iff.mp H
 obtain ⟨t125, A10, H⟩ := H
 replace H : ((event_Orders.f t125).bind fun bt128 => ((larchlaw05_sample.f).bind fun t130 => ((event_Ahead.f t130 0 1).bind fun bt133 => (if bt128.1 = 2 then (if bt128.2 = 0 then (if bt133.1 = true then (none) else (some (bt133.2 == 0))) else (none)) else (none))))) = some r := H
 have A1 := asd A10
 clear A10
 replace H := Option.bind_eq_some_iff.mp H
 obtain ⟨⟨t128, t129⟩, A20, H⟩ := H
 replace H : ((larchlaw05_sample.f).bind fun t130 => ((event_Ahead.f t130 0 1).bind fun bt133 => (if t128 = 2 then (if t129 = 0 then (if bt133.1 = true then (none) else (some (bt133.2 == 0))) else (none)) else (none)))) = some r := H
 have A2 := asd A20
 clear A20
 replace H := Option.bind_eq_some_iff.mp H
 obtain ⟨t130, A30, H⟩ := H
 replace H : ((event_Ahead.f t130 0 1).bind fun bt133 => (if t128 = 2 then (if t129 = 0 then (if bt133.1 = true then (none) else (some (bt133.2 == 0))) else (none)) else (none))) = some r := H
 have A3 := asd A30
 clear A30
 replace H := Option.bind_eq_some_iff.mp H
 obtain ⟨⟨t133, t134⟩, A40, H⟩ := H
 replace H : (if t128 = 2 then (if t129 = 0 then (if t133 = true then (none) else (some (t134 == 0))) else (none)) else (none)) = some r := H
 have A4 := asd A40
 clear A40
 by_cases c5 : t128 = 2
 ·
  rw [if_pos c5] at H
  have c5b0 : (t128 == 2) = true := beq_iff_eq.mpr c5
  have c5b1 : (t128 != 2) = false := bne_eq_false_iff_eq.mpr c5
  clear c5
  by_cases c6 : t129 = 0
  ·
   rw [if_pos c6] at H
   have c6b0 : (t129 == 0) = true := beq_iff_eq.mpr c6
   have c6b1 : (t129 != 0) = false := bne_eq_false_iff_eq.mpr c6
   clear c6
   by_cases c7 : t133 = true
   ·
    subst c7
    have H1 : (none) = some r := by rw [if_pos rfl] at H; exact H
    clear H
    have H := H1
    clear H1
    exact absurd H (by simp)
   ·
    replace c7 := Bool.eq_false_iff.mpr c7
    subst c7
    have H1 : (some (t134 == 0)) = some r := by rw [if_neg (show ¬ (false = true) by decide)] at H; exact H
    clear H
    have H := H1
    clear H1
    obtain rfl := Option.some.inj H
    go_enter Try.func12, Try.ntmps12
    go_wp2_with (first | ((with_reducible refine gate_callee (f := 45) rfl ?_); refine goesL_ (some 6) rfl rfl Try.func45 (by kernel_rfl) rfl #[] rfl ags ?_; (with_reducible refine (larchlaw05_sample.calls  t125 _ A1.out).mono ?_); rintro e w8 ⟨v126, rfl, ho0, hb⟩; refine ⟨_, rfl, ?_⟩; have n0_ := asd (Kd.S_lower ho0 (below_size (skB HB.out))); have n1_ := asd (below_step (skB HB.out) hb); clear HB; have HO127 := n0_; have HB := n1_; clear n0_ n1_; (try clear hb); (try clear hb2); (try clear hk); (try clear hi); (try clear ho0); obtain ⟨Ao9, co9, eo9⟩ := Kd.S_slice HO127.out; subst eo9) | ((with_reducible refine gate_callee (f := 19) rfl ?_); refine goesL_ (some 7) rfl rfl Try.func19 (by kernel_rfl) rfl #[.slice Ao9 t125.length co9] rfl ags ?_; (with_reducible refine (event_Orders.calls _ _ t125 t128 t129 _ ?side1 ?side2 A2.out).mono ?_); (case side1 => exact skC (Kd.S_reads' HO127.out).2.2); (case side2 => exact (Kd.S_reads' HO127.out).2.1); rintro e w10 ⟨rfl, hb⟩; refine ⟨_, rfl, ?_⟩; have n0_ := asd (Kd.S_below (by (with_reducible repeat (first | apply Kd.S_alloc | apply Kd.S_drewN | apply Kd.S_drew)); exact HO127.out) hb); have n1_ := asd (below_step (skB HB.out) hb); clear HO127; clear HB; have HO127 := n0_; have HB := n1_; clear n0_ n1_; (try clear hb); (try clear hb2); (try clear hk); (try clear hi)) | ((with_reducible refine gate_callee (f := 45) rfl ?_); refine goesL_ (some 11) rfl rfl Try.func45 (by kernel_rfl) rfl #[] rfl ags ?_; (with_reducible refine (larchlaw05_sample.calls  t130 _ A3.out).mono ?_); rintro e w11 ⟨v131, rfl, ho0, hb⟩; refine ⟨_, rfl, ?_⟩; have n0_ := asd (Kd.S_elder' (by (with_reducible repeat (first | apply Kd.S_alloc | apply Kd.S_drewN | apply Kd.S_drew)); exact HO127.out) (Kd.S_base ho0) hb); have n1_ := asd (Kd.S_lower (Kd.S_new' ho0 (Kd.S_lt (by (with_reducible repeat (first | apply Kd.S_alloc | apply Kd.S_drewN | apply Kd.S_drew)); exact HO127.out))) (below_size (skB HB.out))); have n2_ := asd (below_step (skB HB.out) hb); clear HO127; clear HB; have HO127 := n0_; have HO132 := n1_; have HB := n2_; clear n0_ n1_ n2_; (try clear hb); (try clear hb2); (try clear hk); (try clear hi); (try clear ho0); obtain ⟨Ao12, co12, eo12⟩ := Kd.S_slice HO132.out; subst eo12) | ((with_reducible refine gate_callee (f := 14) rfl ?_); refine goesL_ (some 12) rfl rfl Try.func14 (by kernel_rfl) rfl #[.slice Ao12 t130.length co12, .int .i64 0, .int .i64 1] rfl ags ?_; (with_reducible refine (event_Ahead.calls _ _ t130 0 1 false t134 _ ?side1 ?side2 A4.out).mono ?_); (case side1 => exact skC (Kd.S_reads' HO132.out).2.2); (case side2 => exact (Kd.S_reads' HO132.out).2.1); rintro e w13 ⟨rfl, hb⟩; refine ⟨_, rfl, ?_⟩; have n0_ := asd (Kd.S_below (by (with_reducible repeat (first | apply Kd.S_alloc | apply Kd.S_drewN | apply Kd.S_drew)); exact HO127.out) hb); have n1_ := asd (Kd.S_below (by (with_reducible repeat (first | apply Kd.S_alloc | apply Kd.S_drewN | apply Kd.S_drew)); exact HO132.out) hb); have n2_ := asd (below_step (skB HB.out) hb); clear HO127; clear HO132; clear HB; have HO127 := n0_; have HO132 := n1_; have HB := n2_; clear n0_ n1_ n2_; (try clear hb); (try clear hb2); (try clear hk); (try clear hi)))
    go_ret
    exact ⟨re, skB HB.out⟩
  ·
   rw [if_neg c6] at H
   exact absurd H (by simp)
 ·
  rw [if_neg c5] at H
  exact absurd H (by simp)
end Go.Proofs.Ytagdkmcgepidoaa.P
/- F41 -/
namespace Go.Proofs.Ytagdkmcgepidoaa.P
open Go.RowKit Go.Proofs.YtagdkmcgepidoaaW.PrintWords Go.Proofs.YtagdkmcgepidoaaW.PrintLast Go.Proofs.YtagdkmcgepidoaaW.PrintMore
attribute [local go_sem] max2_int min2_int max_two min_two max_three min_three max_four min_four   -- for this text's walks alone
set_option linter.unusedVariables false
set_option linter.unusedSimpArgs false
end Go.Proofs.Ytagdkmcgepidoaa.P
/- F48 -/
namespace Go.Proofs.Ytagdkmcgepidoaa.P
open Go.RowKit Go.Proofs.YtagdkmcgepidoaaW.PrintWords Go.Proofs.YtagdkmcgepidoaaW.PrintLast Go.Proofs.YtagdkmcgepidoaaW.PrintMore
attribute [local go_sem] max2_int min2_int max_two min_two max_three min_three max_four min_four   -- for this text's walks alone
set_option linter.unusedVariables false
set_option linter.unusedSimpArgs false
mutual
def larchlaw05_EventParts.j0 : Nat → List (S67) → Int → Bool → Option (Bool)
 | 0, _, _, _ => none
 | k + 1, x0, x2, x38 => if x38 = true then (none) else ((larchref05_Cut.f k x0 x2).bind fun bt352 => ((event_Cut.f x0 x2).bind fun bt356 => ((larchref05_SameEvents.f k bt352.1 bt356.1).bind fun t360 => (if t360 = true then (if bt352.2 = bt356.2 then ((event_Check.f bt356.1).bind fun t361 => (larchlaw05_EventParts.j1 k x0 (t361 != 0))) else (larchlaw05_EventParts.j1 k x0 true)) else (larchlaw05_EventParts.j1 k x0 true)))))
def larchlaw05_EventParts.j1 : Nat → List (S67) → Bool → Option (Bool)
 | 0, _, _ => none
 | k + 1, x0, x64 => if x64 = true then (none) else ((larchref05_Done.f k x0).bind fun bt362 => ((event_Done.f x0).bind fun bt366 => ((larchref05_SameEvents.f k bt362.1 bt366.1).bind fun t370 => (if t370 = true then (if bt362.2 = bt366.2 then ((event_Check.f bt366.1).bind fun t371 => (some (t371 == 0))) else (none)) else (none)))))
end
def larchlaw05_EventParts.f (k : Nat) (l0 : List (S67)) (a1 : Int) (a2 : Int) : Option (Bool) := (larchlaw05_known.f).bind fun t341 => (if t341 = true then ((larchref05_Of.f k l0 a1).bind fun bt342 => ((event_Of.f l0 a1).bind fun bt346 => ((larchref05_SameEvents.f k bt342.1 bt346.1).bind fun t350 => (if t350 = true then (if bt342.2 = bt346.2 then ((event_Check.f bt346.1).bind fun t351 => (larchlaw05_EventParts.j0 k l0 a2 (t351 != 0))) else (larchlaw05_EventParts.j0 k l0 a2 true)) else (larchlaw05_EventParts.j0 k l0 a2 true))))) else (none))
set_option maxHeartbeats 8000000 in
set_option maxRecDepth 100000 in
theorem larchlaw05_EventParts.calls (k : Nat) (A0 : Option Addr) (c0 : Nat) (l0 : List (S67)) (a1 : Int) (a2 : Int) (r : Bool) (w : World) (hr0 : Kd.C k67 w A0 l0.length l0) (hc0 : l0.length ≤ c0) (h : larchlaw05_EventParts.f k l0 a1 a2 = some r) :
  Calls Try.prog 6 #[.slice A0 l0.length c0, .int .i64 a1, .int .i64 a2] w fun e w' => e = .returned (.bool r) ∧ Below w.heap.size w w' := by
 have HR0 := asd hr0
 have HC0 := asd hc0
 clear hr0 hc0
 have HB := asd (Below.refl w.heap.size w)
 have H : ((larchlaw05_known.f).bind fun t341 => (if t341 = true then ((larchref05_Of.f k l0 a1).bind fun bt342 => ((event_Of.f l0 a1).bind fun bt346 => ((larchref05_SameEvents.f k bt342.1 bt346.1).bind fun t350 => (if t350 = true then (if bt342.2 = bt346.2 then ((event_Check.f bt346.1).bind fun t351 => (larchlaw05_EventParts.j0 k l0 a2 (t351 != 0))) else (larchlaw05_EventParts.j0 k l0 a2 true)) else (larchlaw05_EventParts.j0 k l0 a2 true))))) else (none))) = some r := h
 clear h
 replace H := Option.bind_eq_some_iff.mp H
 obtain ⟨t341, A40, H⟩ := H
 replace H : (if t341 = true then ((larchref05_Of.f k l0 a1).bind fun bt342 => ((event_Of.f l0 a1).bind fun bt346 => ((larchref05_SameEvents.f k bt342.1 bt346.1).bind fun t350 => (if t350 = true then (if bt342.2 = bt346.2 then ((event_Check.f bt346.1).bind fun t351 => (larchlaw05_EventParts.j0 k l0 a2 (t351 != 0))) else (larchlaw05_EventParts.j0 k l0 a2 true)) else (larchlaw05_EventParts.j0 k l0 a2 true))))) else (none)) = some r := H
 have A4 := asd A40
 clear A40
 by_cases c5 : t341 = true
 ·
  subst c5
  have H1 : ((larchref05_Of.f k l0 a1).bind fun bt342 => ((event_Of.f l0 a1).bind fun bt346 => ((larchref05_SameEvents.f k bt342.1 bt346.1).bind fun t350 => (if t350 = true then (if bt342.2 = bt346.2 then ((event_Check.f bt346.1).bind fun t351 => (larchlaw05_EventParts.j0 k l0 a2 (t351 != 0))) else (larchlaw05_EventParts.j0 k l0 a2 true)) else (larchlaw05_EventParts.j0 k l0 a2 true))))) = some r := by rw [if_pos rfl] at H; exact H
  clear H
  have H := H1
  clear H1
  replace H := Option.bind_eq_some_iff.mp H
  obtain ⟨⟨t342, t345⟩, A60, H⟩ := H
  replace H : ((event_Of.f l0 a1).bind fun bt346 => ((larchref05_SameEvents.f k t342 bt346.1).bind fun t350 => (if t350 = true then (if t345 = bt346.2 then ((event_Check.f bt346.1).bind fun t351 => (larchlaw05_EventParts.j0 k l0 a2 (t351 != 0))) else (larchlaw05_EventParts.j0 k l0 a2 true)) else (larchlaw05_EventParts.j0 k l0 a2 true)))) = some r := H
  have A6 := asd A60
  clear A60
  replace H := Option.bind_eq_some_iff.mp H
  obtain ⟨⟨t346, t347⟩, A70, H⟩ := H
  replace H : ((larchref05_SameEvents.f k t342 t346).bind fun t350 => (if t350 = true then (if t345 = t347 then ((event_Check.f t346).bind fun t351 => (larchlaw05_EventParts.j0 k l0 a2 (t351 != 0))) else (larchlaw05_EventParts.j0 k l0 a2 true)) else (larchlaw05_EventParts.j0 k l0 a2 true))) = some r := H
  have A7 := asd A70
  clear A70
  have HC8 := asd H
  clear H
  go_enter Try.func6, Try.ntmps6
  go_upto_region 5 with (first | ((with_reducible refine gate_callee (f := 12) rfl ?_); refine goesL_ (some 11) rfl rfl Try.func12 (by kernel_rfl) rfl #[] rfl ags ?_; (with_reducible refine (larchlaw05_known.calls  true _ A4.out).mono ?_); rintro e w9 ⟨rfl, hb⟩; refine ⟨_, rfl, ?_⟩; have n0_ := asd (below_step (skB HB.out) hb); clear HB; have HB := n0_; clear n0_; (try clear hb); (try clear hb2); (try clear hk); (try clear hi)) | ((with_reducible refine gate_callee (f := 27) rfl ?_); refine goesL_ (some 16) rfl rfl Try.func27 (by kernel_rfl) rfl #[.slice A0 l0.length c0, .int .i64 a1] rfl ags ?_; (with_reducible refine (larchref05_Of.calls k (fun k_ => k_ < w.heap.size) _ _ l0 a1 t342 t345 _ ?side1 A6.out).mono ?_); (case side1 => exact Kd.V_mk HC0.out (Kd.F_below (Kd.C_F k67_heap HR0.out) (skB HB.out))); rintro e w10 ⟨v343, rfl, ho0, hb⟩; refine ⟨_, rfl, ?_⟩; have n0_ := asd (Kd.N_lower (Kd.N_mono (ok' := fun k_ => True) ho0 (fun k_ hk_ => trivial)) (below_size (skB HB.out))); have n1_ := asd (below_step (skB HB.out) hb); clear HB; have HO344 := n0_; have HB := n1_; clear n0_ n1_; (try clear hb); (try clear hb2); (try clear hk); (try clear hi); (try clear ho0)) | ((with_reducible refine gate_callee (f := 28) rfl ?_); refine goesL_ (some 22) rfl rfl Try.func28 (by kernel_rfl) rfl #[.slice A0 l0.length c0, .int .i64 a1] rfl ags ?_; (with_reducible refine (event_Of.calls _ _ l0 a1 t346 t347 _ ?side1 ?side2 A7.out).mono ?_); (case side1 => exact skC (Kd.C_below HR0.out HB.out)); (case side2 => exact HC0.out); rintro e w11 ⟨v348, rfl, ho0, hb⟩; refine ⟨_, rfl, ?_⟩; have n0_ := asd (Kd.N_elder' (by (with_reducible repeat (first | apply Kd.N_alloc | apply Kd.N_drewN | apply Kd.N_drew)); exact HO344.out) (Kd.S_base ho0) hb); have n1_ := asd (Kd.N_lower (Kd.N_mono (ok' := fun k_ => some k_ ≠ (v343 : Value).ownBlock) (Kd.S_N (Kd.S_bound ho0)) (fun k_ hk_ => (Kd.fresh' (Kd.N_lt (by (with_reducible repeat (first | apply Kd.N_alloc | apply Kd.N_drewN | apply Kd.N_drew)); exact HO344.out)) k_ hk_.2.1))) (below_size (skB HB.out))); have n2_ := asd (below_step (skB HB.out) hb); clear HO344; clear HB; have HO344 := n0_; have HO349 := n1_; have HB := n2_; clear n0_ n1_ n2_; (try clear hb); (try clear hb2); (try clear hk); (try clear hi); (try clear ho0)))
  (try simp only [Act.put, List.setIfInBounds_toArray, List.set_cons_zero, List.set_cons_succ])
  go_cut [38] (fun v38 wc => ∃ (kq : Nat) (x38_7 : Bool), v38 = .bool x38_7 ∧ Aside0 (larchlaw05_EventParts.j0 kq l0 a2 x38_7 = some r) ∧ Aside0 (kq ≤ k) ∧ Aside0 (Below w.heap.size w wc))
  case first =>
   have H := HC8.out
   clear HC8
   replace H := Option.bind_eq_some_iff.mp H
   obtain ⟨t350, A120, H⟩ := H
   replace H : (if t350 = true then (if t345 = t347 then ((event_Check.f t346).bind fun t351 => (larchlaw05_EventParts.j0 k l0 a2 (t351 != 0))) else (larchlaw05_EventParts.j0 k l0 a2 true)) else (larchlaw05_EventParts.j0 k l0 a2 true)) = some r := H
   have A12 := asd A120
   clear A120
   by_cases c13 : t350 = true
   ·
    subst c13
    have H1 : (if t345 = t347 then ((event_Check.f t346).bind fun t351 => (larchlaw05_EventParts.j0 k l0 a2 (t351 != 0))) else (larchlaw05_EventParts.j0 k l0 a2 true)) = some r := by rw [if_pos rfl] at H; exact H
    clear H
    have H := H1
    clear H1
    by_cases c14 : t345 = t347
    ·
     rw [if_pos c14] at H
     have c14b0 : (t345 == t347) = true := beq_iff_eq.mpr c14
     have c14b1 : (t345 != t347) = false := bne_eq_false_iff_eq.mpr c14
     clear c14
     (first | rw [c14b0] | (simp only [i64_w, i32_w]; rw [c14b0]) | skip)
     replace H := Option.bind_eq_some_iff.mp H
     obtain ⟨t351, A150, H⟩ := H
     replace H : (larchlaw05_EventParts.j0 k l0 a2 (t351 != 0)) = some r := H
     have A15 := asd A150
     clear A150
     have H' := asd H
     clear H
     obtain ⟨Ao16, co16, eo16⟩ := Kd.N_slice HO344.out
     subst eo16
     obtain ⟨Ao17, co17, eo17⟩ := Kd.N_slice HO349.out
     subst eo17
     go_wp2_with (first | ((with_reducible refine gate_callee (f := 29) rfl ?_); refine goesL_ (some 27) rfl rfl Try.func29 (by kernel_rfl) rfl #[.slice Ao16 t342.length co16, .slice Ao17 t346.length co17] rfl ags ?_; (with_reducible refine (larchref05_SameEvents.calls k _ _ t342 _ _ t346 true _ ?side1 ?side2 ?side3 ?side4 A12.out).mono ?_); (case side1 => exact skC (Kd.N_reads' HO344.out).2.2); (case side2 => exact (Kd.N_reads' HO344.out).2.1); (case side3 => exact skC (Kd.N_reads' HO349.out).2.2); (case side4 => exact (Kd.N_reads' HO349.out).2.1); rintro e w18 ⟨rfl, hb⟩; refine ⟨_, rfl, ?_⟩; have n0_ := asd (Kd.N_below (by (with_reducible repeat (first | apply Kd.N_alloc | apply Kd.N_drewN | apply Kd.N_drew)); exact HO344.out) hb); have n1_ := asd (Kd.N_below (by (with_reducible repeat (first | apply Kd.N_alloc | apply Kd.N_drewN | apply Kd.N_drew)); exact HO349.out) hb); have n2_ := asd (below_step (skB HB.out) hb); clear HO344; clear HO349; clear HB; have HO344 := n0_; have HO349 := n1_; have HB := n2_; clear n0_ n1_ n2_; (try clear hb); (try clear hb2); (try clear hk); (try clear hi)) | (go_at_call 30; (with_reducible refine (event_Check.calls _ _ t346 t351 _ ?side1 ?side2 A15.out).mono ?_); (case side1 => exact skC (Kd.N_reads' HO349.out).2.2); (case side2 => exact (Kd.N_reads' HO349.out).2.1); rintro e w19 ⟨rfl, hb⟩; have n0_ := asd (Kd.N_below (by (with_reducible repeat (first | apply Kd.N_alloc | apply Kd.N_drewN | apply Kd.N_drew)); exact HO344.out) hb); have n1_ := asd (Kd.N_below (by (with_reducible repeat (first | apply Kd.N_alloc | apply Kd.N_drewN | apply Kd.N_drew)); exact HO349.out) hb); have n2_ := asd (below_step (skB HB.out) hb); clear HO344; clear HO349; clear HB; have HO344 := n0_; have HO349 := n1_; have HB := n2_; clear n0_ n1_ n2_; (try clear hb); (try clear hb2); (try clear hk); (try clear hi)))
     go_meet
     case rel => exact ⟨_, ((t351 != 0)), rs, H', ⟨by first | omega | exact Nat.le_refl _⟩, ⟨skB HB.out⟩⟩
    ·
     rw [if_neg c14] at H
     have c14b0 : (t345 == t347) = false := beq_eq_false_iff_ne.mpr c14
     have c14b1 : (t345 != t347) = true := bne_iff_ne.mpr c14
     (first | rw [c14b0] | (simp only [i64_w, i32_w]; rw [c14b0]) | skip)
     have H' := asd H
     clear H
     obtain ⟨Ao20, co20, eo20⟩ := Kd.N_slice HO344.out
     subst eo20
     obtain ⟨Ao21, co21, eo21⟩ := Kd.N_slice HO349.out
     subst eo21
     go_wp2_with (first | ((with_reducible refine gate_callee (f := 29) rfl ?_); refine goesL_ (some 27) rfl rfl Try.func29 (by kernel_rfl) rfl #[.slice Ao20 t342.length co20, .slice Ao21 t346.length co21] rfl ags ?_; (with_reducible refine (larchref05_SameEvents.calls k _ _ t342 _ _ t346 true _ ?side1 ?side2 ?side3 ?side4 A12.out).mono ?_); (case side1 => exact skC (Kd.N_reads' HO344.out).2.2); (case side2 => exact (Kd.N_reads' HO344.out).2.1); (case side3 => exact skC (Kd.N_reads' HO349.out).2.2); (case side4 => exact (Kd.N_reads' HO349.out).2.1); rintro e w22 ⟨rfl, hb⟩; refine ⟨_, rfl, ?_⟩; have n0_ := asd (Kd.N_below (by (with_reducible repeat (first | apply Kd.N_alloc | apply Kd.N_drewN | apply Kd.N_drew)); exact HO344.out) hb); have n1_ := asd (Kd.N_below (by (with_reducible repeat (first | apply Kd.N_alloc | apply Kd.N_drewN | apply Kd.N_drew)); exact HO349.out) hb); have n2_ := asd (below_step (skB HB.out) hb); clear HO344; clear HO349; clear HB; have HO344 := n0_; have HO349 := n1_; have HB := n2_; clear n0_ n1_ n2_; (try clear hb); (try clear hb2); (try clear hk); (try clear hi)))
     go_meet
     case rel => exact ⟨_, (true), rs, H', ⟨by first | omega | exact Nat.le_refl _⟩, ⟨skB HB.out⟩⟩
   ·
    replace c13 := Bool.eq_false_iff.mpr c13
    subst c13
    have H1 : (larchlaw05_EventParts.j0 k l0 a2 true) = some r := by rw [if_neg (show ¬ (false = true) by decide)] at H; exact H
    clear H
    have H := H1
    clear H1
    have H' := asd H
    clear H
    obtain ⟨Ao23, co23, eo23⟩ := Kd.N_slice HO344.out
    subst eo23
    obtain ⟨Ao24, co24, eo24⟩ := Kd.N_slice HO349.out
    subst eo24
    go_wp2_with (first | ((with_reducible refine gate_callee (f := 29) rfl ?_); refine goesL_ (some 27) rfl rfl Try.func29 (by kernel_rfl) rfl #[.slice Ao23 t342.length co23, .slice Ao24 t346.length co24] rfl ags ?_; (with_reducible refine (larchref05_SameEvents.calls k _ _ t342 _ _ t346 false _ ?side1 ?side2 ?side3 ?side4 A12.out).mono ?_); (case side1 => exact skC (Kd.N_reads' HO344.out).2.2); (case side2 => exact (Kd.N_reads' HO344.out).2.1); (case side3 => exact skC (Kd.N_reads' HO349.out).2.2); (case side4 => exact (Kd.N_reads' HO349.out).2.1); rintro e w25 ⟨rfl, hb⟩; refine ⟨_, rfl, ?_⟩; have n0_ := asd (Kd.N_below (by (with_reducible repeat (first | apply Kd.N_alloc | apply Kd.N_drewN | apply Kd.N_drew)); exact HO344.out) hb); have n1_ := asd (Kd.N_below (by (with_reducible repeat (first | apply Kd.N_alloc | apply Kd.N_drewN | apply Kd.N_drew)); exact HO349.out) hb); have n2_ := asd (below_step (skB HB.out) hb); clear HO344; clear HO349; clear HB; have HO344 := n0_; have HO349 := n1_; have HB := n2_; clear n0_ n1_ n2_; (try clear hb); (try clear hb2); (try clear hk); (try clear hi)))
    go_meet
    case rel => exact ⟨_, (true), rs, H', ⟨by first | omega | exact Nat.le_refl _⟩, ⟨skB HB.out⟩⟩
  case rest =>
   clear HC8
   try clear c1
   try clear c2
   try clear p2
   try clear c5
   try clear c6
   try clear c12
   try clear c13
   try clear c14
   try clear c14b0
   try clear c14b1
   obtain ⟨kq, x38_7, rfl, HA, HJ7, HB⟩ := hcut
   cases kq with
   | zero => exact absurd HA.out (by simp [larchlaw05_EventParts.j0])
   | succ kj7 =>
    have H := HA.out
    clear HA
    simp only [larchlaw05_EventParts.j0] at H
    by_cases c26 : x38_7 = true
    ·
     subst c26
     have H1 : (none) = some r := by rw [if_pos rfl] at H; exact H
     clear H
     have H := H1
     clear H1
     exact absurd H (by simp)
    ·
     replace c26 := Bool.eq_false_iff.mpr c26
     subst c26
     have H1 : ((larchref05_Cut.f kj7 l0 a2).bind fun bt352 => ((event_Cut.f l0 a2).bind fun bt356 => ((larchref05_SameEvents.f kj7 bt352.1 bt356.1).bind fun t360 => (if t360 = true then (if bt352.2 = bt356.2 then ((event_Check.f bt356.1).bind fun t361 => (larchlaw05_EventParts.j1 kj7 l0 (t361 != 0))) else (larchlaw05_EventParts.j1 kj7 l0 true)) else (larchlaw05_EventParts.j1 kj7 l0 true))))) = some r := by rw [if_neg (show ¬ (false = true) by decide)] at H; exact H
     clear H
     have H := H1
     clear H1
     replace H := Option.bind_eq_some_iff.mp H
     obtain ⟨⟨t352, t355⟩, A270, H⟩ := H
     replace H : ((event_Cut.f l0 a2).bind fun bt356 => ((larchref05_SameEvents.f kj7 t352 bt356.1).bind fun t360 => (if t360 = true then (if t355 = bt356.2 then ((event_Check.f bt356.1).bind fun t361 => (larchlaw05_EventParts.j1 kj7 l0 (t361 != 0))) else (larchlaw05_EventParts.j1 kj7 l0 true)) else (larchlaw05_EventParts.j1 kj7 l0 true)))) = some r := H
     have A27 := asd A270
     clear A270
     replace H := Option.bind_eq_some_iff.mp H
     obtain ⟨⟨t356, t357⟩, A280, H⟩ := H
     replace H : ((larchref05_SameEvents.f kj7 t352 t356).bind fun t360 => (if t360 = true then (if t355 = t357 then ((event_Check.f t356).bind fun t361 => (larchlaw05_EventParts.j1 kj7 l0 (t361 != 0))) else (larchlaw05_EventParts.j1 kj7 l0 true)) else (larchlaw05_EventParts.j1 kj7 l0 true))) = some r := H
     have A28 := asd A280
     clear A280
     have HC29 := asd H
     clear H
     go_upto_region 9 with (first | ((with_reducible refine gate_callee (f := 31) rfl ?_); refine goesL_ (some 42) rfl rfl Try.func31 (by kernel_rfl) rfl #[.slice A0 l0.length c0, .int .i64 a2] rfl ags ?_; (with_reducible refine (larchref05_Cut.calls kj7 (fun k_ => k_ < w.heap.size) _ _ l0 a2 t352 t355 _ ?side1 A27.out).mono ?_); (case side1 => exact Kd.V_mk HC0.out (Kd.F_below (Kd.C_F k67_heap HR0.out) (skB HB.out))); rintro e w30 ⟨v353, rfl, ho0, hb⟩; refine ⟨_, rfl, ?_⟩; have n0_ := asd (Kd.N_lower (Kd.N_mono (ok' := fun k_ => True) ho0 (fun k_ hk_ => trivial)) (below_size (skB HB.out))); have n1_ := asd (below_step (skB HB.out) hb); clear HB; have HO354 := n0_; have HB := n1_; clear n0_ n1_; (try clear hb); (try clear hb2); (try clear hk); (try clear hi); (try clear ho0)) | ((with_reducible refine gate_callee (f := 32) rfl ?_); refine goesL_ (some 48) rfl rfl Try.func32 (by kernel_rfl) rfl #[.slice A0 l0.length c0, .int .i64 a2] rfl ags ?_; (with_reducible refine (event_Cut.calls _ _ l0 a2 t356 t357 _ ?side1 ?side2 A28.out).mono ?_); (case side1 => exact skC (Kd.C_below HR0.out HB.out)); (case side2 => exact HC0.out); rintro e w31 ⟨v358, rfl, ho0, hb⟩; refine ⟨_, rfl, ?_⟩; have n0_ := asd (Kd.N_elder' (by (with_reducible repeat (first | apply Kd.N_alloc | apply Kd.N_drewN | apply Kd.N_drew)); exact HO354.out) (Kd.S_base ho0) hb); have n1_ := asd (Kd.N_lower (Kd.N_mono (ok' := fun k_ => some k_ ≠ (v353 : Value).ownBlock) (Kd.S_N (Kd.S_bound ho0)) (fun k_ hk_ => (Kd.fresh' (Kd.N_lt (by (with_reducible repeat (first | apply Kd.N_alloc | apply Kd.N_drewN | apply Kd.N_drew)); exact HO354.out)) k_ hk_.2.1))) (below_size (skB HB.out))); have n2_ := asd (below_step (skB HB.out) hb); clear HO354; clear HB; have HO354 := n0_; have HO359 := n1_; have HB := n2_; clear n0_ n1_ n2_; (try clear hb); (try clear hb2); (try clear hk); (try clear hi); (try clear ho0)))
     (try simp only [Act.put, List.setIfInBounds_toArray, List.set_cons_zero, List.set_cons_succ])
     go_cut [64] (fun v64 wc => ∃ (kq : Nat) (x64_28 : Bool), v64 = .bool x64_28 ∧ Aside0 (larchlaw05_EventParts.j1 kq l0 x64_28 = some r) ∧ Aside0 (kq ≤ kj7) ∧ Aside0 (Below w.heap.size w wc))
     case first =>
      have H := HC29.out
      clear HC29
      replace H := Option.bind_eq_some_iff.mp H
      obtain ⟨t360, A320, H⟩ := H
      replace H : (if t360 = true then (if t355 = t357 then ((event_Check.f t356).bind fun t361 => (larchlaw05_EventParts.j1 kj7 l0 (t361 != 0))) else (larchlaw05_EventParts.j1 kj7 l0 true)) else (larchlaw05_EventParts.j1 kj7 l0 true)) = some r := H
      have A32 := asd A320
      clear A320
      by_cases c33 : t360 = true
      ·
       subst c33
       have H1 : (if t355 = t357 then ((event_Check.f t356).bind fun t361 => (larchlaw05_EventParts.j1 kj7 l0 (t361 != 0))) else (larchlaw05_EventParts.j1 kj7 l0 true)) = some r := by rw [if_pos rfl] at H; exact H
       clear H
       have H := H1
       clear H1
       by_cases c34 : t355 = t357
       ·
        rw [if_pos c34] at H
        have c34b0 : (t355 == t357) = true := beq_iff_eq.mpr c34
        have c34b1 : (t355 != t357) = false := bne_eq_false_iff_eq.mpr c34
        clear c34
        (first | rw [c34b0] | (simp only [i64_w, i32_w]; rw [c34b0]) | skip)
        replace H := Option.bind_eq_some_iff.mp H
        obtain ⟨t361, A350, H⟩ := H
        replace H : (larchlaw05_EventParts.j1 kj7 l0 (t361 != 0)) = some r := H
        have A35 := asd A350
        clear A350
        have H' := asd H
        clear H
        obtain ⟨Ao36, co36, eo36⟩ := Kd.N_slice HO354.out
        subst eo36
        obtain ⟨Ao37, co37, eo37⟩ := Kd.N_slice HO359.out
        subst eo37
        go_wp2_with (first | ((with_reducible refine gate_callee (f := 29) rfl ?_); refine goesL_ (some 53) rfl rfl Try.func29 (by kernel_rfl) rfl #[.slice Ao36 t352.length co36, .slice Ao37 t356.length co37] rfl ags ?_; (with_reducible refine (larchref05_SameEvents.calls kj7 _ _ t352 _ _ t356 true _ ?side1 ?side2 ?side3 ?side4 A32.out).mono ?_); (case side1 => exact skC (Kd.N_reads' HO354.out).2.2); (case side2 => exact (Kd.N_reads' HO354.out).2.1); (case side3 => exact skC (Kd.N_reads' HO359.out).2.2); (case side4 => exact (Kd.N_reads' HO359.out).2.1); rintro e w38 ⟨rfl, hb⟩; refine ⟨_, rfl, ?_⟩; have n0_ := asd (Kd.N_below (by (with_reducible repeat (first | apply Kd.N_alloc | apply Kd.N_drewN | apply Kd.N_drew)); exact HO354.out) hb); have n1_ := asd (Kd.N_below (by (with_reducible repeat (first | apply Kd.N_alloc | apply Kd.N_drewN | apply Kd.N_drew)); exact HO359.out) hb); have n2_ := asd (below_step (skB HB.out) hb); clear HO354; clear HO359; clear HB; have HO354 := n0_; have HO359 := n1_; have HB := n2_; clear n0_ n1_ n2_; (try clear hb); (try clear hb2); (try clear hk); (try clear hi)) | (go_at_call 30; (with_reducible refine (event_Check.calls _ _ t356 t361 _ ?side1 ?side2 A35.out).mono ?_); (case side1 => exact skC (Kd.N_reads' HO359.out).2.2); (case side2 => exact (Kd.N_reads' HO359.out).2.1); rintro e w39 ⟨rfl, hb⟩; have n0_ := asd (Kd.N_below (by (with_reducible repeat (first | apply Kd.N_alloc | apply Kd.N_drewN | apply Kd.N_drew)); exact HO354.out) hb); have n1_ := asd (Kd.N_below (by (with_reducible repeat (first | apply Kd.N_alloc | apply Kd.N_drewN | apply Kd.N_drew)); exact HO359.out) hb); have n2_ := asd (below_step (skB HB.out) hb); clear HO354; clear HO359; clear HB; have HO354 := n0_; have HO359 := n1_; have HB := n2_; clear n0_ n1_ n2_; (try clear hb); (try clear hb2); (try clear hk); (try clear hi)))
        go_meet
        case rel => exact ⟨_, ((t361 != 0)), rs, H', ⟨by have := HJ7.out; first | omega | exact Nat.le_refl _⟩, ⟨skB HB.out⟩⟩
       ·
        rw [if_neg c34] at H
        have c34b0 : (t355 == t357) = false := beq_eq_false_iff_ne.mpr c34
        have c34b1 : (t355 != t357) = true := bne_iff_ne.mpr c34
        (first | rw [c34b0] | (simp only [i64_w, i32_w]; rw [c34b0]) | skip)
        have H' := asd H
        clear H
        obtain ⟨Ao40, co40, eo40⟩ := Kd.N_slice HO354.out
        subst eo40
        obtain ⟨Ao41, co41, eo41⟩ := Kd.N_slice HO359.out
        subst eo41
        go_wp2_with (first | ((with_reducible refine gate_callee (f := 29) rfl ?_); refine goesL_ (some 53) rfl rfl Try.func29 (by kernel_rfl) rfl #[.slice Ao40 t352.length co40, .slice Ao41 t356.length co41] rfl ags ?_; (with_reducible refine (larchref05_SameEvents.calls kj7 _ _ t352 _ _ t356 true _ ?side1 ?side2 ?side3 ?side4 A32.out).mono ?_); (case side1 => exact skC (Kd.N_reads' HO354.out).2.2); (case side2 => exact (Kd.N_reads' HO354.out).2.1); (case side3 => exact skC (Kd.N_reads' HO359.out).2.2); (case side4 => exact (Kd.N_reads' HO359.out).2.1); rintro e w42 ⟨rfl, hb⟩; refine ⟨_, rfl, ?_⟩; have n0_ := asd (Kd.N_below (by (with_reducible repeat (first | apply Kd.N_alloc | apply Kd.N_drewN | apply Kd.N_drew)); exact HO354.out) hb); have n1_ := asd (Kd.N_below (by (with_reducible repeat (first | apply Kd.N_alloc | apply Kd.N_drewN | apply Kd.N_drew)); exact HO359.out) hb); have n2_ := asd (below_step (skB HB.out) hb); clear HO354; clear HO359; clear HB; have HO354 := n0_; have HO359 := n1_; have HB := n2_; clear n0_ n1_ n2_; (try clear hb); (try clear hb2); (try clear hk); (try clear hi)))
        go_meet
        case rel => exact ⟨_, (true), rs, H', ⟨by have := HJ7.out; first | omega | exact Nat.le_refl _⟩, ⟨skB HB.out⟩⟩
      ·
       replace c33 := Bool.eq_false_iff.mpr c33
       subst c33
       have H1 : (larchlaw05_EventParts.j1 kj7 l0 true) = some r := by rw [if_neg (show ¬ (false = true) by decide)] at H; exact H
       clear H
       have H := H1
       clear H1
       have H' := asd H
       clear H
       obtain ⟨Ao43, co43, eo43⟩ := Kd.N_slice HO354.out
       subst eo43
       obtain ⟨Ao44, co44, eo44⟩ := Kd.N_slice HO359.out
       subst eo44
       go_wp2_with (first | ((with_reducible refine gate_callee (f := 29) rfl ?_); refine goesL_ (some 53) rfl rfl Try.func29 (by kernel_rfl) rfl #[.slice Ao43 t352.length co43, .slice Ao44 t356.length co44] rfl ags ?_; (with_reducible refine (larchref05_SameEvents.calls kj7 _ _ t352 _ _ t356 false _ ?side1 ?side2 ?side3 ?side4 A32.out).mono ?_); (case side1 => exact skC (Kd.N_reads' HO354.out).2.2); (case side2 => exact (Kd.N_reads' HO354.out).2.1); (case side3 => exact skC (Kd.N_reads' HO359.out).2.2); (case side4 => exact (Kd.N_reads' HO359.out).2.1); rintro e w45 ⟨rfl, hb⟩; refine ⟨_, rfl, ?_⟩; have n0_ := asd (Kd.N_below (by (with_reducible repeat (first | apply Kd.N_alloc | apply Kd.N_drewN | apply Kd.N_drew)); exact HO354.out) hb); have n1_ := asd (Kd.N_below (by (with_reducible repeat (first | apply Kd.N_alloc | apply Kd.N_drewN | apply Kd.N_drew)); exact HO359.out) hb); have n2_ := asd (below_step (skB HB.out) hb); clear HO354; clear HO359; clear HB; have HO354 := n0_; have HO359 := n1_; have HB := n2_; clear n0_ n1_ n2_; (try clear hb); (try clear hb2); (try clear hk); (try clear hi)))
       go_meet
       case rel => exact ⟨_, (true), rs, H', ⟨by have := HJ7.out; first | omega | exact Nat.le_refl _⟩, ⟨skB HB.out⟩⟩
     case rest =>
      clear HC29
      try clear c1
      try clear c2
      try clear p2
      try clear c3
      try clear c5
      try clear c6
      try clear c12
      try clear c13
      try clear c14
      try clear c14b0
      try clear c14b1
      try clear c26
      try clear c27
      try clear c28
      try clear c29
      try clear c31
      try clear c32
      try clear c33
      try clear c34
      try clear c34b0
      try clear c34b1
      try clear p2
      obtain ⟨kq, x64_28, rfl, HA, HJ28, HB⟩ := hcut
      cases kq with
      | zero => exact absurd HA.out (by simp [larchlaw05_EventParts.j1])
      | succ kj28 =>
       have H := HA.out
       clear HA
       simp only [larchlaw05_EventParts.j1] at H
       by_cases c46 : x64_28 = true
       ·
        subst c46
        have H1 : (none) = some r := by rw [if_pos rfl] at H; exact H
        clear H
        have H := H1
        clear H1
        exact absurd H (by simp)
       ·
        replace c46 := Bool.eq_false_iff.mpr c46
        subst c46
        have H1 : ((larchref05_Done.f kj28 l0).bind fun bt362 => ((event_Done.f l0).bind fun bt366 => ((larchref05_SameEvents.f kj28 bt362.1 bt366.1).bind fun t370 => (if t370 = true then (if bt362.2 = bt366.2 then ((event_Check.f bt366.1).bind fun t371 => (some (t371 == 0))) else (none)) else (none))))) = some r := by rw [if_neg (show ¬ (false = true) by decide)] at H; exact H
        clear H
        have H := H1
        clear H1
        replace H := Option.bind_eq_some_iff.mp H
        obtain ⟨⟨t362, t365⟩, A470, H⟩ := H
        replace H : ((event_Done.f l0).bind fun bt366 => ((larchref05_SameEvents.f kj28 t362 bt366.1).bind fun t370 => (if t370 = true then (if t365 = bt366.2 then ((event_Check.f bt366.1).bind fun t371 => (some (t371 == 0))) else (none)) else (none)))) = some r := H
        have A47 := asd A470
        clear A470
        replace H := Option.bind_eq_some_iff.mp H
        obtain ⟨⟨t366, t367⟩, A480, H⟩ := H
        replace H : ((larchref05_SameEvents.f kj28 t362 t366).bind fun t370 => (if t370 = true then (if t365 = t367 then ((event_Check.f t366).bind fun t371 => (some (t371 == 0))) else (none)) else (none))) = some r := H
        have A48 := asd A480
        clear A480
        replace H := Option.bind_eq_some_iff.mp H
        obtain ⟨t370, A490, H⟩ := H
        replace H : (if t370 = true then (if t365 = t367 then ((event_Check.f t366).bind fun t371 => (some (t371 == 0))) else (none)) else (none)) = some r := H
        have A49 := asd A490
        clear A490
        by_cases c50 : t370 = true
        ·
         subst c50
         have H1 : (if t365 = t367 then ((event_Check.f t366).bind fun t371 => (some (t371 == 0))) else (none)) = some r := by rw [if_pos rfl] at H; exact H
         clear H
         have H := H1
         clear H1
         by_cases c51 : t365 = t367
         ·
          rw [if_pos c51] at H
          have c51b0 : (t365 == t367) = true := beq_iff_eq.mpr c51
          have c51b1 : (t365 != t367) = false := bne_eq_false_iff_eq.mpr c51
          clear c51
          replace H := Option.bind_eq_some_iff.mp H
          obtain ⟨t371, A520, H⟩ := H
          replace H : (some (t371 == 0)) = some r := H
          have A52 := asd A520
          clear A520
          obtain rfl := Option.some.inj H
          go_wp2_with (first | ((with_reducible refine gate_callee (f := 33) rfl ?_); refine goesL_ (some 67) rfl rfl Try.func33 (by kernel_rfl) rfl #[.slice A0 l0.length c0] rfl ags ?_; (with_reducible refine (larchref05_Done.calls kj28 (fun k_ => k_ < w.heap.size) _ _ l0 t362 t365 _ ?side1 A47.out).mono ?_); (case side1 => exact Kd.V_mk HC0.out (Kd.F_below (Kd.C_F k67_heap HR0.out) (skB HB.out))); rintro e w53 ⟨v363, rfl, ho0, hb⟩; refine ⟨_, rfl, ?_⟩; have n0_ := asd (Kd.N_lower (Kd.N_mono (ok' := fun k_ => True) ho0 (fun k_ hk_ => trivial)) (below_size (skB HB.out))); have n1_ := asd (below_step (skB HB.out) hb); clear HB; have HO364 := n0_; have HB := n1_; clear n0_ n1_; (try clear hb); (try clear hb2); (try clear hk); (try clear hi); (try clear ho0)) | ((with_reducible refine gate_callee (f := 34) rfl ?_); refine goesL_ (some 72) rfl rfl Try.func34 (by kernel_rfl) rfl #[.slice A0 l0.length c0] rfl ags ?_; (with_reducible refine (event_Done.calls _ _ l0 t366 t367 _ ?side1 ?side2 A48.out).mono ?_); (case side1 => exact skC (Kd.C_below HR0.out HB.out)); (case side2 => exact HC0.out); rintro e w54 ⟨v368, rfl, ho0, hb⟩; refine ⟨_, rfl, ?_⟩; have n0_ := asd (Kd.N_elder' (by (with_reducible repeat (first | apply Kd.N_alloc | apply Kd.N_drewN | apply Kd.N_drew)); exact HO364.out) (Kd.S_base ho0) hb); have n1_ := asd (Kd.N_lower (Kd.N_mono (ok' := fun k_ => some k_ ≠ (v363 : Value).ownBlock) (Kd.S_N (Kd.S_bound ho0)) (fun k_ hk_ => (Kd.fresh' (Kd.N_lt (by (with_reducible repeat (first | apply Kd.N_alloc | apply Kd.N_drewN | apply Kd.N_drew)); exact HO364.out)) k_ hk_.2.1))) (below_size (skB HB.out))); have n2_ := asd (below_step (skB HB.out) hb); clear HO364; clear HB; have HO364 := n0_; have HO369 := n1_; have HB := n2_; clear n0_ n1_ n2_; (try clear hb); (try clear hb2); (try clear hk); (try clear hi); (try clear ho0); obtain ⟨Ao55, co55, eo55⟩ := Kd.N_slice HO364.out; subst eo55; obtain ⟨Ao56, co56, eo56⟩ := Kd.N_slice HO369.out; subst eo56) | ((with_reducible refine gate_callee (f := 29) rfl ?_); refine goesL_ (some 77) rfl rfl Try.func29 (by kernel_rfl) rfl #[.slice Ao55 t362.length co55, .slice Ao56 t366.length co56] rfl ags ?_; (with_reducible refine (larchref05_SameEvents.calls kj28 _ _ t362 _ _ t366 true _ ?side1 ?side2 ?side3 ?side4 A49.out).mono ?_); (case side1 => exact skC (Kd.N_reads' HO364.out).2.2); (case side2 => exact (Kd.N_reads' HO364.out).2.1); (case side3 => exact skC (Kd.N_reads' HO369.out).2.2); (case side4 => exact (Kd.N_reads' HO369.out).2.1); rintro e w57 ⟨rfl, hb⟩; refine ⟨_, rfl, ?_⟩; have n0_ := asd (Kd.N_below (by (with_reducible repeat (first | apply Kd.N_alloc | apply Kd.N_drewN | apply Kd.N_drew)); exact HO364.out) hb); have n1_ := asd (Kd.N_below (by (with_reducible repeat (first | apply Kd.N_alloc | apply Kd.N_drewN | apply Kd.N_drew)); exact HO369.out) hb); have n2_ := asd (below_step (skB HB.out) hb); clear HO364; clear HO369; clear HB; have HO364 := n0_; have HO369 := n1_; have HB := n2_; clear n0_ n1_ n2_; (try clear hb); (try clear hb2); (try clear hk); (try clear hi)) | (go_at_call 30; (with_reducible refine (event_Check.calls _ _ t366 t371 _ ?side1 ?side2 A52.out).mono ?_); (case side1 => exact skC (Kd.N_reads' HO369.out).2.2); (case side2 => exact (Kd.N_reads' HO369.out).2.1); rintro e w58 ⟨rfl, hb⟩; have n0_ := asd (Kd.N_below (by (with_reducible repeat (first | apply Kd.N_alloc | apply Kd.N_drewN | apply Kd.N_drew)); exact HO364.out) hb); have n1_ := asd (Kd.N_below (by (with_reducible repeat (first | apply Kd.N_alloc | apply Kd.N_drewN | apply Kd.N_drew)); exact HO369.out) hb); have n2_ := asd (below_step (skB HB.out) hb); clear HO364; clear HO369; clear HB; have HO364 := n0_; have HO369 := n1_; have HB := n2_; clear n0_ n1_ n2_; (try clear hb); (try clear hb2); (try clear hk); (try clear hi)))
          go_ret
          exact ⟨re, skB HB.out⟩
         ·
          rw [if_neg c51] at H
          exact absurd H (by simp)
        ·
         replace c50 := Bool.eq_false_iff.mpr c50
         subst c50
         have H1 : (none) = some r := by rw [if_neg (show ¬ (false = true) by decide)] at H; exact H
         clear H
         have H := H1
         clear H1
         exact absurd H (by simp)
 ·
  replace c5 := Bool.eq_false_iff.mpr c5
  subst c5
  have H1 : (none) = some r := by rw [if_neg (show ¬ (false = true) by decide)] at H; exact H
  clear H
  have H := H1
  clear H1
  exact absurd H (by simp)
end Go.Proofs.Ytagdkmcgepidoaa.P
