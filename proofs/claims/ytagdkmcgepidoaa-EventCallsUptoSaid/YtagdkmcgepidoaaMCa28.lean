/- P.eventCalls_holds, part 29 of 31: the contracts of the Go functions that the law calls, its own walk, and its plain law, for every input that the statement speaks of. -/
import Derived.Test.YtagdkmcgepidoaaMCa2
import Derived.Test.YtagdkmcgepidoaaMCa12
import Derived.Test.YtagdkmcgepidoaaMCa21
import Derived.Test.YtagdkmcgepidoaaMCa3
import Derived.Test.YtagdkmcgepidoaaMCa4
import Derived.Test.YtagdkmcgepidoaaMCa6
import Derived.Test.YtagdkmcgepidoaaMCa25
import Derived.Test.YtagdkmcgepidoaaMCa20
import Derived.Test.YtagdkmcgepidoaaMCa26
import Derived.Test.YtagdkmcgepidoaaMCa1
set_option linter.unusedVariables false
set_option linter.unusedSimpArgs false
/- F57 -/
namespace Go.Proofs.Ytagdkmcgepidoaa.P
open Go.RowKit Go.Proofs.YtagdkmcgepidoaaW.PrintWords Go.Proofs.YtagdkmcgepidoaaW.PrintLast Go.Proofs.YtagdkmcgepidoaaW.PrintMore
attribute [local go_sem] max2_int min2_int max_two min_two max_three min_three max_four min_four   -- for this text's walks alone
set_option linter.unusedVariables false
set_option linter.unusedSimpArgs false
mutual
def larchlaw05_EventCalls.j0 : Nat → List (S67) → List (S76) → Bool → Option (Bool)
 | 0, _, _, _ => none
 | k + 1, x0, x1, x20 => if x20 = true then (none) else ((larchref05_Calls.f k x0).bind fun bt394 => ((event_Calls.f x0).bind fun bt398 => ((larchlaw05_are.f k bt398.1 bt394.1).bind fun t402 => (if t402 = true then (larchlaw05_EventCalls.j1 k x0 x1 bt398.1 (bt394.2 != bt398.2)) else (larchlaw05_EventCalls.j1 k x0 x1 bt398.1 true)))))
def larchlaw05_EventCalls.j1 : Nat → List (S67) → List (S76) → List (S38) → Bool → Option (Bool)
 | 0, _, _, _, _ => none
 | k + 1, x0, x1, x7, x39 => if x39 = true then (none) else ((larchref05_Events.f k x1).bind fun bt403 => ((larchlaw05_our.f k x1).bind fun t407 => ((event_Events.f t407).bind fun bt410 => ((larchref05_SameEvents.f k bt403.1 bt410.1).bind fun t414 => (if t414 = true then (larchlaw05_EventCalls.j2 k x0 x7 (bt403.2 != bt410.2)) else (larchlaw05_EventCalls.j2 k x0 x7 true))))))
def larchlaw05_EventCalls.j2 : Nat → List (S67) → List (S38) → Bool → Option (Bool)
 | 0, _, _, _ => none
 | k + 1, x0, x7, x59 => if x59 = true then (none) else ((larchref05_Check.f k x0).bind fun t415 => (if t415 = 0 then ((event_Events.f x7).bind fun bt416 => (if bt416.2 = 0 then ((larchref05_SameEvents.f k bt416.1 x0).bind fun t420 => (some t420)) else (none))) else (some true)))
end
def larchlaw05_EventCalls.f (k : Nat) (l0 : List (S67)) (l1 : List (S76)) : Option (Bool) := (larchlaw05_known.f).bind fun t391 => (if t391 = true then ((event_Check.f l0).bind fun t392 => ((larchref05_Check.f k l0).bind fun t393 => (larchlaw05_EventCalls.j0 k l0 l1 (t392 != t393)))) else (larchlaw05_EventCalls.j0 k l0 l1 true))
set_option maxHeartbeats 8000000 in
set_option maxRecDepth 100000 in
theorem larchlaw05_EventCalls.calls (k : Nat) (A0 : Option Addr) (c0 : Nat) (l0 : List (S67)) (A1 : Option Addr) (c1 : Nat) (l1 : List (S76)) (r : Bool) (w : World) (hr0 : Kd.C k67 w A0 l0.length l0) (hc0 : l0.length ≤ c0) (hr1 : Kd.C k76 w A1 l1.length l1) (hc1 : l1.length ≤ c1) (h : larchlaw05_EventCalls.f k l0 l1 = some r) :
  Calls Try.prog 8 #[.slice A0 l0.length c0, .slice A1 l1.length c1] w fun e w' => e = .returned (.bool r) ∧ Below w.heap.size w w' := by
 have HR0 := asd hr0
 have HC0 := asd hc0
 clear hr0 hc0
 have HR1 := asd hr1
 have HC1 := asd hc1
 clear hr1 hc1
 have HB := asd (Below.refl w.heap.size w)
 have H : ((larchlaw05_known.f).bind fun t391 => (if t391 = true then ((event_Check.f l0).bind fun t392 => ((larchref05_Check.f k l0).bind fun t393 => (larchlaw05_EventCalls.j0 k l0 l1 (t392 != t393)))) else (larchlaw05_EventCalls.j0 k l0 l1 true))) = some r := h
 clear h
 have HC3 := asd H
 clear H
 go_enter Try.func8, Try.ntmps8
 go_upto_region 1 with (fail)
 go_cut [20] (fun v20 wc => ∃ (kq : Nat) (x20_2 : Bool), v20 = .bool x20_2 ∧ Aside0 (larchlaw05_EventCalls.j0 kq l0 l1 x20_2 = some r) ∧ Aside0 (kq ≤ k) ∧ Aside0 (Below w.heap.size w wc))
 case first =>
  have H := HC3.out
  clear HC3
  replace H := Option.bind_eq_some_iff.mp H
  obtain ⟨t391, A40, H⟩ := H
  replace H : (if t391 = true then ((event_Check.f l0).bind fun t392 => ((larchref05_Check.f k l0).bind fun t393 => (larchlaw05_EventCalls.j0 k l0 l1 (t392 != t393)))) else (larchlaw05_EventCalls.j0 k l0 l1 true)) = some r := H
  have A4 := asd A40
  clear A40
  by_cases c5 : t391 = true
  ·
   subst c5
   have H1 : ((event_Check.f l0).bind fun t392 => ((larchref05_Check.f k l0).bind fun t393 => (larchlaw05_EventCalls.j0 k l0 l1 (t392 != t393)))) = some r := by rw [if_pos rfl] at H; exact H
   clear H
   have H := H1
   clear H1
   replace H := Option.bind_eq_some_iff.mp H
   obtain ⟨t392, A60, H⟩ := H
   replace H : ((larchref05_Check.f k l0).bind fun t393 => (larchlaw05_EventCalls.j0 k l0 l1 (t392 != t393))) = some r := H
   have A6 := asd A60
   clear A60
   replace H := Option.bind_eq_some_iff.mp H
   obtain ⟨t393, A70, H⟩ := H
   replace H : (larchlaw05_EventCalls.j0 k l0 l1 (t392 != t393)) = some r := H
   have A7 := asd A70
   clear A70
   have H' := asd H
   clear H
   go_wp2_with (first | ((with_reducible refine gate_callee (f := 12) rfl ?_); refine goesL_ (some 12) rfl rfl Try.func12 (by kernel_rfl) rfl #[] rfl ags ?_; (with_reducible refine (larchlaw05_known.calls  true _ A4.out).mono ?_); rintro e w8 ⟨rfl, hb⟩; refine ⟨_, rfl, ?_⟩; have n0_ := asd (below_step (skB HB.out) hb); clear HB; have HB := n0_; clear n0_; (try clear hb); (try clear hb2); (try clear hk); (try clear hi)) | (go_at_call 30; (with_reducible refine (event_Check.calls _ _ l0 t392 _ ?side1 ?side2 A6.out).mono ?_); (case side1 => exact skC (Kd.C_below HR0.out HB.out)); (case side2 => exact HC0.out); rintro e w9 ⟨rfl, hb⟩; have n0_ := asd (below_step (skB HB.out) hb); clear HB; have HB := n0_; clear n0_; (try clear hb); (try clear hb2); (try clear hk); (try clear hi)) | (go_at_call 37; (with_reducible refine (larchref05_Check.calls k _ _ l0 t393 _ ?side1 ?side2 A7.out).mono ?_); (case side1 => exact skC (Kd.C_below HR0.out HB.out)); (case side2 => exact HC0.out); rintro e w10 ⟨rfl, hb⟩; have n0_ := asd (below_step (skB HB.out) hb); clear HB; have HB := n0_; clear n0_; (try clear hb); (try clear hb2); (try clear hk); (try clear hi)))
   go_meet
   case rel => exact ⟨_, ((t392 != t393)), rs, H', ⟨by first | omega | exact Nat.le_refl _⟩, ⟨skB HB.out⟩⟩
  ·
   replace c5 := Bool.eq_false_iff.mpr c5
   subst c5
   have H1 : (larchlaw05_EventCalls.j0 k l0 l1 true) = some r := by rw [if_neg (show ¬ (false = true) by decide)] at H; exact H
   clear H
   have H := H1
   clear H1
   have H' := asd H
   clear H
   go_wp2_with (first | ((with_reducible refine gate_callee (f := 12) rfl ?_); refine goesL_ (some 12) rfl rfl Try.func12 (by kernel_rfl) rfl #[] rfl ags ?_; (with_reducible refine (larchlaw05_known.calls  false _ A4.out).mono ?_); rintro e w11 ⟨rfl, hb⟩; refine ⟨_, rfl, ?_⟩; have n0_ := asd (below_step (skB HB.out) hb); clear HB; have HB := n0_; clear n0_; (try clear hb); (try clear hb2); (try clear hk); (try clear hi)))
   go_meet
   case rel => exact ⟨_, (true), rs, H', ⟨by first | omega | exact Nat.le_refl _⟩, ⟨skB HB.out⟩⟩
 case rest =>
  clear HC3
  try clear c1
  try clear p2
  try clear c5
  try clear c8
  obtain ⟨kq, x20_2, rfl, HA, HJ2, HB⟩ := hcut
  cases kq with
  | zero => exact absurd HA.out (by simp [larchlaw05_EventCalls.j0])
  | succ kj2 =>
   have H := HA.out
   clear HA
   simp only [larchlaw05_EventCalls.j0] at H
   by_cases c12 : x20_2 = true
   ·
    subst c12
    have H1 : (none) = some r := by rw [if_pos rfl] at H; exact H
    clear H
    have H := H1
    clear H1
    exact absurd H (by simp)
   ·
    replace c12 := Bool.eq_false_iff.mpr c12
    subst c12
    have H1 : ((larchref05_Calls.f kj2 l0).bind fun bt394 => ((event_Calls.f l0).bind fun bt398 => ((larchlaw05_are.f kj2 bt398.1 bt394.1).bind fun t402 => (if t402 = true then (larchlaw05_EventCalls.j1 kj2 l0 l1 bt398.1 (bt394.2 != bt398.2)) else (larchlaw05_EventCalls.j1 kj2 l0 l1 bt398.1 true))))) = some r := by rw [if_neg (show ¬ (false = true) by decide)] at H; exact H
    clear H
    have H := H1
    clear H1
    replace H := Option.bind_eq_some_iff.mp H
    obtain ⟨⟨t394, t395⟩, A130, H⟩ := H
    replace H : ((event_Calls.f l0).bind fun bt398 => ((larchlaw05_are.f kj2 bt398.1 t394).bind fun t402 => (if t402 = true then (larchlaw05_EventCalls.j1 kj2 l0 l1 bt398.1 (t395 != bt398.2)) else (larchlaw05_EventCalls.j1 kj2 l0 l1 bt398.1 true)))) = some r := H
    have A13 := asd A130
    clear A130
    replace H := Option.bind_eq_some_iff.mp H
    obtain ⟨⟨t398, t399⟩, A140, H⟩ := H
    replace H : ((larchlaw05_are.f kj2 t398 t394).bind fun t402 => (if t402 = true then (larchlaw05_EventCalls.j1 kj2 l0 l1 t398 (t395 != t399)) else (larchlaw05_EventCalls.j1 kj2 l0 l1 t398 true))) = some r := H
    have A14 := asd A140
    clear A140
    have HC15 := asd H
    clear H
    go_upto_region 5 with (first | ((with_reducible refine gate_callee (f := 38) rfl ?_); refine goesL_ (some 23) rfl rfl Try.func38 (by kernel_rfl) rfl #[.slice A0 l0.length c0] rfl ags ?_; (with_reducible refine (larchref05_Calls.calls kj2 _ _ l0 t394 t395 _ ?side1 ?side2 A13.out).mono ?_); (case side1 => exact skC (Kd.C_below HR0.out HB.out)); (case side2 => exact HC0.out); rintro e w16 ⟨v396, rfl, ho0, hb⟩; refine ⟨_, rfl, ?_⟩; have n0_ := asd (Kd.S_lower ho0 (below_size (skB HB.out))); have n1_ := asd (below_step (skB HB.out) hb); clear HB; have HO397 := n0_; have HB := n1_; clear n0_ n1_; (try clear hb); (try clear hb2); (try clear hk); (try clear hi); (try clear ho0)) | ((with_reducible refine gate_callee (f := 13) rfl ?_); refine goesL_ (some 28) rfl rfl Try.func13 (by kernel_rfl) rfl #[.slice A0 l0.length c0] rfl ags ?_; (with_reducible refine (event_Calls.calls _ _ l0 t398 t399 _ ?side1 ?side2 A14.out).mono ?_); (case side1 => exact skC (Kd.C_below HR0.out HB.out)); (case side2 => exact HC0.out); rintro e w17 ⟨v400, rfl, ho0, hb⟩; refine ⟨_, rfl, ?_⟩; have n0_ := asd (Kd.S_below (by (with_reducible repeat (first | apply Kd.S_alloc | apply Kd.S_drewN | apply Kd.S_drew)); exact HO397.out) hb); have n1_ := asd (Kd.S_lower ho0 (below_size (skB HB.out))); have n2_ := asd (below_step (skB HB.out) hb); clear HO397; clear HB; have HO397 := n0_; have HO401 := n1_; have HB := n2_; clear n0_ n1_ n2_; (try clear hb); (try clear hb2); (try clear hk); (try clear hi); (try clear ho0)))
    (try simp only [Act.put, List.setIfInBounds_toArray, List.set_cons_zero, List.set_cons_succ])
    go_cut [39] (fun v39 wc => ∃ (kq : Nat) (x39_14 : Bool), v39 = .bool x39_14 ∧ Aside0 (larchlaw05_EventCalls.j1 kq l0 l1 t398 x39_14 = some r) ∧ Aside0 (kq ≤ kj2) ∧ Aside0 (Kd.S k38 38 wc w.heap.size (fun _ => True) v400 t398) ∧ Aside0 (Below w.heap.size w wc))
    case first =>
     have H := HC15.out
     clear HC15
     replace H := Option.bind_eq_some_iff.mp H
     obtain ⟨t402, A180, H⟩ := H
     replace H : (if t402 = true then (larchlaw05_EventCalls.j1 kj2 l0 l1 t398 (t395 != t399)) else (larchlaw05_EventCalls.j1 kj2 l0 l1 t398 true)) = some r := H
     have A18 := asd A180
     clear A180
     by_cases c19 : t402 = true
     ·
      subst c19
      have H1 : (larchlaw05_EventCalls.j1 kj2 l0 l1 t398 (t395 != t399)) = some r := by rw [if_pos rfl] at H; exact H
      clear H
      have H := H1
      clear H1
      have H' := asd H
      clear H
      obtain ⟨Ao20, co20, eo20⟩ := Kd.S_slice HO401.out
      subst eo20
      obtain ⟨Ao21, co21, eo21⟩ := Kd.S_slice HO397.out
      subst eo21
      go_wp2_with (first | ((with_reducible refine gate_callee (f := 39) rfl ?_); refine goesL_ (some 33) rfl rfl Try.func39 (by kernel_rfl) rfl #[.slice Ao20 t398.length co20, .slice Ao21 t394.length co21] rfl ags ?_; (with_reducible refine (larchlaw05_are.calls kj2 _ _ t398 _ _ t394 true _ ?side1 ?side2 ?side3 ?side4 A18.out).mono ?_); (case side1 => exact skC (Kd.S_reads' HO401.out).2.2); (case side2 => exact (Kd.S_reads' HO401.out).2.1); (case side3 => exact skC (Kd.S_reads' HO397.out).2.2); (case side4 => exact (Kd.S_reads' HO397.out).2.1); rintro e w22 ⟨rfl, hb⟩; refine ⟨_, rfl, ?_⟩; have n0_ := asd (Kd.S_below (by (with_reducible repeat (first | apply Kd.S_alloc | apply Kd.S_drewN | apply Kd.S_drew)); exact HO397.out) hb); have n1_ := asd (Kd.S_below (by (with_reducible repeat (first | apply Kd.S_alloc | apply Kd.S_drewN | apply Kd.S_drew)); exact HO401.out) hb); have n2_ := asd (below_step (skB HB.out) hb); clear HO397; clear HO401; clear HB; have HO397 := n0_; have HO401 := n1_; have HB := n2_; clear n0_ n1_ n2_; (try clear hb); (try clear hb2); (try clear hk); (try clear hi)))
      go_meet
      case rel => exact ⟨_, ((t395 != t399)), rs, H', ⟨by have := HJ2.out; first | omega | exact Nat.le_refl _⟩, ⟨by (with_reducible repeat (first | apply Kd.S_alloc | apply Kd.S_drewN | apply Kd.S_drew)); exact HO401.out⟩, ⟨skB HB.out⟩⟩
     ·
      replace c19 := Bool.eq_false_iff.mpr c19
      subst c19
      have H1 : (larchlaw05_EventCalls.j1 kj2 l0 l1 t398 true) = some r := by rw [if_neg (show ¬ (false = true) by decide)] at H; exact H
      clear H
      have H := H1
      clear H1
      have H' := asd H
      clear H
      obtain ⟨Ao23, co23, eo23⟩ := Kd.S_slice HO401.out
      subst eo23
      obtain ⟨Ao24, co24, eo24⟩ := Kd.S_slice HO397.out
      subst eo24
      go_wp2_with (first | ((with_reducible refine gate_callee (f := 39) rfl ?_); refine goesL_ (some 33) rfl rfl Try.func39 (by kernel_rfl) rfl #[.slice Ao23 t398.length co23, .slice Ao24 t394.length co24] rfl ags ?_; (with_reducible refine (larchlaw05_are.calls kj2 _ _ t398 _ _ t394 false _ ?side1 ?side2 ?side3 ?side4 A18.out).mono ?_); (case side1 => exact skC (Kd.S_reads' HO401.out).2.2); (case side2 => exact (Kd.S_reads' HO401.out).2.1); (case side3 => exact skC (Kd.S_reads' HO397.out).2.2); (case side4 => exact (Kd.S_reads' HO397.out).2.1); rintro e w25 ⟨rfl, hb⟩; refine ⟨_, rfl, ?_⟩; have n0_ := asd (Kd.S_below (by (with_reducible repeat (first | apply Kd.S_alloc | apply Kd.S_drewN | apply Kd.S_drew)); exact HO397.out) hb); have n1_ := asd (Kd.S_below (by (with_reducible repeat (first | apply Kd.S_alloc | apply Kd.S_drewN | apply Kd.S_drew)); exact HO401.out) hb); have n2_ := asd (below_step (skB HB.out) hb); clear HO397; clear HO401; clear HB; have HO397 := n0_; have HO401 := n1_; have HB := n2_; clear n0_ n1_ n2_; (try clear hb); (try clear hb2); (try clear hk); (try clear hi)))
      go_meet
      case rel => exact ⟨_, (true), rs, H', ⟨by have := HJ2.out; first | omega | exact Nat.le_refl _⟩, ⟨by (with_reducible repeat (first | apply Kd.S_alloc | apply Kd.S_drewN | apply Kd.S_drew)); exact HO401.out⟩, ⟨skB HB.out⟩⟩
    case rest =>
     clear HC15
     try clear c1
     try clear p2
     try clear c3
     try clear c5
     try clear c8
     try clear c12
     try clear c13
     try clear c19
     try clear p2
     obtain ⟨kq, x39_14, rfl, HA, HJ14, HO_7, HB⟩ := hcut
     cases kq with
     | zero => exact absurd HA.out (by simp [larchlaw05_EventCalls.j1])
     | succ kj14 =>
      have H := HA.out
      clear HA
      simp only [larchlaw05_EventCalls.j1] at H
      by_cases c26 : x39_14 = true
      ·
       subst c26
       have H1 : (none) = some r := by rw [if_pos rfl] at H; exact H
       clear H
       have H := H1
       clear H1
       exact absurd H (by simp)
      ·
       replace c26 := Bool.eq_false_iff.mpr c26
       subst c26
       have H1 : ((larchref05_Events.f kj14 l1).bind fun bt403 => ((larchlaw05_our.f kj14 l1).bind fun t407 => ((event_Events.f t407).bind fun bt410 => ((larchref05_SameEvents.f kj14 bt403.1 bt410.1).bind fun t414 => (if t414 = true then (larchlaw05_EventCalls.j2 kj14 l0 t398 (bt403.2 != bt410.2)) else (larchlaw05_EventCalls.j2 kj14 l0 t398 true)))))) = some r := by rw [if_neg (show ¬ (false = true) by decide)] at H; exact H
       clear H
       have H := H1
       clear H1
       replace H := Option.bind_eq_some_iff.mp H
       obtain ⟨⟨t403, t404⟩, A270, H⟩ := H
       replace H : ((larchlaw05_our.f kj14 l1).bind fun t407 => ((event_Events.f t407).bind fun bt410 => ((larchref05_SameEvents.f kj14 t403 bt410.1).bind fun t414 => (if t414 = true then (larchlaw05_EventCalls.j2 kj14 l0 t398 (t404 != bt410.2)) else (larchlaw05_EventCalls.j2 kj14 l0 t398 true))))) = some r := H
       have A27 := asd A270
       clear A270
       replace H := Option.bind_eq_some_iff.mp H
       obtain ⟨t407, A280, H⟩ := H
       replace H : ((event_Events.f t407).bind fun bt410 => ((larchref05_SameEvents.f kj14 t403 bt410.1).bind fun t414 => (if t414 = true then (larchlaw05_EventCalls.j2 kj14 l0 t398 (t404 != bt410.2)) else (larchlaw05_EventCalls.j2 kj14 l0 t398 true)))) = some r := H
       have A28 := asd A280
       clear A280
       replace H := Option.bind_eq_some_iff.mp H
       obtain ⟨⟨t410, t411⟩, A290, H⟩ := H
       replace H : ((larchref05_SameEvents.f kj14 t403 t410).bind fun t414 => (if t414 = true then (larchlaw05_EventCalls.j2 kj14 l0 t398 (t404 != t411)) else (larchlaw05_EventCalls.j2 kj14 l0 t398 true))) = some r := H
       have A29 := asd A290
       clear A290
       have HC30 := asd H
       clear H
       go_upto_region 9 with (first | ((with_reducible refine gate_callee (f := 40) rfl ?_); refine goesL_ (some 42) rfl rfl Try.func40 (by kernel_rfl) rfl #[.slice A1 l1.length c1] rfl ags ?_; (with_reducible refine (larchref05_Events.calls kj14 _ _ l1 t403 t404 _ ?side1 ?side2 A27.out).mono ?_); (case side1 => exact skC (Kd.C_below HR1.out HB.out)); (case side2 => exact HC1.out); rintro e w31 ⟨v405, rfl, ho0, hb⟩; refine ⟨_, rfl, ?_⟩; have n0_ := asd (Kd.S_below (by (with_reducible repeat (first | apply Kd.S_alloc | apply Kd.S_drewN | apply Kd.S_drew)); exact HO_7.out) hb); have n1_ := asd (Kd.S_lower ho0 (below_size (skB HB.out))); have n2_ := asd (below_step (skB HB.out) hb); clear HO_7; clear HB; have HO_7 := n0_; have HO406 := n1_; have HB := n2_; clear n0_ n1_ n2_; (try clear hb); (try clear hb2); (try clear hk); (try clear hi); (try clear ho0)) | ((with_reducible refine gate_callee (f := 42) rfl ?_); refine goesL_ (some 47) rfl rfl Try.func42 (by kernel_rfl) rfl #[.slice A1 l1.length c1] rfl ags ?_; (with_reducible refine (larchlaw05_our.calls kj14 _ _ l1 t407 _ ?side1 ?side2 A28.out).mono ?_); (case side1 => exact skC (Kd.C_below HR1.out HB.out)); (case side2 => exact HC1.out); rintro e w32 ⟨v408, rfl, ho0, hb⟩; refine ⟨_, rfl, ?_⟩; have n0_ := asd (Kd.S_elder' (by (with_reducible repeat (first | apply Kd.S_alloc | apply Kd.S_drewN | apply Kd.S_drew)); exact HO_7.out) (Kd.S_base ho0) hb); have n1_ := asd (Kd.S_below (by (with_reducible repeat (first | apply Kd.S_alloc | apply Kd.S_drewN | apply Kd.S_drew)); exact HO406.out) hb); have n2_ := asd (Kd.S_lower (Kd.S_new' ho0 (Kd.S_lt (by (with_reducible repeat (first | apply Kd.S_alloc | apply Kd.S_drewN | apply Kd.S_drew)); exact HO_7.out))) (below_size (skB HB.out))); have n3_ := asd (below_step (skB HB.out) hb); clear HO_7; clear HO406; clear HB; have HO_7 := n0_; have HO406 := n1_; have HO409 := n2_; have HB := n3_; clear n0_ n1_ n2_ n3_; (try clear hb); (try clear hb2); (try clear hk); (try clear hi); (try clear ho0); obtain ⟨Ao33, co33, eo33⟩ := Kd.S_slice HO409.out; subst eo33) | ((with_reducible refine gate_callee (f := 41) rfl ?_); refine goesL_ (some 48) rfl rfl Try.func41 (by kernel_rfl) rfl #[.slice Ao33 t407.length co33] rfl ags ?_; (with_reducible refine (event_Events.calls _ _ t407 t410 t411 _ ?side1 ?side2 A29.out).mono ?_); (case side1 => exact skC (Kd.S_reads' HO409.out).2.2); (case side2 => exact (Kd.S_reads' HO409.out).2.1); rintro e w34 ⟨v412, rfl, ho0, hb⟩; refine ⟨_, rfl, ?_⟩; have n0_ := asd (Kd.S_below (by (with_reducible repeat (first | apply Kd.S_alloc | apply Kd.S_drewN | apply Kd.S_drew)); exact HO_7.out) hb); have n1_ := asd (Kd.S_elder' (by (with_reducible repeat (first | apply Kd.S_alloc | apply Kd.S_drewN | apply Kd.S_drew)); exact HO406.out) (Kd.S_base ho0) hb); have n2_ := asd (Kd.S_below (by (with_reducible repeat (first | apply Kd.S_alloc | apply Kd.S_drewN | apply Kd.S_drew)); exact HO409.out) hb); have n3_ := asd (Kd.S_lower (Kd.S_new' ho0 (Kd.S_lt (by (with_reducible repeat (first | apply Kd.S_alloc | apply Kd.S_drewN | apply Kd.S_drew)); exact HO406.out))) (below_size (skB HB.out))); have n4_ := asd (below_step (skB HB.out) hb); clear HO_7; clear HO406; clear HO409; clear HB; have HO_7 := n0_; have HO406 := n1_; have HO409 := n2_; have HO413 := n3_; have HB := n4_; clear n0_ n1_ n2_ n3_ n4_; (try clear hb); (try clear hb2); (try clear hk); (try clear hi); (try clear ho0)))
       (try simp only [Act.put, List.setIfInBounds_toArray, List.set_cons_zero, List.set_cons_succ])
       go_cut [59] (fun v59 wc => ∃ (kq : Nat) (x59_29 : Bool), v59 = .bool x59_29 ∧ Aside0 (larchlaw05_EventCalls.j2 kq l0 t398 x59_29 = some r) ∧ Aside0 (kq ≤ kj14) ∧ Aside0 (Kd.S k38 38 wc w.heap.size (fun _ => True) v400 t398) ∧ Aside0 (Below w.heap.size w wc))
       case first =>
        have H := HC30.out
        clear HC30
        replace H := Option.bind_eq_some_iff.mp H
        obtain ⟨t414, A350, H⟩ := H
        replace H : (if t414 = true then (larchlaw05_EventCalls.j2 kj14 l0 t398 (t404 != t411)) else (larchlaw05_EventCalls.j2 kj14 l0 t398 true)) = some r := H
        have A35 := asd A350
        clear A350
        by_cases c36 : t414 = true
        ·
         subst c36
         have H1 : (larchlaw05_EventCalls.j2 kj14 l0 t398 (t404 != t411)) = some r := by rw [if_pos rfl] at H; exact H
         clear H
         have H := H1
         clear H1
         have H' := asd H
         clear H
         obtain ⟨Ao37, co37, eo37⟩ := Kd.S_slice HO406.out
         subst eo37
         obtain ⟨Ao38, co38, eo38⟩ := Kd.S_slice HO413.out
         subst eo38
         go_wp2_with (first | ((with_reducible refine gate_callee (f := 29) rfl ?_); refine goesL_ (some 53) rfl rfl Try.func29 (by kernel_rfl) rfl #[.slice Ao37 t403.length co37, .slice Ao38 t410.length co38] rfl ags ?_; (with_reducible refine (larchref05_SameEvents.calls kj14 _ _ t403 _ _ t410 true _ ?side1 ?side2 ?side3 ?side4 A35.out).mono ?_); (case side1 => exact skC (Kd.S_reads' HO406.out).2.2); (case side2 => exact (Kd.S_reads' HO406.out).2.1); (case side3 => exact skC (Kd.S_reads' HO413.out).2.2); (case side4 => exact (Kd.S_reads' HO413.out).2.1); rintro e w39 ⟨rfl, hb⟩; refine ⟨_, rfl, ?_⟩; have n0_ := asd (Kd.S_below (by (with_reducible repeat (first | apply Kd.S_alloc | apply Kd.S_drewN | apply Kd.S_drew)); exact HO_7.out) hb); have n1_ := asd (Kd.S_below (by (with_reducible repeat (first | apply Kd.S_alloc | apply Kd.S_drewN | apply Kd.S_drew)); exact HO406.out) hb); have n2_ := asd (Kd.S_below (by (with_reducible repeat (first | apply Kd.S_alloc | apply Kd.S_drewN | apply Kd.S_drew)); exact HO409.out) hb); have n3_ := asd (Kd.S_below (by (with_reducible repeat (first | apply Kd.S_alloc | apply Kd.S_drewN | apply Kd.S_drew)); exact HO413.out) hb); have n4_ := asd (below_step (skB HB.out) hb); clear HO_7; clear HO406; clear HO409; clear HO413; clear HB; have HO_7 := n0_; have HO406 := n1_; have HO409 := n2_; have HO413 := n3_; have HB := n4_; clear n0_ n1_ n2_ n3_ n4_; (try clear hb); (try clear hb2); (try clear hk); (try clear hi)))
         go_meet
         case rel => exact ⟨_, ((t404 != t411)), rs, H', ⟨by have := HJ2.out; have := HJ14.out; first | omega | exact Nat.le_refl _⟩, ⟨by (with_reducible repeat (first | apply Kd.S_alloc | apply Kd.S_drewN | apply Kd.S_drew)); exact Kd.S_mono HO_7.out (fun _ hk => trivial)⟩, ⟨skB HB.out⟩⟩
        ·
         replace c36 := Bool.eq_false_iff.mpr c36
         subst c36
         have H1 : (larchlaw05_EventCalls.j2 kj14 l0 t398 true) = some r := by rw [if_neg (show ¬ (false = true) by decide)] at H; exact H
         clear H
         have H := H1
         clear H1
         have H' := asd H
         clear H
         obtain ⟨Ao40, co40, eo40⟩ := Kd.S_slice HO406.out
         subst eo40
         obtain ⟨Ao41, co41, eo41⟩ := Kd.S_slice HO413.out
         subst eo41
         go_wp2_with (first | ((with_reducible refine gate_callee (f := 29) rfl ?_); refine goesL_ (some 53) rfl rfl Try.func29 (by kernel_rfl) rfl #[.slice Ao40 t403.length co40, .slice Ao41 t410.length co41] rfl ags ?_; (with_reducible refine (larchref05_SameEvents.calls kj14 _ _ t403 _ _ t410 false _ ?side1 ?side2 ?side3 ?side4 A35.out).mono ?_); (case side1 => exact skC (Kd.S_reads' HO406.out).2.2); (case side2 => exact (Kd.S_reads' HO406.out).2.1); (case side3 => exact skC (Kd.S_reads' HO413.out).2.2); (case side4 => exact (Kd.S_reads' HO413.out).2.1); rintro e w42 ⟨rfl, hb⟩; refine ⟨_, rfl, ?_⟩; have n0_ := asd (Kd.S_below (by (with_reducible repeat (first | apply Kd.S_alloc | apply Kd.S_drewN | apply Kd.S_drew)); exact HO_7.out) hb); have n1_ := asd (Kd.S_below (by (with_reducible repeat (first | apply Kd.S_alloc | apply Kd.S_drewN | apply Kd.S_drew)); exact HO406.out) hb); have n2_ := asd (Kd.S_below (by (with_reducible repeat (first | apply Kd.S_alloc | apply Kd.S_drewN | apply Kd.S_drew)); exact HO409.out) hb); have n3_ := asd (Kd.S_below (by (with_reducible repeat (first | apply Kd.S_alloc | apply Kd.S_drewN | apply Kd.S_drew)); exact HO413.out) hb); have n4_ := asd (below_step (skB HB.out) hb); clear HO_7; clear HO406; clear HO409; clear HO413; clear HB; have HO_7 := n0_; have HO406 := n1_; have HO409 := n2_; have HO413 := n3_; have HB := n4_; clear n0_ n1_ n2_ n3_ n4_; (try clear hb); (try clear hb2); (try clear hk); (try clear hi)))
         go_meet
         case rel => exact ⟨_, (true), rs, H', ⟨by have := HJ2.out; have := HJ14.out; first | omega | exact Nat.le_refl _⟩, ⟨by (with_reducible repeat (first | apply Kd.S_alloc | apply Kd.S_drewN | apply Kd.S_drew)); exact Kd.S_mono HO_7.out (fun _ hk => trivial)⟩, ⟨skB HB.out⟩⟩
       case rest =>
        clear HC30
        try clear c1
        try clear c2
        try clear p2
        try clear c3
        try clear c4
        try clear c5
        try clear c8
        try clear c12
        try clear c13
        try clear c19
        try clear c26
        try clear c29
        try clear c36
        try clear c38
        try clear c39
        try clear c40
        try clear c41
        try clear c42
        try clear p2
        obtain ⟨kq, x59_29, rfl, HA, HJ29, HO_7, HB⟩ := hcut
        cases kq with
        | zero => exact absurd HA.out (by simp [larchlaw05_EventCalls.j2])
        | succ kj29 =>
         have H := HA.out
         clear HA
         simp only [larchlaw05_EventCalls.j2] at H
         by_cases c43 : x59_29 = true
         ·
          subst c43
          have H1 : (none) = some r := by rw [if_pos rfl] at H; exact H
          clear H
          have H := H1
          clear H1
          exact absurd H (by simp)
         ·
          replace c43 := Bool.eq_false_iff.mpr c43
          subst c43
          have H1 : ((larchref05_Check.f kj29 l0).bind fun t415 => (if t415 = 0 then ((event_Events.f t398).bind fun bt416 => (if bt416.2 = 0 then ((larchref05_SameEvents.f kj29 bt416.1 l0).bind fun t420 => (some t420)) else (none))) else (some true))) = some r := by rw [if_neg (show ¬ (false = true) by decide)] at H; exact H
          clear H
          have H := H1
          clear H1
          replace H := Option.bind_eq_some_iff.mp H
          obtain ⟨t415, A440, H⟩ := H
          replace H : (if t415 = 0 then ((event_Events.f t398).bind fun bt416 => (if bt416.2 = 0 then ((larchref05_SameEvents.f kj29 bt416.1 l0).bind fun t420 => (some t420)) else (none))) else (some true)) = some r := H
          have A44 := asd A440
          clear A440
          by_cases c45 : t415 = 0
          ·
           rw [if_pos c45] at H
           have c45b0 : (t415 == 0) = true := beq_iff_eq.mpr c45
           have c45b1 : (t415 != 0) = false := bne_eq_false_iff_eq.mpr c45
           clear c45
           replace H := Option.bind_eq_some_iff.mp H
           obtain ⟨⟨t416, t417⟩, A460, H⟩ := H
           replace H : (if t417 = 0 then ((larchref05_SameEvents.f kj29 t416 l0).bind fun t420 => (some t420)) else (none)) = some r := H
           have A46 := asd A460
           clear A460
           by_cases c47 : t417 = 0
           ·
            rw [if_pos c47] at H
            have c47b0 : (t417 == 0) = true := beq_iff_eq.mpr c47
            have c47b1 : (t417 != 0) = false := bne_eq_false_iff_eq.mpr c47
            clear c47
            replace H := Option.bind_eq_some_iff.mp H
            obtain ⟨t420, A480, H⟩ := H
            replace H : (some t420) = some r := H
            have A48 := asd A480
            clear A480
            obtain rfl := Option.some.inj H
            go_wp2_with (first | ((with_reducible refine gate_callee (f := 37) rfl ?_); refine goesL_ (some 61) rfl rfl Try.func37 (by kernel_rfl) rfl #[.slice A0 l0.length c0] rfl ags ?_; (with_reducible refine (larchref05_Check.calls kj29 _ _ l0 t415 _ ?side1 ?side2 A44.out).mono ?_); (case side1 => exact skC (Kd.C_below HR0.out HB.out)); (case side2 => exact HC0.out); rintro e w49 ⟨rfl, hb⟩; refine ⟨_, rfl, ?_⟩; have n0_ := asd (Kd.S_below (by (with_reducible repeat (first | apply Kd.S_alloc | apply Kd.S_drewN | apply Kd.S_drew)); exact HO_7.out) hb); have n1_ := asd (below_step (skB HB.out) hb); clear HO_7; clear HB; have HO_7 := n0_; have HB := n1_; clear n0_ n1_; (try clear hb); (try clear hb2); (try clear hk); (try clear hi); obtain ⟨Ao50, co50, eo50⟩ := Kd.S_slice HO_7.out; subst eo50) | ((with_reducible refine gate_callee (f := 41) rfl ?_); refine goesL_ (some 65) rfl rfl Try.func41 (by kernel_rfl) rfl #[.slice Ao50 t398.length co50] rfl ags ?_; (with_reducible refine (event_Events.calls _ _ t398 t416 t417 _ ?side1 ?side2 A46.out).mono ?_); (case side1 => exact skC (Kd.S_reads' HO_7.out).2.2); (case side2 => exact (Kd.S_reads' HO_7.out).2.1); rintro e w51 ⟨v418, rfl, ho0, hb⟩; refine ⟨_, rfl, ?_⟩; have n0_ := asd (Kd.S_below (by (with_reducible repeat (first | apply Kd.S_alloc | apply Kd.S_drewN | apply Kd.S_drew)); exact HO_7.out) hb); have n1_ := asd (Kd.S_lower ho0 (below_size (skB HB.out))); have n2_ := asd (below_step (skB HB.out) hb); clear HO_7; clear HB; have HO_7 := n0_; have HO419 := n1_; have HB := n2_; clear n0_ n1_ n2_; (try clear hb); (try clear hb2); (try clear hk); (try clear hi); (try clear ho0); obtain ⟨Ao52, co52, eo52⟩ := Kd.S_slice HO419.out; subst eo52) | (go_at_call 29; (with_reducible refine (larchref05_SameEvents.calls kj29 _ _ t416 _ _ l0 t420 _ ?side1 ?side2 ?side3 ?side4 A48.out).mono ?_); (case side1 => exact skC (Kd.S_reads' HO419.out).2.2); (case side2 => exact (Kd.S_reads' HO419.out).2.1); (case side3 => exact skC (Kd.C_below HR0.out HB.out)); (case side4 => exact HC0.out); rintro e w53 ⟨rfl, hb⟩; have n0_ := asd (Kd.S_below (by (with_reducible repeat (first | apply Kd.S_alloc | apply Kd.S_drewN | apply Kd.S_drew)); exact HO_7.out) hb); have n1_ := asd (Kd.S_below (by (with_reducible repeat (first | apply Kd.S_alloc | apply Kd.S_drewN | apply Kd.S_drew)); exact HO419.out) hb); have n2_ := asd (below_step (skB HB.out) hb); clear HO_7; clear HO419; clear HB; have HO_7 := n0_; have HO419 := n1_; have HB := n2_; clear n0_ n1_ n2_; (try clear hb); (try clear hb2); (try clear hk); (try clear hi)))
            go_ret
            exact ⟨re, skB HB.out⟩
           ·
            rw [if_neg c47] at H
            exact absurd H (by simp)
          ·
           rw [if_neg c45] at H
           have c45b0 : (t415 == 0) = false := beq_eq_false_iff_ne.mpr c45
           have c45b1 : (t415 != 0) = true := bne_iff_ne.mpr c45
           obtain rfl := Option.some.inj H
           go_wp2_with (first | ((with_reducible refine gate_callee (f := 37) rfl ?_); refine goesL_ (some 61) rfl rfl Try.func37 (by kernel_rfl) rfl #[.slice A0 l0.length c0] rfl ags ?_; (with_reducible refine (larchref05_Check.calls kj29 _ _ l0 t415 _ ?side1 ?side2 A44.out).mono ?_); (case side1 => exact skC (Kd.C_below HR0.out HB.out)); (case side2 => exact HC0.out); rintro e w54 ⟨rfl, hb⟩; refine ⟨_, rfl, ?_⟩; have n0_ := asd (Kd.S_below (by (with_reducible repeat (first | apply Kd.S_alloc | apply Kd.S_drewN | apply Kd.S_drew)); exact HO_7.out) hb); have n1_ := asd (below_step (skB HB.out) hb); clear HO_7; clear HB; have HO_7 := n0_; have HB := n1_; clear n0_ n1_; (try clear hb); (try clear hb2); (try clear hk); (try clear hi)))
           go_ret
           exact ⟨re, skB HB.out⟩
end Go.Proofs.Ytagdkmcgepidoaa.P
