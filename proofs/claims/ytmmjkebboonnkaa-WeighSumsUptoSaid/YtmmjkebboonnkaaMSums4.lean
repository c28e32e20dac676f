/- P.weighSums_holds, part 5 of 24: the contracts of the Go functions that the law calls, its own walk, and its plain law, for every input that the statement speaks of. -/
import Derived.Test.YtmmjkebboonnkaaMSums2
import Derived.Test.YtmmjkebboonnkaaMSums3
import Derived.Test.YtmmjkebboonnkaaMSums1
set_option linter.unusedVariables false
set_option linter.unusedSimpArgs false
/- F51 -/
namespace Go.Proofs.Ytmmjkebboonnkaa.P
open Go.RowKit Go.Proofs.YtmmjkebboonnkaaW.PrintWords Go.Proofs.YtmmjkebboonnkaaW.PrintLast Go.Proofs.YtmmjkebboonnkaaW.PrintMore
attribute [local go_sem] max2_int min2_int max_two min_two max_three min_three max_four min_four   -- for this text's walks alone
set_option linter.unusedVariables false
set_option linter.unusedSimpArgs false
def larchref17_Sums.l0 : Nat → List (S49) → List Int → List Int → List Int → Int → Option (List Int × Int)
 | 0, _, _, _, _, _ => none
 | k + 1, x0, x4, x6, x7, x8 => if x8 < (x4.length : Int) then (if 0 ≤ x8 then (if 0 ≤ (rd x4 x8) then (if (rd x4 x8) < (x0.length : Int) then ((larchref17_leaf.f ((J49 x0 (rd x4 x8)).f0) ((J49 x0 (rd x4 x8)).f1) ((J49 x0 (rd x4 x8)).f2) ((J49 x0 (rd x4 x8)).f3) ((J49 x0 (rd x4 x8)).f4) ((J49 x0 (rd x4 x8)).f5)).bind fun t620 => (if t620 = true then (if (rd x4 x8) < (x6.length : Int) then (if x7.length < 17592186044416 then (larchref17_Sums.l0 k x0 x4 x6 (x7 ++ [rd x6 (rd x4 x8)]) (wrap64 (x8 + 1))) else (none)) else (none)) else (larchref17_Sums.l0 k x0 x4 x6 x7 (wrap64 (x8 + 1))))) else (none)) else (none)) else (none)) else (some (x7, 0))
def larchref17_Sums.f (k : Nat) (l0 : List (S49)) : Option (List Int × Int) := (larchref17_keys.f k l0).bind fun bt611 => (if bt611.2 = 0 then ((larchref17_sums.f k l0 bt611.1).bind fun t615 => (larchref17_Sums.l0 k l0 bt611.1 t615 ([] : List Int) 0)) else (some (([] : List Int), bt611.2)))
set_option maxHeartbeats 8000000 in
set_option maxRecDepth 100000 in
theorem larchref17_Sums.calls (k : Nat) (A0 : Option Addr) (c0 : Nat) (l0 : List (S49)) (r1 : List Int) (r2 : Int) (w : World) (hr0 : Kd.C k49 w A0 l0.length l0) (hc0 : l0.length ≤ c0) (h : larchref17_Sums.f k l0 = some (r1, r2)) :
  Calls Try.prog 29 #[.slice A0 l0.length c0] w fun e w' => ∃ v0_ : Value, e = .returned (.tuple #[v0_, .int .i64 r2]) ∧ Kd.R (Kd.int .i64) 3 w' w.heap.size (fun _ => True) v0_ r1 ∧ Below w.heap.size w w' := by
 have hu49 := Try.underlying49
 have HR0 := asd hr0
 have HC0 := asd hc0
 clear hr0 hc0
 have HB := asd (Below.refl w.heap.size w)
 have H : ((larchref17_keys.f k l0).bind fun bt611 => (if bt611.2 = 0 then ((larchref17_sums.f k l0 bt611.1).bind fun t615 => (larchref17_Sums.l0 k l0 bt611.1 t615 ([] : List Int) 0)) else (some (([] : List Int), bt611.2)))) = some (r1, r2) := h
 clear h
 replace H := Option.bind_eq_some_iff.mp H
 obtain ⟨⟨t611, t612⟩, A20, H⟩ := H
 replace H : (if t612 = 0 then ((larchref17_sums.f k l0 t611).bind fun t615 => (larchref17_Sums.l0 k l0 t611 t615 ([] : List Int) 0)) else (some (([] : List Int), t612))) = some (r1, r2) := H
 have A2 := asd A20
 clear A20
 by_cases c3 : t612 = 0
 ·
  rw [if_pos c3] at H
  have c3b0 : (t612 == 0) = true := beq_iff_eq.mpr c3
  have c3b1 : (t612 != 0) = false := bne_eq_false_iff_eq.mpr c3
  clear c3
  replace H := Option.bind_eq_some_iff.mp H
  obtain ⟨t615, A40, H⟩ := H
  replace H : (larchref17_Sums.l0 k l0 t611 t615 ([] : List Int) 0) = some (r1, r2) := H
  have A4 := asd A40
  clear A40
  have H' := asd H
  clear H
  go_enter Try.func29, Try.ntmps29
  go_wp2_with (first | ((with_reducible refine gate_callee (f := 46) rfl ?_); refine goesL_ (some 11) rfl rfl Try.func46 (by kernel_rfl) rfl #[.slice A0 l0.length c0] rfl ags ?_; (with_reducible refine (larchref17_keys.calls k _ _ l0 t611 t612 _ ?side1 ?side2 A2.out).mono ?_); (case side1 => exact skC HR0.out); (case side2 => exact HC0.out); rintro e w5 ⟨v613, rfl, ho0, hb⟩; refine ⟨_, rfl, ?_⟩; have n0_ := asd (Kd.R_lower ho0 (below_size (skB HB.out))); have n1_ := asd (below_step (skB HB.out) hb); clear HB; have HO614 := n0_; have HB := n1_; clear n0_ n1_; (try clear hb); (try clear hb2); (try clear hk); (try clear hi); (try clear ho0); obtain ⟨Ao6, co6, eo6⟩ := Kd.R_slice HO614.out; subst eo6) | ((with_reducible refine gate_callee (f := 56) rfl ?_); refine goesL_ (some 19) rfl rfl Try.func56 (by kernel_rfl) rfl #[.slice A0 l0.length c0, .slice Ao6 t611.length co6] rfl ags ?_; (with_reducible refine (larchref17_sums.calls k _ _ l0 _ _ t611 t615 _ ?side1 ?side2 ?side3 ?side4 A4.out).mono ?_); (case side1 => exact skC (Kd.C_below HR0.out HB.out)); (case side2 => exact HC0.out); (case side3 => exact skC (Kd.R_reads' HO614.out).2.2); (case side4 => exact (Kd.R_reads' HO614.out).2.1); rintro e w7 ⟨v616, rfl, ho0, hb⟩; refine ⟨_, rfl, ?_⟩; have n0_ := asd (Kd.R_elder' (skR HO614.out) (Kd.R_base ho0) hb); have n1_ := asd (Kd.R_lower (Kd.R_new' ho0 (Kd.R_lt (skR HO614.out))) (below_size (skB HB.out))); have n2_ := asd (below_step (skB HB.out) hb); clear HO614; clear HB; have HO614 := n0_; have HO617 := n1_; have HB := n2_; clear n0_ n1_ n2_; (try clear hb); (try clear hb2); (try clear hk); (try clear hi); (try clear ho0)))
  go_loopg [7, 8] k (fun kq v7 v8 w' => ∃ (x7_1 : List Int) (x8_1 : Int), v8 = .int .i64 x8_1 ∧ Aside0 (larchref17_Sums.l0 kq l0 t611 t615 x7_1 x8_1 = some (r1, r2)) ∧ Aside0 (kq ≤ k) ∧ Aside0 (Kd.R (Kd.int .i64) 3 w' w.heap.size (fun k_ => some k_ ≠ (v616 : Value).ownBlock ∧ some k_ ≠ (v7 : Value).ownBlock) (.slice Ao6 t611.length co6) t611) ∧ Aside0 (Kd.R (Kd.int .i64) 3 w' w.heap.size (fun k_ => some k_ ≠ ((.slice Ao6 t611.length co6) : Value).ownBlock ∧ some k_ ≠ (v7 : Value).ownBlock) v616 t615) ∧ Aside0 (Kd.R (Kd.int .i64) 3 w' w.heap.size (fun k_ => some k_ ≠ ((.slice Ao6 t611.length co6) : Value).ownBlock ∧ some k_ ≠ (v616 : Value).ownBlock) v7 x7_1) ∧ Aside0 (Below w.heap.size w w'))
  case atStart => exact ⟨(([] : List Int)), (0), rs, H', ⟨Nat.le_refl _⟩, ⟨skR (Kd.R_mono HO614.out (fun _ hk => ⟨hk.2, (by simp [Value.ownBlock])⟩))⟩, ⟨skR (Kd.R_mono HO617.out (fun _ hk => ⟨hk.2, (by simp [Value.ownBlock])⟩))⟩, ⟨by first | exact Kd.R_nil _ _ _ _ _ | exact Kd.N_nil _ _ _ _ _ | exact Kd.V_nil _ _ _ _ _ | exact Kd.Q_nil _ _ _ _ _ | exact Kd.S_nil _ _ _ _ _⟩, ⟨skB HB.out⟩⟩
  case round =>
   clear H'
   try clear c2
   try clear p2
   try clear c3
   try clear c3b0
   try clear c3b1
   try clear c4
   try clear c5
   obtain ⟨x7_1, x8_1, rfl, HA, HK1, HO_4, HO_6, HO_7, HB⟩ := hrel
   cases gk with
   | zero => exact absurd HA.out (by simp [larchref17_Sums.l0])
   | succ k1 =>
    have H := HA.out
    clear HA
    simp only [larchref17_Sums.l0] at H
    by_cases c8 : x8_1 < (t611.length : Int)
    ·
     rw [if_pos c8] at H
     have c8b0 : decide (x8_1 < (t611.length : Int)) = true := decide_eq_true c8
     clear c8
     by_cases c9 : 0 ≤ x8_1
     ·
      rw [if_pos c9] at H
      have c9b0 : decide (0 ≤ x8_1) = true := decide_eq_true c9
      clear c9
      by_cases c10 : 0 ≤ (rd t611 x8_1)
      ·
       rw [if_pos c10] at H
       have c10b0 : decide (0 ≤ (rd t611 x8_1)) = true := decide_eq_true c10
       clear c10
       by_cases c11 : (rd t611 x8_1) < (l0.length : Int)
       ·
        rw [if_pos c11] at H
        have c11b0 : decide ((rd t611 x8_1) < (l0.length : Int)) = true := decide_eq_true c11
        clear c11
        replace H := Option.bind_eq_some_iff.mp H
        obtain ⟨t620, A120, H⟩ := H
        replace H : (if t620 = true then (if (rd t611 x8_1) < (t615.length : Int) then (if x7_1.length < 17592186044416 then (larchref17_Sums.l0 k1 l0 t611 t615 (x7_1 ++ [rd t615 (rd t611 x8_1)]) (wrap64 (x8_1 + 1))) else (none)) else (none)) else (larchref17_Sums.l0 k1 l0 t611 t615 x7_1 (wrap64 (x8_1 + 1)))) = some (r1, r2) := H
        have A12 := asd A120
        clear A120
        by_cases c13 : t620 = true
        ·
         subst c13
         have H1 : (if (rd t611 x8_1) < (t615.length : Int) then (if x7_1.length < 17592186044416 then (larchref17_Sums.l0 k1 l0 t611 t615 (x7_1 ++ [rd t615 (rd t611 x8_1)]) (wrap64 (x8_1 + 1))) else (none)) else (none)) = some (r1, r2) := by rw [if_pos rfl] at H; exact H
         clear H
         have H := H1
         clear H1
         by_cases c14 : (rd t611 x8_1) < (t615.length : Int)
         ·
          rw [if_pos c14] at H
          have c14b0 : decide ((rd t611 x8_1) < (t615.length : Int)) = true := decide_eq_true c14
          clear c14
          by_cases c15 : x7_1.length < 17592186044416
          ·
           rw [if_pos c15] at H
           have LMc15 := asd c15
           clear c15
           obtain ⟨y623, hy623⟩ : ∃ y_ : List Int, y_ = (x7_1 ++ [rd t615 (rd t611 x8_1)]) := ⟨_, rfl⟩
           replace H : (larchref17_Sums.l0 k1 l0 t611 t615 y623 (wrap64 (x8_1 + 1))) = some (r1, r2) := by first | (rw [hy623]; with_reducible exact H) | (have H2_ := (Option.bind_some _ _).symm.trans H; rw [hy623]; with_reducible exact H2_) | (have H2_ := (Option.bind_some _ _).symm.trans H; with_reducible exact H2_) | with_reducible exact H | (rw [hy623]; exact H) | exact H
           have Ny623 := asd hy623
           clear hy623
           have H' := asd H
           clear H
           have p618 : 0 ≤ (x8_1 : Int) := dt
           have q618 : x8_1 < (t611.length : Int) := dt
           obtain ⟨ad618, e618, hx618_0⟩ := Kd.at_int (Kd.R_reads' HO_4.out).2.2 x8_1 p618 q618
           cases e618
           replace p618 := eq_true p618
           replace q618 := eq_true q618
           have p619 : 0 ≤ ((rd t611 x8_1) : Int) := dt
           have q619 : (rd t611 x8_1) < (l0.length : Int) := dt
           obtain ⟨ad619, e619, hx619_0, hx619_1, hx619_2, hx619_3, hx619_4, hx619_5⟩ := at_T49 HR0.out (rd t611 x8_1) p619 q619
           cases e619
           replace hx619_0 := skc HB.out hx619_0
           replace hx619_1 := skc HB.out hx619_1
           replace hx619_2 := skc HB.out hx619_2
           replace hx619_3 := skc HB.out hx619_3
           replace hx619_4 := skc HB.out hx619_4
           replace hx619_5 := skc HB.out hx619_5
           replace p619 := eq_true p619
           replace q619 := eq_true q619
           go_wp2_with (first | ((with_reducible refine gate_callee (f := 53) rfl ?_); refine goesL_ (some 33) rfl rfl Try.func53 (by kernel_rfl) rfl #[.agg #[.int .i64 ((J49 l0 (rd t611 x8_1)).f0), .int .i64 ((J49 l0 (rd t611 x8_1)).f1), .int .i64 ((J49 l0 (rd t611 x8_1)).f2), .int .i64 ((J49 l0 (rd t611 x8_1)).f3), .int .i64 ((J49 l0 (rd t611 x8_1)).f4), .int .i64 ((J49 l0 (rd t611 x8_1)).f5)]] rfl ags ?_; (with_reducible refine (larchref17_leaf.calls ((J49 l0 (rd t611 x8_1)).f0) ((J49 l0 (rd t611 x8_1)).f1) ((J49 l0 (rd t611 x8_1)).f2) ((J49 l0 (rd t611 x8_1)).f3) ((J49 l0 (rd t611 x8_1)).f4) ((J49 l0 (rd t611 x8_1)).f5) true _ A12.out).mono ?_); rintro e w16 ⟨rfl, hb⟩; refine ⟨_, rfl, ?_⟩; have n0_ := asd (Kd.R_below (skR HO_4.out) hb); have n1_ := asd (Kd.R_below (skR HO_6.out) hb); have n2_ := asd (Kd.R_below (skR HO_7.out) hb); have n3_ := asd (below_step (skB HB.out) hb); clear HO_4; clear HO_6; clear HO_7; clear HB; have HO_4 := n0_; have HO_6 := n1_; have HO_7 := n2_; have HB := n3_; clear n0_ n1_ n2_ n3_; (try clear hb); (try clear hb2); (try clear hk); (try clear hi); have p621 : 0 ≤ (x8_1 : Int) := dt; have q621 : x8_1 < (t611.length : Int) := dt; obtain ⟨ad621, e621, hx621_0⟩ := Kd.at_int (Kd.R_reads' HO_4.out).2.2 x8_1 p621 q621; obtain rfl : ad618 = ad621 := (by injection e621); replace p621 := eq_true p621; replace q621 := eq_true q621; obtain ⟨Ao17, co17, eo17⟩ := Kd.R_slice HO_6.out; subst eo17; have p622 : 0 ≤ ((rd t611 x8_1) : Int) := dt; have q622 : (rd t611 x8_1) < (t615.length : Int) := dt; obtain ⟨ad622, e622, hx622_0⟩ := Kd.at_int (Kd.R_reads' HO_6.out).2.2 (rd t611 x8_1) p622 q622; cases e622; replace p622 := eq_true p622; replace q622 := eq_true q622) | ((with_reducible refine gate_builtin (b := .append) (xs := #[.tmp 34, .tmp 42]) rfl ?_); at_builtin; refine Kd.R_append (Kd.int .i64) (w0 := w) w.heap.size rfl (.tmp 34) (.tmp 42) 23 3 (.int .i64 0) 8 rfl Try.underlying23 info3 rfl (by decide) (by omega) u7 x7_1 (rd t615 (rd t611 x8_1)) [.int .i64 (rd t615 (rd t611 x8_1))] (fun k_ => some k_ ≠ (.slice (some ad618) t611.length co6 : Value).ownBlock ∧ some k_ ≠ (.slice (some ad622) t615.length co17 : Value).ownBlock) (fun _ => False) rfl rfl ?aP (fun _ hk => hk.elim) ?aF ?aO ?aB ?aS ?aL ?_; (case aP => exact rfl); (case aB => exact (skB HB.out)); (case aF => exact (fun k_ hk => ⟨Kd.fresh' (Kd.R_lt (skR HO_4.out)) k_ hk, Kd.fresh' (Kd.R_lt (skR HO_6.out)) k_ hk⟩)); (case aO => exact (skR HO_7.out)); (case aS => exact (below_size (skB HB.out))); (case aL => have := LMc15.out; omega); intro v624 w18 ho hb hg hat; rw [← Ny623.out] at ho; have n0_ := asd (Kd.R_after (ok := (fun k_ => some k_ ≠ (.slice (some ad622) t615.length co17 : Value).ownBlock)) (skR HO_4.out) hg hat); have n1_ := asd (Kd.R_after (ok := (fun k_ => some k_ ≠ (.slice (some ad618) t611.length co6 : Value).ownBlock)) (skR HO_6.out) hg hat); have n2_ := asd (hb); have n3_ := asd (ho); clear HO_4; clear HO_6; clear HB; clear HO_7; have HO_4 := n0_; have HO_6 := n1_; have HB := n2_; have HO625 := n3_; clear n0_ n1_ n2_ n3_; clear ho hb hg hat))
           go_roundg k1
           case measure => have := HK1.out; omega
           case rel => exact ⟨(y623), (wrap64 (x8_1 + 1)), rs, H', ⟨by have := HK1.out; omega⟩, ⟨skR HO_4.out⟩, ⟨skR HO_6.out⟩, ⟨skR HO625.out⟩, ⟨skB HB.out⟩⟩
          ·
           rw [if_neg c15] at H
           exact absurd H (by simp)
         ·
          rw [if_neg c14] at H
          exact absurd H (by simp)
        ·
         replace c13 := Bool.eq_false_iff.mpr c13
         subst c13
         have H1 : (larchref17_Sums.l0 k1 l0 t611 t615 x7_1 (wrap64 (x8_1 + 1))) = some (r1, r2) := by rw [if_neg (show ¬ (false = true) by decide)] at H; exact H
         clear H
         have H := H1
         clear H1
         have H' := asd H
         clear H
         have p618 : 0 ≤ (x8_1 : Int) := dt
         have q618 : x8_1 < (t611.length : Int) := dt
         obtain ⟨ad618, e618, hx618_0⟩ := Kd.at_int (Kd.R_reads' HO_4.out).2.2 x8_1 p618 q618
         cases e618
         replace p618 := eq_true p618
         replace q618 := eq_true q618
         have p619 : 0 ≤ ((rd t611 x8_1) : Int) := dt
         have q619 : (rd t611 x8_1) < (l0.length : Int) := dt
         obtain ⟨ad619, e619, hx619_0, hx619_1, hx619_2, hx619_3, hx619_4, hx619_5⟩ := at_T49 HR0.out (rd t611 x8_1) p619 q619
         cases e619
         replace hx619_0 := skc HB.out hx619_0
         replace hx619_1 := skc HB.out hx619_1
         replace hx619_2 := skc HB.out hx619_2
         replace hx619_3 := skc HB.out hx619_3
         replace hx619_4 := skc HB.out hx619_4
         replace hx619_5 := skc HB.out hx619_5
         replace p619 := eq_true p619
         replace q619 := eq_true q619
         go_wp2_with (first | ((with_reducible refine gate_callee (f := 53) rfl ?_); refine goesL_ (some 33) rfl rfl Try.func53 (by kernel_rfl) rfl #[.agg #[.int .i64 ((J49 l0 (rd t611 x8_1)).f0), .int .i64 ((J49 l0 (rd t611 x8_1)).f1), .int .i64 ((J49 l0 (rd t611 x8_1)).f2), .int .i64 ((J49 l0 (rd t611 x8_1)).f3), .int .i64 ((J49 l0 (rd t611 x8_1)).f4), .int .i64 ((J49 l0 (rd t611 x8_1)).f5)]] rfl ags ?_; (with_reducible refine (larchref17_leaf.calls ((J49 l0 (rd t611 x8_1)).f0) ((J49 l0 (rd t611 x8_1)).f1) ((J49 l0 (rd t611 x8_1)).f2) ((J49 l0 (rd t611 x8_1)).f3) ((J49 l0 (rd t611 x8_1)).f4) ((J49 l0 (rd t611 x8_1)).f5) false _ A12.out).mono ?_); rintro e w19 ⟨rfl, hb⟩; refine ⟨_, rfl, ?_⟩; have n0_ := asd (Kd.R_below (skR HO_4.out) hb); have n1_ := asd (Kd.R_below (skR HO_6.out) hb); have n2_ := asd (Kd.R_below (skR HO_7.out) hb); have n3_ := asd (below_step (skB HB.out) hb); clear HO_4; clear HO_6; clear HO_7; clear HB; have HO_4 := n0_; have HO_6 := n1_; have HO_7 := n2_; have HB := n3_; clear n0_ n1_ n2_ n3_; (try clear hb); (try clear hb2); (try clear hk); (try clear hi)))
         go_roundg k1
         case measure => have := HK1.out; omega
         case rel => exact ⟨(x7_1), (wrap64 (x8_1 + 1)), rs, H', ⟨by have := HK1.out; omega⟩, ⟨skR HO_4.out⟩, ⟨skR HO_6.out⟩, ⟨skR HO_7.out⟩, ⟨skB HB.out⟩⟩
       ·
        rw [if_neg c11] at H
        exact absurd H (by simp)
      ·
       rw [if_neg c10] at H
       exact absurd H (by simp)
     ·
      rw [if_neg c9] at H
      exact absurd H (by simp)
    ·
     rw [if_neg c8] at H
     have c8b0 : decide (x8_1 < (t611.length : Int)) = false := decide_eq_false c8
     clear c8
     simp only [Option.some.injEq, Prod.mk.injEq] at H
     obtain ⟨rfl, rfl⟩ := H
     go_wp2
     go_ret2
     exact ⟨_, re, skR (Kd.R_mono HO_7.out (fun _ hk => trivial)), skB HB.out⟩
 ·
  rw [if_neg c3] at H
  have c3b0 : (t612 == 0) = false := beq_eq_false_iff_ne.mpr c3
  have c3b1 : (t612 != 0) = true := bne_iff_ne.mpr c3
  simp only [Option.some.injEq, Prod.mk.injEq] at H
  obtain ⟨rfl, rfl⟩ := H
  go_enter Try.func29, Try.ntmps29
  go_wp2_with (first | ((with_reducible refine gate_callee (f := 46) rfl ?_); refine goesL_ (some 11) rfl rfl Try.func46 (by kernel_rfl) rfl #[.slice A0 l0.length c0] rfl ags ?_; (with_reducible refine (larchref17_keys.calls k _ _ l0 t611 t612 _ ?side1 ?side2 A2.out).mono ?_); (case side1 => exact skC HR0.out); (case side2 => exact HC0.out); rintro e w20 ⟨v613, rfl, ho0, hb⟩; refine ⟨_, rfl, ?_⟩; have n0_ := asd (Kd.R_lower ho0 (below_size (skB HB.out))); have n1_ := asd (below_step (skB HB.out) hb); clear HB; have HO614 := n0_; have HB := n1_; clear n0_ n1_; (try clear hb); (try clear hb2); (try clear hk); (try clear hi); (try clear ho0)))
  go_ret2
  exact ⟨_, re, by first | exact Kd.R_nil _ _ _ _ _ | exact Kd.N_nil _ _ _ _ _ | exact Kd.V_nil _ _ _ _ _ | exact Kd.Q_nil _ _ _ _ _ | exact Kd.S_nil _ _ _ _ _, skB HB.out⟩
end Go.Proofs.Ytmmjkebboonnkaa.P
/- F34 -/
namespace Go.Proofs.Ytmmjkebboonnkaa.P
open Go.RowKit Go.Proofs.YtmmjkebboonnkaaW.PrintWords Go.Proofs.YtmmjkebboonnkaaW.PrintLast Go.Proofs.YtmmjkebboonnkaaW.PrintMore
attribute [local go_sem] max2_int min2_int max_two min_two max_three min_three max_four min_four   -- for this text's walks alone
set_option linter.unusedVariables false
set_option linter.unusedSimpArgs false
end Go.Proofs.Ytmmjkebboonnkaa.P
/- F35 -/
namespace Go.Proofs.Ytmmjkebboonnkaa.P
open Go.RowKit Go.Proofs.YtmmjkebboonnkaaW.PrintWords Go.Proofs.YtmmjkebboonnkaaW.PrintLast Go.Proofs.YtmmjkebboonnkaaW.PrintMore
attribute [local go_sem] max2_int min2_int max_two min_two max_three min_three max_four min_four   -- for this text's walks alone
set_option linter.unusedVariables false
set_option linter.unusedSimpArgs false
end Go.Proofs.Ytmmjkebboonnkaa.P
/- F36 -/
namespace Go.Proofs.Ytmmjkebboonnkaa.P
open Go.RowKit Go.Proofs.YtmmjkebboonnkaaW.PrintWords Go.Proofs.YtmmjkebboonnkaaW.PrintLast Go.Proofs.YtmmjkebboonnkaaW.PrintMore
attribute [local go_sem] max2_int min2_int max_two min_two max_three min_three max_four min_four   -- for this text's walks alone
set_option linter.unusedVariables false
set_option linter.unusedSimpArgs false
end Go.Proofs.Ytmmjkebboonnkaa.P
/- F37 -/
namespace Go.Proofs.Ytmmjkebboonnkaa.P
open Go.RowKit Go.Proofs.YtmmjkebboonnkaaW.PrintWords Go.Proofs.YtmmjkebboonnkaaW.PrintLast Go.Proofs.YtmmjkebboonnkaaW.PrintMore
attribute [local go_sem] max2_int min2_int max_two min_two max_three min_three max_four min_four   -- for this text's walks alone
set_option linter.unusedVariables false
set_option linter.unusedSimpArgs false
end Go.Proofs.Ytmmjkebboonnkaa.P
/- F38 -/
namespace Go.Proofs.Ytmmjkebboonnkaa.P
open Go.RowKit Go.Proofs.YtmmjkebboonnkaaW.PrintWords Go.Proofs.YtmmjkebboonnkaaW.PrintLast Go.Proofs.YtmmjkebboonnkaaW.PrintMore
attribute [local go_sem] max2_int min2_int max_two min_two max_three min_three max_four min_four   -- for this text's walks alone
set_option linter.unusedVariables false
set_option linter.unusedSimpArgs false
end Go.Proofs.Ytmmjkebboonnkaa.P
/- F39 -/
namespace Go.Proofs.Ytmmjkebboonnkaa.P
open Go.RowKit Go.Proofs.YtmmjkebboonnkaaW.PrintWords Go.Proofs.YtmmjkebboonnkaaW.PrintLast Go.Proofs.YtmmjkebboonnkaaW.PrintMore
attribute [local go_sem] max2_int min2_int max_two min_two max_three min_three max_four min_four   -- for this text's walks alone
set_option linter.unusedVariables false
set_option linter.unusedSimpArgs false
end Go.Proofs.Ytmmjkebboonnkaa.P
/- F40 -/
namespace Go.Proofs.Ytmmjkebboonnkaa.P
open Go.RowKit Go.Proofs.YtmmjkebboonnkaaW.PrintWords Go.Proofs.YtmmjkebboonnkaaW.PrintLast Go.Proofs.YtmmjkebboonnkaaW.PrintMore
attribute [local go_sem] max2_int min2_int max_two min_two max_three min_three max_four min_four   -- for this text's walks alone
set_option linter.unusedVariables false
set_option linter.unusedSimpArgs false
def larchref17_Leaves.l0 : Nat → List (S49) → List Int → List Int → Int → Option (List Int)
 | 0, _, _, _, _ => none
 | k + 1, x0, x3, x4, x5 => if x5 < (x4.length : Int) then (if 0 ≤ x5 then (if 0 ≤ (rd x4 x5) then (if (rd x4 x5) < (x0.length : Int) then ((larchref17_leaf.f ((J49 x0 (rd x4 x5)).f0) ((J49 x0 (rd x4 x5)).f1) ((J49 x0 (rd x4 x5)).f2) ((J49 x0 (rd x4 x5)).f3) ((J49 x0 (rd x4 x5)).f4) ((J49 x0 (rd x4 x5)).f5)).bind fun t434 => (if t434 = true then (if ((J49 x0 (rd x4 x5)).f1) = 0 then (if x3.length < 17592186044416 then (larchref17_Leaves.l0 k x0 (x3 ++ [rd x4 x5]) x4 (wrap64 (x5 + 1))) else (none)) else (larchref17_Leaves.l0 k x0 x3 x4 (wrap64 (x5 + 1)))) else (larchref17_Leaves.l0 k x0 x3 x4 (wrap64 (x5 + 1))))) else (none)) else (none)) else (none)) else (some x3)
def larchref17_Leaves.f (k : Nat) (l0 : List (S49)) : Option (List Int) := (larchref17_Order.f k l0 0).bind fun t429 => (larchref17_Leaves.l0 k l0 ([] : List Int) t429 0)
set_option maxHeartbeats 8000000 in
set_option maxRecDepth 100000 in
theorem larchref17_Leaves.calls (k : Nat) (A0 : Option Addr) (c0 : Nat) (l0 : List (S49)) (r : List Int) (w : World) (hr0 : Kd.C k49 w A0 l0.length l0) (hc0 : l0.length ≤ c0) (h : larchref17_Leaves.f k l0 = some r) :
  Calls Try.prog 34 #[.slice A0 l0.length c0] w fun e w' => ∃ v0_ : Value, e = .returned (v0_) ∧ Kd.R (Kd.int .i64) 3 w' w.heap.size (fun _ => True) v0_ r ∧ Below w.heap.size w w' := by
 have hu49 := Try.underlying49
 have HR0 := asd hr0
 have HC0 := asd hc0
 clear hr0 hc0
 have HB := asd (Below.refl w.heap.size w)
 have H : ((larchref17_Order.f k l0 0).bind fun t429 => (larchref17_Leaves.l0 k l0 ([] : List Int) t429 0)) = some r := h
 clear h
 replace H := Option.bind_eq_some_iff.mp H
 obtain ⟨t429, A20, H⟩ := H
 replace H : (larchref17_Leaves.l0 k l0 ([] : List Int) t429 0) = some r := H
 have A2 := asd A20
 clear A20
 have H' := asd H
 clear H
 go_enter Try.func34, Try.ntmps34
 go_wp2_with (first | ((with_reducible refine gate_callee (f := 27) rfl ?_); refine goesL_ (some 7) rfl rfl Try.func27 (by kernel_rfl) rfl #[.slice A0 l0.length c0, .int .i64 0] rfl ags ?_; (with_reducible refine (larchref17_Order.calls k _ _ l0 0 t429 _ ?side1 ?side2 A2.out).mono ?_); (case side1 => exact skC HR0.out); (case side2 => exact HC0.out); rintro e w3 ⟨v430, rfl, ho0, hb⟩; refine ⟨_, rfl, ?_⟩; have n0_ := asd (Kd.R_lower ho0 (below_size (skB HB.out))); have n1_ := asd (below_step (skB HB.out) hb); clear HB; have HO431 := n0_; have HB := n1_; clear n0_ n1_; (try clear hb); (try clear hb2); (try clear hk); (try clear hi); (try clear ho0)))
 go_loopg [3, 5] k (fun kq v3 v5 w' => ∃ (x3_1 : List Int) (x5_1 : Int), v5 = .int .i64 x5_1 ∧ Aside0 (larchref17_Leaves.l0 kq l0 x3_1 t429 x5_1 = some r) ∧ Aside0 (kq ≤ k) ∧ Aside0 (Kd.R (Kd.int .i64) 3 w' w.heap.size (fun k_ => some k_ ≠ (v430 : Value).ownBlock) v3 x3_1) ∧ Aside0 (Kd.R (Kd.int .i64) 3 w' w.heap.size (fun k_ => some k_ ≠ (v3 : Value).ownBlock) v430 t429) ∧ Aside0 (Below w.heap.size w w'))
 case atStart => exact ⟨(([] : List Int)), (0), rs, H', ⟨Nat.le_refl _⟩, ⟨by first | exact Kd.R_nil _ _ _ _ _ | exact Kd.N_nil _ _ _ _ _ | exact Kd.V_nil _ _ _ _ _ | exact Kd.Q_nil _ _ _ _ _ | exact Kd.S_nil _ _ _ _ _⟩, ⟨skR (Kd.R_mono HO431.out (fun _ hk => (by simp [Value.ownBlock])))⟩, ⟨skB HB.out⟩⟩
 case round =>
  clear H'
  try clear c2
  try clear p2
  try clear c3
  obtain ⟨x3_1, x5_1, rfl, HA, HK1, HO_3, HO_4, HB⟩ := hrel
  cases gk with
  | zero => exact absurd HA.out (by simp [larchref17_Leaves.l0])
  | succ k1 =>
   have H := HA.out
   clear HA
   simp only [larchref17_Leaves.l0] at H
   by_cases c4 : x5_1 < (t429.length : Int)
   ·
    rw [if_pos c4] at H
    have c4b0 : decide (x5_1 < (t429.length : Int)) = true := decide_eq_true c4
    clear c4
    by_cases c5 : 0 ≤ x5_1
    ·
     rw [if_pos c5] at H
     have c5b0 : decide (0 ≤ x5_1) = true := decide_eq_true c5
     clear c5
     by_cases c6 : 0 ≤ (rd t429 x5_1)
     ·
      rw [if_pos c6] at H
      have c6b0 : decide (0 ≤ (rd t429 x5_1)) = true := decide_eq_true c6
      clear c6
      by_cases c7 : (rd t429 x5_1) < (l0.length : Int)
      ·
       rw [if_pos c7] at H
       have c7b0 : decide ((rd t429 x5_1) < (l0.length : Int)) = true := decide_eq_true c7
       clear c7
       replace H := Option.bind_eq_some_iff.mp H
       obtain ⟨t434, A80, H⟩ := H
       replace H : (if t434 = true then (if ((J49 l0 (rd t429 x5_1)).f1) = 0 then (if x3_1.length < 17592186044416 then (larchref17_Leaves.l0 k1 l0 (x3_1 ++ [rd t429 x5_1]) t429 (wrap64 (x5_1 + 1))) else (none)) else (larchref17_Leaves.l0 k1 l0 x3_1 t429 (wrap64 (x5_1 + 1)))) else (larchref17_Leaves.l0 k1 l0 x3_1 t429 (wrap64 (x5_1 + 1)))) = some r := H
       have A8 := asd A80
       clear A80
       by_cases c9 : t434 = true
       ·
        subst c9
        have H1 : (if ((J49 l0 (rd t429 x5_1)).f1) = 0 then (if x3_1.length < 17592186044416 then (larchref17_Leaves.l0 k1 l0 (x3_1 ++ [rd t429 x5_1]) t429 (wrap64 (x5_1 + 1))) else (none)) else (larchref17_Leaves.l0 k1 l0 x3_1 t429 (wrap64 (x5_1 + 1)))) = some r := by rw [if_pos rfl] at H; exact H
        clear H
        have H := H1
        clear H1
        by_cases c10 : ((J49 l0 (rd t429 x5_1)).f1) = 0
        ·
         rw [if_pos c10] at H
         have c10b0 : (((J49 l0 (rd t429 x5_1)).f1) == 0) = true := beq_iff_eq.mpr c10
         have c10b1 : (((J49 l0 (rd t429 x5_1)).f1) != 0) = false := bne_eq_false_iff_eq.mpr c10
         clear c10
         by_cases c11 : x3_1.length < 17592186044416
         ·
          rw [if_pos c11] at H
          have LMc11 := asd c11
          clear c11
          obtain ⟨y438, hy438⟩ : ∃ y_ : List Int, y_ = (x3_1 ++ [rd t429 x5_1]) := ⟨_, rfl⟩
          replace H : (larchref17_Leaves.l0 k1 l0 y438 t429 (wrap64 (x5_1 + 1))) = some r := by first | (rw [hy438]; with_reducible exact H) | (have H2_ := (Option.bind_some _ _).symm.trans H; rw [hy438]; with_reducible exact H2_) | (have H2_ := (Option.bind_some _ _).symm.trans H; with_reducible exact H2_) | with_reducible exact H | (rw [hy438]; exact H) | exact H
          have Ny438 := asd hy438
          clear hy438
          have H' := asd H
          clear H
          obtain ⟨Ao12, co12, eo12⟩ := Kd.R_slice HO_4.out
          subst eo12
          have p432 : 0 ≤ (x5_1 : Int) := dt
          have q432 : x5_1 < (t429.length : Int) := dt
          obtain ⟨ad432, e432, hx432_0⟩ := Kd.at_int (Kd.R_reads' HO_4.out).2.2 x5_1 p432 q432
          cases e432
          replace p432 := eq_true p432
          replace q432 := eq_true q432
          have p433 : 0 ≤ ((rd t429 x5_1) : Int) := dt
          have q433 : (rd t429 x5_1) < (l0.length : Int) := dt
          obtain ⟨ad433, e433, hx433_0, hx433_1, hx433_2, hx433_3, hx433_4, hx433_5⟩ := at_T49 HR0.out (rd t429 x5_1) p433 q433
          cases e433
          replace hx433_0 := skc HB.out hx433_0
          replace hx433_1 := skc HB.out hx433_1
          replace hx433_2 := skc HB.out hx433_2
          replace hx433_3 := skc HB.out hx433_3
          replace hx433_4 := skc HB.out hx433_4
          replace hx433_5 := skc HB.out hx433_5
          replace p433 := eq_true p433
          replace q433 := eq_true q433
          go_wp2_with (first | ((with_reducible refine gate_callee (f := 53) rfl ?_); refine goesL_ (some 21) rfl rfl Try.func53 (by kernel_rfl) rfl #[.agg #[.int .i64 ((J49 l0 (rd t429 x5_1)).f0), .int .i64 ((J49 l0 (rd t429 x5_1)).f1), .int .i64 ((J49 l0 (rd t429 x5_1)).f2), .int .i64 ((J49 l0 (rd t429 x5_1)).f3), .int .i64 ((J49 l0 (rd t429 x5_1)).f4), .int .i64 ((J49 l0 (rd t429 x5_1)).f5)]] rfl ags ?_; (with_reducible refine (larchref17_leaf.calls ((J49 l0 (rd t429 x5_1)).f0) ((J49 l0 (rd t429 x5_1)).f1) ((J49 l0 (rd t429 x5_1)).f2) ((J49 l0 (rd t429 x5_1)).f3) ((J49 l0 (rd t429 x5_1)).f4) ((J49 l0 (rd t429 x5_1)).f5) true _ A8.out).mono ?_); rintro e w13 ⟨rfl, hb⟩; refine ⟨_, rfl, ?_⟩; have n0_ := asd (Kd.R_below (skR HO_3.out) hb); have n1_ := asd (Kd.R_below (skR HO_4.out) hb); have n2_ := asd (below_step (skB HB.out) hb); clear HO_3; clear HO_4; clear HB; have HO_3 := n0_; have HO_4 := n1_; have HB := n2_; clear n0_ n1_ n2_; (try clear hb); (try clear hb2); (try clear hk); (try clear hi); have p435 : 0 ≤ (x5_1 : Int) := dt; have q435 : x5_1 < (t429.length : Int) := dt; obtain ⟨ad435, e435, hx435_0⟩ := Kd.at_int (Kd.R_reads' HO_4.out).2.2 x5_1 p435 q435; obtain rfl : ad432 = ad435 := (by injection e435); replace p435 := eq_true p435; replace q435 := eq_true q435; have p436 : 0 ≤ ((rd t429 x5_1) : Int) := dt; have q436 : (rd t429 x5_1) < (l0.length : Int) := dt; obtain ⟨ad436, e436, hx436_0, hx436_1, hx436_2, hx436_3, hx436_4, hx436_5⟩ := at_T49 HR0.out (rd t429 x5_1) p436 q436; obtain rfl : ad433 = ad436 := (by injection e436); replace hx436_0 := skc HB.out hx436_0; replace hx436_1 := skc HB.out hx436_1; replace hx436_2 := skc HB.out hx436_2; replace hx436_3 := skc HB.out hx436_3; replace hx436_4 := skc HB.out hx436_4; replace hx436_5 := skc HB.out hx436_5; replace p436 := eq_true p436; replace q436 := eq_true q436; have p437 : 0 ≤ (x5_1 : Int) := dt; have q437 : x5_1 < (t429.length : Int) := dt; obtain ⟨ad437, e437, hx437_0⟩ := Kd.at_int (Kd.R_reads' HO_4.out).2.2 x5_1 p437 q437; obtain rfl : ad432 = ad437 := (by injection e437); replace p437 := eq_true p437; replace q437 := eq_true q437) | ((with_reducible refine gate_builtin (b := .append) (xs := #[.tmp 33, .tmp 38]) rfl ?_); at_builtin; refine Kd.R_append (Kd.int .i64) (w0 := w) w.heap.size rfl (.tmp 33) (.tmp 38) 23 3 (.int .i64 0) 8 rfl Try.underlying23 info3 rfl (by decide) (by omega) u3 x3_1 (rd t429 x5_1) [.int .i64 (rd t429 x5_1)] (fun k_ => some k_ ≠ (.slice (some ad432) t429.length co12 : Value).ownBlock) (fun _ => False) rfl rfl ?aP (fun _ hk => hk.elim) ?aF ?aO ?aB ?aS ?aL ?_; (case aP => exact rfl); (case aB => exact (skB HB.out)); (case aF => exact (fun k_ hk => Kd.fresh' (Kd.R_lt (skR HO_4.out)) k_ hk)); (case aO => exact (skR HO_3.out)); (case aS => exact (below_size (skB HB.out))); (case aL => have := LMc11.out; omega); intro v439 w14 ho hb hg hat; rw [← Ny438.out] at ho; have n0_ := asd (Kd.R_after (ok := (fun _ => True)) (skR (Kd.R_mono HO_4.out (fun _ hk => ⟨trivial, hk⟩))) hg hat); have n1_ := asd (hb); have n2_ := asd (ho); clear HO_4; clear HB; clear HO_3; have HO_4 := n0_; have HB := n1_; have HO440 := n2_; clear n0_ n1_ n2_; clear ho hb hg hat))
          go_roundg k1
          case measure => have := HK1.out; omega
          case rel => exact ⟨(y438), (wrap64 (x5_1 + 1)), rs, H', ⟨by have := HK1.out; omega⟩, ⟨skR HO440.out⟩, ⟨skR (Kd.R_mono HO_4.out (fun _ hk => hk.2))⟩, ⟨skB HB.out⟩⟩
         ·
          rw [if_neg c11] at H
          exact absurd H (by simp)
        ·
         rw [if_neg c10] at H
         have c10b0 : (((J49 l0 (rd t429 x5_1)).f1) == 0) = false := beq_eq_false_iff_ne.mpr c10
         have c10b1 : (((J49 l0 (rd t429 x5_1)).f1) != 0) = true := bne_iff_ne.mpr c10
         have H' := asd H
         clear H
         obtain ⟨Ao15, co15, eo15⟩ := Kd.R_slice HO_4.out
         subst eo15
         have p432 : 0 ≤ (x5_1 : Int) := dt
         have q432 : x5_1 < (t429.length : Int) := dt
         obtain ⟨ad432, e432, hx432_0⟩ := Kd.at_int (Kd.R_reads' HO_4.out).2.2 x5_1 p432 q432
         cases e432
         replace p432 := eq_true p432
         replace q432 := eq_true q432
         have p433 : 0 ≤ ((rd t429 x5_1) : Int) := dt
         have q433 : (rd t429 x5_1) < (l0.length : Int) := dt
         obtain ⟨ad433, e433, hx433_0, hx433_1, hx433_2, hx433_3, hx433_4, hx433_5⟩ := at_T49 HR0.out (rd t429 x5_1) p433 q433
         cases e433
         replace hx433_0 := skc HB.out hx433_0
         replace hx433_1 := skc HB.out hx433_1
         replace hx433_2 := skc HB.out hx433_2
         replace hx433_3 := skc HB.out hx433_3
         replace hx433_4 := skc HB.out hx433_4
         replace hx433_5 := skc HB.out hx433_5
         replace p433 := eq_true p433
         replace q433 := eq_true q433
         go_wp2_with (first | ((with_reducible refine gate_callee (f := 53) rfl ?_); refine goesL_ (some 21) rfl rfl Try.func53 (by kernel_rfl) rfl #[.agg #[.int .i64 ((J49 l0 (rd t429 x5_1)).f0), .int .i64 ((J49 l0 (rd t429 x5_1)).f1), .int .i64 ((J49 l0 (rd t429 x5_1)).f2), .int .i64 ((J49 l0 (rd t429 x5_1)).f3), .int .i64 ((J49 l0 (rd t429 x5_1)).f4), .int .i64 ((J49 l0 (rd t429 x5_1)).f5)]] rfl ags ?_; (with_reducible refine (larchref17_leaf.calls ((J49 l0 (rd t429 x5_1)).f0) ((J49 l0 (rd t429 x5_1)).f1) ((J49 l0 (rd t429 x5_1)).f2) ((J49 l0 (rd t429 x5_1)).f3) ((J49 l0 (rd t429 x5_1)).f4) ((J49 l0 (rd t429 x5_1)).f5) true _ A8.out).mono ?_); rintro e w16 ⟨rfl, hb⟩; refine ⟨_, rfl, ?_⟩; have n0_ := asd (Kd.R_below (skR HO_3.out) hb); have n1_ := asd (Kd.R_below (skR HO_4.out) hb); have n2_ := asd (below_step (skB HB.out) hb); clear HO_3; clear HO_4; clear HB; have HO_3 := n0_; have HO_4 := n1_; have HB := n2_; clear n0_ n1_ n2_; (try clear hb); (try clear hb2); (try clear hk); (try clear hi); have p435 : 0 ≤ (x5_1 : Int) := dt; have q435 : x5_1 < (t429.length : Int) := dt; obtain ⟨ad435, e435, hx435_0⟩ := Kd.at_int (Kd.R_reads' HO_4.out).2.2 x5_1 p435 q435; obtain rfl : ad432 = ad435 := (by injection e435); replace p435 := eq_true p435; replace q435 := eq_true q435; have p436 : 0 ≤ ((rd t429 x5_1) : Int) := dt; have q436 : (rd t429 x5_1) < (l0.length : Int) := dt; obtain ⟨ad436, e436, hx436_0, hx436_1, hx436_2, hx436_3, hx436_4, hx436_5⟩ := at_T49 HR0.out (rd t429 x5_1) p436 q436; obtain rfl : ad433 = ad436 := (by injection e436); replace hx436_0 := skc HB.out hx436_0; replace hx436_1 := skc HB.out hx436_1; replace hx436_2 := skc HB.out hx436_2; replace hx436_3 := skc HB.out hx436_3; replace hx436_4 := skc HB.out hx436_4; replace hx436_5 := skc HB.out hx436_5; replace p436 := eq_true p436; replace q436 := eq_true q436))
         go_roundg k1
         case measure => have := HK1.out; omega
         case rel => exact ⟨(x3_1), (wrap64 (x5_1 + 1)), rs, H', ⟨by have := HK1.out; omega⟩, ⟨skR HO_3.out⟩, ⟨skR HO_4.out⟩, ⟨skB HB.out⟩⟩
       ·
        replace c9 := Bool.eq_false_iff.mpr c9
        subst c9
        have H1 : (larchref17_Leaves.l0 k1 l0 x3_1 t429 (wrap64 (x5_1 + 1))) = some r := by rw [if_neg (show ¬ (false = true) by decide)] at H; exact H
        clear H
        have H := H1
        clear H1
        have H' := asd H
        clear H
        obtain ⟨Ao17, co17, eo17⟩ := Kd.R_slice HO_4.out
        subst eo17
        have p432 : 0 ≤ (x5_1 : Int) := dt
        have q432 : x5_1 < (t429.length : Int) := dt
        obtain ⟨ad432, e432, hx432_0⟩ := Kd.at_int (Kd.R_reads' HO_4.out).2.2 x5_1 p432 q432
        cases e432
        replace p432 := eq_true p432
        replace q432 := eq_true q432
        have p433 : 0 ≤ ((rd t429 x5_1) : Int) := dt
        have q433 : (rd t429 x5_1) < (l0.length : Int) := dt
        obtain ⟨ad433, e433, hx433_0, hx433_1, hx433_2, hx433_3, hx433_4, hx433_5⟩ := at_T49 HR0.out (rd t429 x5_1) p433 q433
        cases e433
        replace hx433_0 := skc HB.out hx433_0
        replace hx433_1 := skc HB.out hx433_1
        replace hx433_2 := skc HB.out hx433_2
        replace hx433_3 := skc HB.out hx433_3
        replace hx433_4 := skc HB.out hx433_4
        replace hx433_5 := skc HB.out hx433_5
        replace p433 := eq_true p433
        replace q433 := eq_true q433
        go_wp2_with (first | ((with_reducible refine gate_callee (f := 53) rfl ?_); refine goesL_ (some 21) rfl rfl Try.func53 (by kernel_rfl) rfl #[.agg #[.int .i64 ((J49 l0 (rd t429 x5_1)).f0), .int .i64 ((J49 l0 (rd t429 x5_1)).f1), .int .i64 ((J49 l0 (rd t429 x5_1)).f2), .int .i64 ((J49 l0 (rd t429 x5_1)).f3), .int .i64 ((J49 l0 (rd t429 x5_1)).f4), .int .i64 ((J49 l0 (rd t429 x5_1)).f5)]] rfl ags ?_; (with_reducible refine (larchref17_leaf.calls ((J49 l0 (rd t429 x5_1)).f0) ((J49 l0 (rd t429 x5_1)).f1) ((J49 l0 (rd t429 x5_1)).f2) ((J49 l0 (rd t429 x5_1)).f3) ((J49 l0 (rd t429 x5_1)).f4) ((J49 l0 (rd t429 x5_1)).f5) false _ A8.out).mono ?_); rintro e w18 ⟨rfl, hb⟩; refine ⟨_, rfl, ?_⟩; have n0_ := asd (Kd.R_below (skR HO_3.out) hb); have n1_ := asd (Kd.R_below (skR HO_4.out) hb); have n2_ := asd (below_step (skB HB.out) hb); clear HO_3; clear HO_4; clear HB; have HO_3 := n0_; have HO_4 := n1_; have HB := n2_; clear n0_ n1_ n2_; (try clear hb); (try clear hb2); (try clear hk); (try clear hi)))
        go_roundg k1
        case measure => have := HK1.out; omega
        case rel => exact ⟨(x3_1), (wrap64 (x5_1 + 1)), rs, H', ⟨by have := HK1.out; omega⟩, ⟨skR HO_3.out⟩, ⟨skR HO_4.out⟩, ⟨skB HB.out⟩⟩
      ·
       rw [if_neg c7] at H
       exact absurd H (by simp)
     ·
      rw [if_neg c6] at H
      exact absurd H (by simp)
    ·
     rw [if_neg c5] at H
     exact absurd H (by simp)
   ·
    rw [if_neg c4] at H
    have c4b0 : decide (x5_1 < (t429.length : Int)) = false := decide_eq_false c4
    clear c4
    obtain rfl := Option.some.inj H
    obtain ⟨Ao19, co19, eo19⟩ := Kd.R_slice HO_4.out
    subst eo19
    go_wp2
    go_ret
    exact ⟨_, re, skR (Kd.R_mono HO_3.out (fun _ hk => trivial)), skB HB.out⟩
end Go.Proofs.Ytmmjkebboonnkaa.P
/- F41 -/
namespace Go.Proofs.Ytmmjkebboonnkaa.P
open Go.RowKit Go.Proofs.YtmmjkebboonnkaaW.PrintWords Go.Proofs.YtmmjkebboonnkaaW.PrintLast Go.Proofs.YtmmjkebboonnkaaW.PrintMore
attribute [local go_sem] max2_int min2_int max_two min_two max_three min_three max_four min_four   -- for this text's walks alone
set_option linter.unusedVariables false
set_option linter.unusedSimpArgs false
end Go.Proofs.Ytmmjkebboonnkaa.P
/- F42 -/
namespace Go.Proofs.Ytmmjkebboonnkaa.P
open Go.RowKit Go.Proofs.YtmmjkebboonnkaaW.PrintWords Go.Proofs.YtmmjkebboonnkaaW.PrintLast Go.Proofs.YtmmjkebboonnkaaW.PrintMore
attribute [local go_sem] max2_int min2_int max_two min_two max_three min_three max_four min_four   -- for this text's walks alone
set_option linter.unusedVariables false
set_option linter.unusedSimpArgs false
end Go.Proofs.Ytmmjkebboonnkaa.P
/- F59 -/
namespace Go.Proofs.Ytmmjkebboonnkaa.P
open Go.RowKit Go.Proofs.YtmmjkebboonnkaaW.PrintWords Go.Proofs.YtmmjkebboonnkaaW.PrintLast Go.Proofs.YtmmjkebboonnkaaW.PrintMore
attribute [local go_sem] max2_int min2_int max_two min_two max_three min_three max_four min_four   -- for this text's walks alone
set_option linter.unusedVariables false
set_option linter.unusedSimpArgs false
def larchref17_Even.l0 : Nat → List Int → Int → Option (Int × Bool × Int)
 | 0, _, _ => none
 | k + 1, x5, x7 => if x7 < (x5.length : Int) then (if 0 ≤ x7 then (if 0 < (x5.length : Int) then (if (rd x5 x7) = (rd x5 0) then (larchref17_Even.l0 k x5 (wrap64 (x7 + 1))) else (some (0, false, 0))) else (none)) else (none)) else (if (x5.length : Int) = 0 then (some (0, true, 0)) else (if 0 < (x5.length : Int) then (some (rd x5 0, true, 0)) else (none)))
def larchref17_Even.f (k : Nat) (l0 : List (S49)) : Option (Int × Bool × Int) := (larchref17_Sums.f k l0).bind fun bt716 => (if bt716.2 = 0 then (larchref17_Even.l0 k bt716.1 1) else (some (0, false, bt716.2)))
set_option maxHeartbeats 8000000 in
set_option maxRecDepth 100000 in
theorem larchref17_Even.calls (k : Nat) (A0 : Option Addr) (c0 : Nat) (l0 : List (S49)) (r1 : Int) (r2 : Bool) (r3 : Int) (w : World) (hr0 : Kd.C k49 w A0 l0.length l0) (hc0 : l0.length ≤ c0) (h : larchref17_Even.f k l0 = some (r1, r2, r3)) :
  Calls Try.prog 35 #[.slice A0 l0.length c0] w fun e w' => e = .returned (.tuple #[.int .i64 r1, .bool r2, .int .i64 r3]) ∧ Below w.heap.size w w' := by
 have HR0 := asd hr0
 have HC0 := asd hc0
 clear hr0 hc0
 have HB := asd (Below.refl w.heap.size w)
 have H : ((larchref17_Sums.f k l0).bind fun bt716 => (if bt716.2 = 0 then (larchref17_Even.l0 k bt716.1 1) else (some (0, false, bt716.2)))) = some (r1, r2, r3) := h
 clear h
 replace H := Option.bind_eq_some_iff.mp H
 obtain ⟨⟨t716, t717⟩, A20, H⟩ := H
 replace H : (if t717 = 0 then (larchref17_Even.l0 k t716 1) else (some (0, false, t717))) = some (r1, r2, r3) := H
 have A2 := asd A20
 clear A20
 by_cases c3 : t717 = 0
 ·
  rw [if_pos c3] at H
  have c3b0 : (t717 == 0) = true := beq_iff_eq.mpr c3
  have c3b1 : (t717 != 0) = false := bne_eq_false_iff_eq.mpr c3
  clear c3
  have H' := asd H
  clear H
  go_enter Try.func35, Try.ntmps35
  go_wp2_with (first | (go_at_call 29; (with_reducible refine (larchref17_Sums.calls k _ _ l0 t716 t717 _ ?side1 ?side2 A2.out).mono ?_); (case side1 => exact skC HR0.out); (case side2 => exact HC0.out); rintro e w4 ⟨v718, rfl, ho0, hb⟩; have n0_ := asd (Kd.R_lower ho0 (below_size (skB HB.out))); have n1_ := asd (below_step (skB HB.out) hb); clear HB; have HO719 := n0_; have HB := n1_; clear n0_ n1_; (try clear hb); (try clear hb2); (try clear hk); (try clear hi); (try clear ho0)))
  repeat (go_quiet (first | (go_at_call 29; (with_reducible refine (larchref17_Sums.calls k _ _ l0 t716 t717 _ ?side1 ?side2 A2.out).mono ?_); (case side1 => exact skC HR0.out); (case side2 => exact HC0.out); rintro e w4 ⟨v718, rfl, ho0, hb⟩; have n0_ := asd (Kd.R_lower ho0 (below_size (skB HB.out))); have n1_ := asd (below_step (skB HB.out) hb); clear HB; have HO719 := n0_; have HB := n1_; clear n0_ n1_; (try clear hb); (try clear hb2); (try clear hk); (try clear hi); (try clear ho0))); try go_wp2_with (first | (go_at_call 29; (with_reducible refine (larchref17_Sums.calls k _ _ l0 t716 t717 _ ?side1 ?side2 A2.out).mono ?_); (case side1 => exact skC HR0.out); (case side2 => exact HC0.out); rintro e w4 ⟨v718, rfl, ho0, hb⟩; have n0_ := asd (Kd.R_lower ho0 (below_size (skB HB.out))); have n1_ := asd (below_step (skB HB.out) hb); clear HB; have HO719 := n0_; have HB := n1_; clear n0_ n1_; (try clear hb); (try clear hb2); (try clear hk); (try clear hi); (try clear ho0))))
  go_loopg [7] k (fun kq v7 w' => ∃ (x7_1 : Int), v7 = .int .i64 x7_1 ∧ Aside0 (larchref17_Even.l0 kq t716 x7_1 = some (r1, r2, r3)) ∧ Aside0 (kq ≤ k) ∧ Aside0 (Kd.R (Kd.int .i64) 3 w' w.heap.size (fun _ => True) v718 t716) ∧ Aside0 (Below w.heap.size w w'))
  case atStart => exact ⟨(1), rs, H', ⟨Nat.le_refl _⟩, ⟨skR HO719.out⟩, ⟨skB HB.out⟩⟩
  case round =>
   clear H'
   try clear p2
   try clear c3
   try clear c3b0
   try clear c3b1
   obtain ⟨x7_1, rfl, HA, HK1, HO_5, HB⟩ := hrel
   cases gk with
   | zero => exact absurd HA.out (by simp [larchref17_Even.l0])
   | succ k1 =>
    have H := HA.out
    clear HA
    simp only [larchref17_Even.l0] at H
    by_cases c5 : x7_1 < (t716.length : Int)
    ·
     rw [if_pos c5] at H
     have c5b0 : decide (x7_1 < (t716.length : Int)) = true := decide_eq_true c5
     clear c5
     by_cases c6 : 0 ≤ x7_1
     ·
      rw [if_pos c6] at H
      have c6b0 : decide (0 ≤ x7_1) = true := decide_eq_true c6
      clear c6
      by_cases c7 : 0 < (t716.length : Int)
      ·
       rw [if_pos c7] at H
       have c7b0 : decide (0 < (t716.length : Int)) = true := decide_eq_true c7
       have c7b1 : decide (0 < t716.length) = true := decide_eq_true (by omega)
       clear c7
       by_cases c8 : (rd t716 x7_1) = (rd t716 0)
       ·
        rw [if_pos c8] at H
        have c8b0 : ((rd t716 x7_1) == (rd t716 0)) = true := beq_iff_eq.mpr c8
        have c8b1 : ((rd t716 x7_1) != (rd t716 0)) = false := bne_eq_false_iff_eq.mpr c8
        clear c8
        have H' := asd H
        clear H
        obtain ⟨Ao9, co9, eo9⟩ := Kd.R_slice HO_5.out
        subst eo9
        have p720 : 0 ≤ (x7_1 : Int) := dt
        have q720 : x7_1 < (t716.length : Int) := dt
        obtain ⟨ad720, e720, hx720_0⟩ := Kd.at_int (Kd.R_reads' HO_5.out).2.2 x7_1 p720 q720
        cases e720
        replace p720 := eq_true p720
        replace q720 := eq_true q720
        have p721 : 0 ≤ (0 : Int) := (by omega)
        have q721 : 0 < (t716.length : Int) := dt
        obtain ⟨ad721, e721, hx721_0⟩ := Kd.at_int (Kd.R_reads' HO_5.out).2.2 0 p721 q721
        obtain rfl : ad720 = ad721 := (by injection e721)
        have qi721 : (0 < t716.length) = True := eq_true (by omega)
        (try rw [show ((0 : Int)).toNat = 0 from rfl] at hx721_0)
        (try rw [Addr.add_zero'] at hx721_0)
        replace p721 := eq_true p721
        replace q721 := eq_true q721
        go_wp2
        repeat (go_quiet (fail); try go_wp2)
        go_roundg k1
        case measure => have := HK1.out; omega
        case rel => exact ⟨(wrap64 (x7_1 + 1)), rs, H', ⟨by have := HK1.out; omega⟩, ⟨skR HO_5.out⟩, ⟨skB HB.out⟩⟩
       ·
        rw [if_neg c8] at H
        have c8b0 : ((rd t716 x7_1) == (rd t716 0)) = false := beq_eq_false_iff_ne.mpr c8
        have c8b1 : ((rd t716 x7_1) != (rd t716 0)) = true := bne_iff_ne.mpr c8
        simp only [Option.some.injEq, Prod.mk.injEq] at H
        obtain ⟨rfl, rfl, rfl⟩ := H
        obtain ⟨Ao10, co10, eo10⟩ := Kd.R_slice HO_5.out
        subst eo10
        have p720 : 0 ≤ (x7_1 : Int) := dt
        have q720 : x7_1 < (t716.length : Int) := dt
        obtain ⟨ad720, e720, hx720_0⟩ := Kd.at_int (Kd.R_reads' HO_5.out).2.2 x7_1 p720 q720
        cases e720
        replace p720 := eq_true p720
        replace q720 := eq_true q720
        have p721 : 0 ≤ (0 : Int) := (by omega)
        have q721 : 0 < (t716.length : Int) := dt
        obtain ⟨ad721, e721, hx721_0⟩ := Kd.at_int (Kd.R_reads' HO_5.out).2.2 0 p721 q721
        obtain rfl : ad720 = ad721 := (by injection e721)
        have qi721 : (0 < t716.length) = True := eq_true (by omega)
        (try rw [show ((0 : Int)).toNat = 0 from rfl] at hx721_0)
        (try rw [Addr.add_zero'] at hx721_0)
        replace p721 := eq_true p721
        replace q721 := eq_true q721
        go_wp2
        repeat (go_quiet (fail); try go_wp2)
        go_ret3
        exact ⟨re, skB HB.out⟩
      ·
       rw [if_neg c7] at H
       exact absurd H (by simp)
     ·
      rw [if_neg c6] at H
      exact absurd H (by simp)
    ·
     rw [if_neg c5] at H
     have c5b0 : decide (x7_1 < (t716.length : Int)) = false := decide_eq_false c5
     clear c5
     by_cases c11 : (t716.length : Int) = 0
     ·
      rw [if_pos c11] at H
      have c11b0 : ((t716.length : Int) == 0) = true := beq_iff_eq.mpr c11
      have c11b1 : ((t716.length : Int) != 0) = false := bne_eq_false_iff_eq.mpr c11
      clear c11
      simp only [Option.some.injEq, Prod.mk.injEq] at H
      obtain ⟨rfl, rfl, rfl⟩ := H
      obtain ⟨Ao12, co12, eo12⟩ := Kd.R_slice HO_5.out
      subst eo12
      go_wp2
      repeat (go_quiet (fail); try go_wp2)
      go_ret3
      exact ⟨re, skB HB.out⟩
     ·
      rw [if_neg c11] at H
      have c11b0 : ((t716.length : Int) == 0) = false := beq_eq_false_iff_ne.mpr c11
      have c11b1 : ((t716.length : Int) != 0) = true := bne_iff_ne.mpr c11
      have c11b2 : ¬ (t716 = []) := fun h_ => c11 (by rw [h_]; rfl)
      by_cases c13 : 0 < (t716.length : Int)
      ·
       rw [if_pos c13] at H
       have c13b0 : decide (0 < (t716.length : Int)) = true := decide_eq_true c13
       have c13b1 : decide (0 < t716.length) = true := decide_eq_true (by omega)
       clear c13
       simp only [Option.some.injEq, Prod.mk.injEq] at H
       obtain ⟨rfl, rfl, rfl⟩ := H
       obtain ⟨Ao14, co14, eo14⟩ := Kd.R_slice HO_5.out
       subst eo14
       have p722 : 0 ≤ (0 : Int) := (by omega)
       have q722 : 0 < (t716.length : Int) := dt
       obtain ⟨ad722, e722, hx722_0⟩ := Kd.at_int (Kd.R_reads' HO_5.out).2.2 0 p722 q722
       cases e722
       have qi722 : (0 < t716.length) = True := eq_true (by omega)
       (try rw [show ((0 : Int)).toNat = 0 from rfl] at hx722_0)
       (try rw [Addr.add_zero'] at hx722_0)
       replace p722 := eq_true p722
       replace q722 := eq_true q722
       go_wp2
       repeat (go_quiet (fail); try go_wp2)
       go_ret3
       exact ⟨re, skB HB.out⟩
      ·
       rw [if_neg c13] at H
       exact absurd H (by simp)
 ·
  rw [if_neg c3] at H
  have c3b0 : (t717 == 0) = false := beq_eq_false_iff_ne.mpr c3
  have c3b1 : (t717 != 0) = true := bne_iff_ne.mpr c3
  simp only [Option.some.injEq, Prod.mk.injEq] at H
  obtain ⟨rfl, rfl, rfl⟩ := H
  go_enter Try.func35, Try.ntmps35
  go_wp2_with (first | (go_at_call 29; (with_reducible refine (larchref17_Sums.calls k _ _ l0 t716 t717 _ ?side1 ?side2 A2.out).mono ?_); (case side1 => exact skC HR0.out); (case side2 => exact HC0.out); rintro e w15 ⟨v718, rfl, ho0, hb⟩; have n0_ := asd (Kd.R_lower ho0 (below_size (skB HB.out))); have n1_ := asd (below_step (skB HB.out) hb); clear HB; have HO719 := n0_; have HB := n1_; clear n0_ n1_; (try clear hb); (try clear hb2); (try clear hk); (try clear hi); (try clear ho0)))
  repeat (go_quiet (first | (go_at_call 29; (with_reducible refine (larchref17_Sums.calls k _ _ l0 t716 t717 _ ?side1 ?side2 A2.out).mono ?_); (case side1 => exact skC HR0.out); (case side2 => exact HC0.out); rintro e w15 ⟨v718, rfl, ho0, hb⟩; have n0_ := asd (Kd.R_lower ho0 (below_size (skB HB.out))); have n1_ := asd (below_step (skB HB.out) hb); clear HB; have HO719 := n0_; have HB := n1_; clear n0_ n1_; (try clear hb); (try clear hb2); (try clear hk); (try clear hi); (try clear ho0))); try go_wp2_with (first | (go_at_call 29; (with_reducible refine (larchref17_Sums.calls k _ _ l0 t716 t717 _ ?side1 ?side2 A2.out).mono ?_); (case side1 => exact skC HR0.out); (case side2 => exact HC0.out); rintro e w15 ⟨v718, rfl, ho0, hb⟩; have n0_ := asd (Kd.R_lower ho0 (below_size (skB HB.out))); have n1_ := asd (below_step (skB HB.out) hb); clear HB; have HO719 := n0_; have HB := n1_; clear n0_ n1_; (try clear hb); (try clear hb2); (try clear hk); (try clear hi); (try clear ho0))))
  go_ret3
  exact ⟨re, skB HB.out⟩
end Go.Proofs.Ytmmjkebboonnkaa.P
/- F60 -/
namespace Go.Proofs.Ytmmjkebboonnkaa.P
open Go.RowKit Go.Proofs.YtmmjkebboonnkaaW.PrintWords Go.Proofs.YtmmjkebboonnkaaW.PrintLast Go.Proofs.YtmmjkebboonnkaaW.PrintMore
attribute [local go_sem] max2_int min2_int max_two min_two max_three min_three max_four min_four   -- for this text's walks alone
set_option linter.unusedVariables false
set_option linter.unusedSimpArgs false
mutual
def larchref17_Sound.j0 : Nat → List (S49) → Int → Bool → Option (Bool × Int)
 | 0, _, _, _ => none
 | k + 1, x0, x6, x21 => if x21 = true then (some (false, x6)) else ((larchref17_keys.f k x0).bind fun bt726 => (larchref17_Sound.l0 k x0 bt726.1 0))
def larchref17_Sound.l0 : Nat → List (S49) → List Int → Int → Option (Bool × Int)
 | 0, _, _, _ => none
 | k + 1, x0, x7, x9 => if x9 < (x7.length : Int) then (if x9 = 0 then (if 0 ≤ x9 then (if 0 ≤ (rd x7 x9) then (if (rd x7 x9) < (x0.length : Int) then (if ((J49 x0 (rd x7 x9)).f2) = 1 then ((larchref17_leaf.f ((J49 x0 (rd x7 x9)).f0) ((J49 x0 (rd x7 x9)).f1) ((J49 x0 (rd x7 x9)).f2) ((J49 x0 (rd x7 x9)).f3) ((J49 x0 (rd x7 x9)).f4) ((J49 x0 (rd x7 x9)).f5)).bind fun t734 => (if t734 = true then (if ((J49 x0 (rd x7 x9)).f2) < 1 then (some (false, 0)) else (larchref17_Sound.l0 k x0 x7 (wrap64 (x9 + 1)))) else (larchref17_Sound.l0 k x0 x7 (wrap64 (x9 + 1))))) else (some (false, 0))) else (none)) else (none)) else (none)) else (if 0 ≤ x9 then (if 0 ≤ (rd x7 x9) then (if (rd x7 x9) < (x0.length : Int) then ((larchref17_leaf.f ((J49 x0 (rd x7 x9)).f0) ((J49 x0 (rd x7 x9)).f1) ((J49 x0 (rd x7 x9)).f2) ((J49 x0 (rd x7 x9)).f3) ((J49 x0 (rd x7 x9)).f4) ((J49 x0 (rd x7 x9)).f5)).bind fun t739 => (if t739 = true then (if ((J49 x0 (rd x7 x9)).f2) < 1 then (some (false, 0)) else (larchref17_Sound.l0 k x0 x7 (wrap64 (x9 + 1)))) else (larchref17_Sound.l0 k x0 x7 (wrap64 (x9 + 1))))) else (none)) else (none)) else (none))) else (some (true, 0))
end
def larchref17_Sound.f (k : Nat) (l0 : List (S49)) : Option (Bool × Int) := (larchref17_Even.f k l0).bind fun bt723 => (if bt723.2.2 = 0 then (larchref17_Sound.j0 k l0 bt723.2.2 (!bt723.2.1)) else (larchref17_Sound.j0 k l0 bt723.2.2 true))
set_option maxHeartbeats 8000000 in
set_option maxRecDepth 100000 in
theorem larchref17_Sound.calls (k : Nat) (A0 : Option Addr) (c0 : Nat) (l0 : List (S49)) (r1 : Bool) (r2 : Int) (w : World) (hr0 : Kd.C k49 w A0 l0.length l0) (hc0 : l0.length ≤ c0) (h : larchref17_Sound.f k l0 = some (r1, r2)) :
  Calls Try.prog 36 #[.slice A0 l0.length c0] w fun e w' => e = .returned (.tuple #[.bool r1, .int .i64 r2]) ∧ Below w.heap.size w w' := by
 have hu49 := Try.underlying49
 have HR0 := asd hr0
 have HC0 := asd hc0
 clear hr0 hc0
 have HB := asd (Below.refl w.heap.size w)
 have H : ((larchref17_Even.f k l0).bind fun bt723 => (if bt723.2.2 = 0 then (larchref17_Sound.j0 k l0 bt723.2.2 (!bt723.2.1)) else (larchref17_Sound.j0 k l0 bt723.2.2 true))) = some (r1, r2) := h
 clear h
 replace H := Option.bind_eq_some_iff.mp H
 obtain ⟨⟨t723, t724, t725⟩, A20, H⟩ := H
 replace H : (if t725 = 0 then (larchref17_Sound.j0 k l0 t725 (!t724)) else (larchref17_Sound.j0 k l0 t725 true)) = some (r1, r2) := H
 have A2 := asd A20
 clear A20
 have HC3 := asd H
 clear H
 go_enter Try.func36, Try.ntmps36
 go_upto_region 2 with (first | ((with_reducible refine gate_callee (f := 35) rfl ?_); refine goesL_ (some 12) rfl rfl Try.func35 (by kernel_rfl) rfl #[.slice A0 l0.length c0] rfl ags ?_; (with_reducible refine (larchref17_Even.calls k _ _ l0 t723 t724 t725 _ ?side1 ?side2 A2.out).mono ?_); (case side1 => exact skC HR0.out); (case side2 => exact HC0.out); rintro e w4 ⟨rfl, hb⟩; refine ⟨_, rfl, ?_⟩; have n0_ := asd (below_step (skB HB.out) hb); clear HB; have HB := n0_; clear n0_; (try clear hb); (try clear hb2); (try clear hk); (try clear hi)))
 (try simp only [Act.put, List.setIfInBounds_toArray, List.set_cons_zero, List.set_cons_succ])
 go_cut [21] (fun v21 wc => ∃ (kq : Nat) (x21_2 : Bool), v21 = .bool x21_2 ∧ Aside0 (larchref17_Sound.j0 kq l0 t725 x21_2 = some (r1, r2)) ∧ Aside0 (kq ≤ k) ∧ Aside0 (Below w.heap.size w wc))
 case first =>
  have H := HC3.out
  clear HC3
  by_cases c5 : t725 = 0
  ·
   rw [if_pos c5] at H
   have c5b0 : (t725 == 0) = true := beq_iff_eq.mpr c5
   have c5b1 : (t725 != 0) = false := bne_eq_false_iff_eq.mpr c5
   clear c5
   (first | rw [c5b0] | (simp only [i64_w, i32_w]; rw [c5b0]) | skip)
   have H' := asd H
   clear H
   go_wp2
   go_meet
   case rel => exact ⟨_, (!t724), rs, H', ⟨by first | omega | exact Nat.le_refl _⟩, ⟨skB HB.out⟩⟩
  ·
   rw [if_neg c5] at H
   have c5b0 : (t725 == 0) = false := beq_eq_false_iff_ne.mpr c5
   have c5b1 : (t725 != 0) = true := bne_iff_ne.mpr c5
   (first | rw [c5b0] | (simp only [i64_w, i32_w]; rw [c5b0]) | skip)
   have H' := asd H
   clear H
   go_wp2
   go_meet
   case rel => exact ⟨_, (true), rs, H', ⟨by first | omega | exact Nat.le_refl _⟩, ⟨skB HB.out⟩⟩
 case rest =>
  clear HC3
  try clear p2
  try clear c3
  try clear c5
  try clear c5b0
  try clear c5b1
  obtain ⟨kq, x21_2, rfl, HA, HJ2, HB⟩ := hcut
  cases kq with
  | zero => exact absurd HA.out (by simp [larchref17_Sound.j0])
  | succ kj2 =>
   have H := HA.out
   clear HA
   simp only [larchref17_Sound.j0] at H
   by_cases c6 : x21_2 = true
   ·
    subst c6
    have H1 : (some (false, t725)) = some (r1, r2) := by rw [if_pos rfl] at H; exact H
    clear H
    have H := H1
    clear H1
    simp only [Option.some.injEq, Prod.mk.injEq] at H
    obtain ⟨rfl, rfl⟩ := H
    go_wp2
    go_ret2
    exact ⟨re, skB HB.out⟩
   ·
    replace c6 := Bool.eq_false_iff.mpr c6
    subst c6
    have H1 : ((larchref17_keys.f kj2 l0).bind fun bt726 => (larchref17_Sound.l0 kj2 l0 bt726.1 0)) = some (r1, r2) := by rw [if_neg (show ¬ (false = true) by decide)] at H; exact H
    clear H
    have H := H1
    clear H1
    replace H := Option.bind_eq_some_iff.mp H
    obtain ⟨⟨t726, t727⟩, A70, H⟩ := H
    replace H : (larchref17_Sound.l0 kj2 l0 t726 0) = some (r1, r2) := H
    have A7 := asd A70
    clear A70
    have H' := asd H
    clear H
    go_wp2_with (first | ((with_reducible refine gate_callee (f := 46) rfl ?_); refine goesL_ (some 25) rfl rfl Try.func46 (by kernel_rfl) rfl #[.slice A0 l0.length c0] rfl ags ?_; (with_reducible refine (larchref17_keys.calls kj2 _ _ l0 t726 t727 _ ?side1 ?side2 A7.out).mono ?_); (case side1 => exact skC (Kd.C_below HR0.out HB.out)); (case side2 => exact HC0.out); rintro e w8 ⟨v728, rfl, ho0, hb⟩; refine ⟨_, rfl, ?_⟩; have n0_ := asd (Kd.R_lower ho0 (below_size (skB HB.out))); have n1_ := asd (below_step (skB HB.out) hb); clear HB; have HO729 := n0_; have HB := n1_; clear n0_ n1_; (try clear hb); (try clear hb2); (try clear hk); (try clear hi); (try clear ho0)))
    go_loopg [9] kj2 (fun kq v9 w' => ∃ (x9_2 : Int), v9 = .int .i64 x9_2 ∧ Aside0 (larchref17_Sound.l0 kq l0 t726 x9_2 = some (r1, r2)) ∧ Aside0 (kq ≤ kj2) ∧ Aside0 (Kd.R (Kd.int .i64) 3 w' w.heap.size (fun _ => True) v728 t726) ∧ Aside0 (Below w.heap.size w w'))
    case atStart => exact ⟨(0), rs, H', ⟨Nat.le_refl _⟩, ⟨skR HO729.out⟩, ⟨skB HB.out⟩⟩
    case round =>
     clear H'
     try clear p2
     try clear c3
     try clear c4
     try clear c5
     try clear c5b0
     try clear c5b1
     try clear c6
     try clear p2
     obtain ⟨x9_2, rfl, HA, HK2, HO_7, HB⟩ := hrel
     cases gk with
     | zero => exact absurd HA.out (by simp [larchref17_Sound.l0])
     | succ k2 =>
      have H := HA.out
      clear HA
      simp only [larchref17_Sound.l0] at H
      by_cases c9 : x9_2 < (t726.length : Int)
      ·
       rw [if_pos c9] at H
       have c9b0 : decide (x9_2 < (t726.length : Int)) = true := decide_eq_true c9
       clear c9
       by_cases c10 : x9_2 = 0
       ·
        rw [if_pos c10] at H
        have c10b0 : (x9_2 == 0) = true := beq_iff_eq.mpr c10
        have c10b1 : (x9_2 != 0) = false := bne_eq_false_iff_eq.mpr c10
        clear c10
        by_cases c11 : 0 ≤ x9_2
        ·
         rw [if_pos c11] at H
         have c11b0 : decide (0 ≤ x9_2) = true := decide_eq_true c11
         clear c11
         by_cases c12 : 0 ≤ (rd t726 x9_2)
         ·
          rw [if_pos c12] at H
          have c12b0 : decide (0 ≤ (rd t726 x9_2)) = true := decide_eq_true c12
          clear c12
          by_cases c13 : (rd t726 x9_2) < (l0.length : Int)
          ·
           rw [if_pos c13] at H
           have c13b0 : decide ((rd t726 x9_2) < (l0.length : Int)) = true := decide_eq_true c13
           clear c13
           by_cases c14 : ((J49 l0 (rd t726 x9_2)).f2) = 1
           ·
            rw [if_pos c14] at H
            have c14b0 : (((J49 l0 (rd t726 x9_2)).f2) == 1) = true := beq_iff_eq.mpr c14
            have c14b1 : (((J49 l0 (rd t726 x9_2)).f2) != 1) = false := bne_eq_false_iff_eq.mpr c14
            clear c14
            replace H := Option.bind_eq_some_iff.mp H
            obtain ⟨t734, A150, H⟩ := H
            replace H : (if t734 = true then (if ((J49 l0 (rd t726 x9_2)).f2) < 1 then (some (false, 0)) else (larchref17_Sound.l0 k2 l0 t726 (wrap64 (x9_2 + 1)))) else (larchref17_Sound.l0 k2 l0 t726 (wrap64 (x9_2 + 1)))) = some (r1, r2) := H
            have A15 := asd A150
            clear A150
            by_cases c16 : t734 = true
            ·
             subst c16
             have H1 : (if ((J49 l0 (rd t726 x9_2)).f2) < 1 then (some (false, 0)) else (larchref17_Sound.l0 k2 l0 t726 (wrap64 (x9_2 + 1)))) = some (r1, r2) := by rw [if_pos rfl] at H; exact H
             clear H
             have H := H1
             clear H1
             by_cases c17 : ((J49 l0 (rd t726 x9_2)).f2) < 1
             ·
              rw [if_pos c17] at H
              have c17b0 : decide (((J49 l0 (rd t726 x9_2)).f2) < 1) = true := decide_eq_true c17
              clear c17
              simp only [Option.some.injEq, Prod.mk.injEq] at H
              obtain ⟨rfl, rfl⟩ := H
              obtain ⟨Ao18, co18, eo18⟩ := Kd.R_slice HO_7.out
              subst eo18
              have p730 : 0 ≤ (x9_2 : Int) := dt
              have q730 : x9_2 < (t726.length : Int) := dt
              obtain ⟨ad730, e730, hx730_0⟩ := Kd.at_int (Kd.R_reads' HO_7.out).2.2 x9_2 p730 q730
              cases e730
              replace p730 := eq_true p730
              replace q730 := eq_true q730
              have p731 : 0 ≤ ((rd t726 x9_2) : Int) := dt
              have q731 : (rd t726 x9_2) < (l0.length : Int) := dt
              obtain ⟨ad731, e731, hx731_0, hx731_1, hx731_2, hx731_3, hx731_4, hx731_5⟩ := at_T49 HR0.out (rd t726 x9_2) p731 q731
              cases e731
              replace hx731_0 := skc HB.out hx731_0
              replace hx731_1 := skc HB.out hx731_1
              replace hx731_2 := skc HB.out hx731_2
              replace hx731_3 := skc HB.out hx731_3
              replace hx731_4 := skc HB.out hx731_4
              replace hx731_5 := skc HB.out hx731_5
              replace p731 := eq_true p731
              replace q731 := eq_true q731
              have p732 : 0 ≤ (x9_2 : Int) := dt
              have q732 : x9_2 < (t726.length : Int) := dt
              obtain ⟨ad732, e732, hx732_0⟩ := Kd.at_int (Kd.R_reads' HO_7.out).2.2 x9_2 p732 q732
              obtain rfl : ad730 = ad732 := (by injection e732)
              replace p732 := eq_true p732
              replace q732 := eq_true q732
              have p733 : 0 ≤ ((rd t726 x9_2) : Int) := dt
              have q733 : (rd t726 x9_2) < (l0.length : Int) := dt
              obtain ⟨ad733, e733, hx733_0, hx733_1, hx733_2, hx733_3, hx733_4, hx733_5⟩ := at_T49 HR0.out (rd t726 x9_2) p733 q733
              obtain rfl : ad731 = ad733 := (by injection e733)
              replace hx733_0 := skc HB.out hx733_0
              replace hx733_1 := skc HB.out hx733_1
              replace hx733_2 := skc HB.out hx733_2
              replace hx733_3 := skc HB.out hx733_3
              replace hx733_4 := skc HB.out hx733_4
              replace hx733_5 := skc HB.out hx733_5
              replace p733 := eq_true p733
              replace q733 := eq_true q733
              go_wp2_with (first | (go_at_call 53; (with_reducible refine (larchref17_leaf.calls ((J49 l0 (rd t726 x9_2)).f0) ((J49 l0 (rd t726 x9_2)).f1) ((J49 l0 (rd t726 x9_2)).f2) ((J49 l0 (rd t726 x9_2)).f3) ((J49 l0 (rd t726 x9_2)).f4) ((J49 l0 (rd t726 x9_2)).f5) true _ A15.out).mono ?_); rintro e w19 ⟨rfl, hb⟩; have n0_ := asd (Kd.R_below (skR HO_7.out) hb); have n1_ := asd (below_step (skB HB.out) hb); clear HO_7; clear HB; have HO_7 := n0_; have HB := n1_; clear n0_ n1_; (try clear hb); (try clear hb2); (try clear hk); (try clear hi); have p735 : 0 ≤ (x9_2 : Int) := dt; have q735 : x9_2 < (t726.length : Int) := dt; obtain ⟨ad735, e735, hx735_0⟩ := Kd.at_int (Kd.R_reads' HO_7.out).2.2 x9_2 p735 q735; obtain rfl : ad730 = ad735 := (by injection e735); replace p735 := eq_true p735; replace q735 := eq_true q735; have p736 : 0 ≤ ((rd t726 x9_2) : Int) := dt; have q736 : (rd t726 x9_2) < (l0.length : Int) := dt; obtain ⟨ad736, e736, hx736_0, hx736_1, hx736_2, hx736_3, hx736_4, hx736_5⟩ := at_T49 HR0.out (rd t726 x9_2) p736 q736; obtain rfl : ad731 = ad736 := (by injection e736); replace hx736_0 := skc HB.out hx736_0; replace hx736_1 := skc HB.out hx736_1; replace hx736_2 := skc HB.out hx736_2; replace hx736_3 := skc HB.out hx736_3; replace hx736_4 := skc HB.out hx736_4; replace hx736_5 := skc HB.out hx736_5; replace p736 := eq_true p736; replace q736 := eq_true q736))
              go_ret2
              exact ⟨re, skB HB.out⟩
             ·
              rw [if_neg c17] at H
              have c17b0 : decide (((J49 l0 (rd t726 x9_2)).f2) < 1) = false := decide_eq_false c17
              clear c17
              have H' := asd H
              clear H
              obtain ⟨Ao20, co20, eo20⟩ := Kd.R_slice HO_7.out
              subst eo20
              have p730 : 0 ≤ (x9_2 : Int) := dt
              have q730 : x9_2 < (t726.length : Int) := dt
              obtain ⟨ad730, e730, hx730_0⟩ := Kd.at_int (Kd.R_reads' HO_7.out).2.2 x9_2 p730 q730
              cases e730
              replace p730 := eq_true p730
              replace q730 := eq_true q730
              have p731 : 0 ≤ ((rd t726 x9_2) : Int) := dt
              have q731 : (rd t726 x9_2) < (l0.length : Int) := dt
              obtain ⟨ad731, e731, hx731_0, hx731_1, hx731_2, hx731_3, hx731_4, hx731_5⟩ := at_T49 HR0.out (rd t726 x9_2) p731 q731
              cases e731
              replace hx731_0 := skc HB.out hx731_0
              replace hx731_1 := skc HB.out hx731_1
              replace hx731_2 := skc HB.out hx731_2
              replace hx731_3 := skc HB.out hx731_3
              replace hx731_4 := skc HB.out hx731_4
              replace hx731_5 := skc HB.out hx731_5
              replace p731 := eq_true p731
              replace q731 := eq_true q731
              have p732 : 0 ≤ (x9_2 : Int) := dt
              have q732 : x9_2 < (t726.length : Int) := dt
              obtain ⟨ad732, e732, hx732_0⟩ := Kd.at_int (Kd.R_reads' HO_7.out).2.2 x9_2 p732 q732
              obtain rfl : ad730 = ad732 := (by injection e732)
              replace p732 := eq_true p732
              replace q732 := eq_true q732
              have p733 : 0 ≤ ((rd t726 x9_2) : Int) := dt
              have q733 : (rd t726 x9_2) < (l0.length : Int) := dt
              obtain ⟨ad733, e733, hx733_0, hx733_1, hx733_2, hx733_3, hx733_4, hx733_5⟩ := at_T49 HR0.out (rd t726 x9_2) p733 q733
              obtain rfl : ad731 = ad733 := (by injection e733)
              replace hx733_0 := skc HB.out hx733_0
              replace hx733_1 := skc HB.out hx733_1
              replace hx733_2 := skc HB.out hx733_2
              replace hx733_3 := skc HB.out hx733_3
              replace hx733_4 := skc HB.out hx733_4
              replace hx733_5 := skc HB.out hx733_5
              replace p733 := eq_true p733
              replace q733 := eq_true q733
              go_wp2_with (first | (go_at_call 53; (with_reducible refine (larchref17_leaf.calls ((J49 l0 (rd t726 x9_2)).f0) ((J49 l0 (rd t726 x9_2)).f1) ((J49 l0 (rd t726 x9_2)).f2) ((J49 l0 (rd t726 x9_2)).f3) ((J49 l0 (rd t726 x9_2)).f4) ((J49 l0 (rd t726 x9_2)).f5) true _ A15.out).mono ?_); rintro e w21 ⟨rfl, hb⟩; have n0_ := asd (Kd.R_below (skR HO_7.out) hb); have n1_ := asd (below_step (skB HB.out) hb); clear HO_7; clear HB; have HO_7 := n0_; have HB := n1_; clear n0_ n1_; (try clear hb); (try clear hb2); (try clear hk); (try clear hi); have p735 : 0 ≤ (x9_2 : Int) := dt; have q735 : x9_2 < (t726.length : Int) := dt; obtain ⟨ad735, e735, hx735_0⟩ := Kd.at_int (Kd.R_reads' HO_7.out).2.2 x9_2 p735 q735; obtain rfl : ad730 = ad735 := (by injection e735); replace p735 := eq_true p735; replace q735 := eq_true q735; have p736 : 0 ≤ ((rd t726 x9_2) : Int) := dt; have q736 : (rd t726 x9_2) < (l0.length : Int) := dt; obtain ⟨ad736, e736, hx736_0, hx736_1, hx736_2, hx736_3, hx736_4, hx736_5⟩ := at_T49 HR0.out (rd t726 x9_2) p736 q736; obtain rfl : ad731 = ad736 := (by injection e736); replace hx736_0 := skc HB.out hx736_0; replace hx736_1 := skc HB.out hx736_1; replace hx736_2 := skc HB.out hx736_2; replace hx736_3 := skc HB.out hx736_3; replace hx736_4 := skc HB.out hx736_4; replace hx736_5 := skc HB.out hx736_5; replace p736 := eq_true p736; replace q736 := eq_true q736))
              go_roundg k2
              case measure => have := HJ2.out; have := HK2.out; omega
              case rel => exact ⟨(wrap64 (x9_2 + 1)), rs, H', ⟨by have := HJ2.out; have := HK2.out; omega⟩, ⟨skR HO_7.out⟩, ⟨skB HB.out⟩⟩
            ·
             replace c16 := Bool.eq_false_iff.mpr c16
             subst c16
             have H1 : (larchref17_Sound.l0 k2 l0 t726 (wrap64 (x9_2 + 1))) = some (r1, r2) := by rw [if_neg (show ¬ (false = true) by decide)] at H; exact H
             clear H
             have H := H1
             clear H1
             have H' := asd H
             clear H
             obtain ⟨Ao22, co22, eo22⟩ := Kd.R_slice HO_7.out
             subst eo22
             have p730 : 0 ≤ (x9_2 : Int) := dt
             have q730 : x9_2 < (t726.length : Int) := dt
             obtain ⟨ad730, e730, hx730_0⟩ := Kd.at_int (Kd.R_reads' HO_7.out).2.2 x9_2 p730 q730
             cases e730
             replace p730 := eq_true p730
             replace q730 := eq_true q730
             have p731 : 0 ≤ ((rd t726 x9_2) : Int) := dt
             have q731 : (rd t726 x9_2) < (l0.length : Int) := dt
             obtain ⟨ad731, e731, hx731_0, hx731_1, hx731_2, hx731_3, hx731_4, hx731_5⟩ := at_T49 HR0.out (rd t726 x9_2) p731 q731
             cases e731
             replace hx731_0 := skc HB.out hx731_0
             replace hx731_1 := skc HB.out hx731_1
             replace hx731_2 := skc HB.out hx731_2
             replace hx731_3 := skc HB.out hx731_3
             replace hx731_4 := skc HB.out hx731_4
             replace hx731_5 := skc HB.out hx731_5
             replace p731 := eq_true p731
             replace q731 := eq_true q731
             have p732 : 0 ≤ (x9_2 : Int) := dt
             have q732 : x9_2 < (t726.length : Int) := dt
             obtain ⟨ad732, e732, hx732_0⟩ := Kd.at_int (Kd.R_reads' HO_7.out).2.2 x9_2 p732 q732
             obtain rfl : ad730 = ad732 := (by injection e732)
             replace p732 := eq_true p732
             replace q732 := eq_true q732
             have p733 : 0 ≤ ((rd t726 x9_2) : Int) := dt
             have q733 : (rd t726 x9_2) < (l0.length : Int) := dt
             obtain ⟨ad733, e733, hx733_0, hx733_1, hx733_2, hx733_3, hx733_4, hx733_5⟩ := at_T49 HR0.out (rd t726 x9_2) p733 q733
             obtain rfl : ad731 = ad733 := (by injection e733)
             replace hx733_0 := skc HB.out hx733_0
             replace hx733_1 := skc HB.out hx733_1
             replace hx733_2 := skc HB.out hx733_2
             replace hx733_3 := skc HB.out hx733_3
             replace hx733_4 := skc HB.out hx733_4
             replace hx733_5 := skc HB.out hx733_5
             replace p733 := eq_true p733
             replace q733 := eq_true q733
             go_wp2_with (first | (go_at_call 53; (with_reducible refine (larchref17_leaf.calls ((J49 l0 (rd t726 x9_2)).f0) ((J49 l0 (rd t726 x9_2)).f1) ((J49 l0 (rd t726 x9_2)).f2) ((J49 l0 (rd t726 x9_2)).f3) ((J49 l0 (rd t726 x9_2)).f4) ((J49 l0 (rd t726 x9_2)).f5) false _ A15.out).mono ?_); rintro e w23 ⟨rfl, hb⟩; have n0_ := asd (Kd.R_below (skR HO_7.out) hb); have n1_ := asd (below_step (skB HB.out) hb); clear HO_7; clear HB; have HO_7 := n0_; have HB := n1_; clear n0_ n1_; (try clear hb); (try clear hb2); (try clear hk); (try clear hi)))
             go_roundg k2
             case measure => have := HJ2.out; have := HK2.out; omega
             case rel => exact ⟨(wrap64 (x9_2 + 1)), rs, H', ⟨by have := HJ2.out; have := HK2.out; omega⟩, ⟨skR HO_7.out⟩, ⟨skB HB.out⟩⟩
           ·
            rw [if_neg c14] at H
            have c14b0 : (((J49 l0 (rd t726 x9_2)).f2) == 1) = false := beq_eq_false_iff_ne.mpr c14
            have c14b1 : (((J49 l0 (rd t726 x9_2)).f2) != 1) = true := bne_iff_ne.mpr c14
            simp only [Option.some.injEq, Prod.mk.injEq] at H
            obtain ⟨rfl, rfl⟩ := H
            obtain ⟨Ao24, co24, eo24⟩ := Kd.R_slice HO_7.out
            subst eo24
            have p730 : 0 ≤ (x9_2 : Int) := dt
            have q730 : x9_2 < (t726.length : Int) := dt
            obtain ⟨ad730, e730, hx730_0⟩ := Kd.at_int (Kd.R_reads' HO_7.out).2.2 x9_2 p730 q730
            cases e730
            replace p730 := eq_true p730
            replace q730 := eq_true q730
            have p731 : 0 ≤ ((rd t726 x9_2) : Int) := dt
            have q731 : (rd t726 x9_2) < (l0.length : Int) := dt
            obtain ⟨ad731, e731, hx731_0, hx731_1, hx731_2, hx731_3, hx731_4, hx731_5⟩ := at_T49 HR0.out (rd t726 x9_2) p731 q731
            cases e731
            replace hx731_0 := skc HB.out hx731_0
            replace hx731_1 := skc HB.out hx731_1
            replace hx731_2 := skc HB.out hx731_2
            replace hx731_3 := skc HB.out hx731_3
            replace hx731_4 := skc HB.out hx731_4
            replace hx731_5 := skc HB.out hx731_5
            replace p731 := eq_true p731
            replace q731 := eq_true q731
            go_wp2
            go_ret2
            exact ⟨re, skB HB.out⟩
          ·
           rw [if_neg c13] at H
           exact absurd H (by simp)
         ·
          rw [if_neg c12] at H
          exact absurd H (by simp)
        ·
         rw [if_neg c11] at H
         exact absurd H (by simp)
       ·
        rw [if_neg c10] at H
        have c10b0 : (x9_2 == 0) = false := beq_eq_false_iff_ne.mpr c10
        have c10b1 : (x9_2 != 0) = true := bne_iff_ne.mpr c10
        by_cases c25 : 0 ≤ x9_2
        ·
         rw [if_pos c25] at H
         have c25b0 : decide (0 ≤ x9_2) = true := decide_eq_true c25
         clear c25
         by_cases c26 : 0 ≤ (rd t726 x9_2)
         ·
          rw [if_pos c26] at H
          have c26b0 : decide (0 ≤ (rd t726 x9_2)) = true := decide_eq_true c26
          clear c26
          by_cases c27 : (rd t726 x9_2) < (l0.length : Int)
          ·
           rw [if_pos c27] at H
           have c27b0 : decide ((rd t726 x9_2) < (l0.length : Int)) = true := decide_eq_true c27
           clear c27
           replace H := Option.bind_eq_some_iff.mp H
           obtain ⟨t739, A280, H⟩ := H
           replace H : (if t739 = true then (if ((J49 l0 (rd t726 x9_2)).f2) < 1 then (some (false, 0)) else (larchref17_Sound.l0 k2 l0 t726 (wrap64 (x9_2 + 1)))) else (larchref17_Sound.l0 k2 l0 t726 (wrap64 (x9_2 + 1)))) = some (r1, r2) := H
           have A28 := asd A280
           clear A280
           by_cases c29 : t739 = true
           ·
            subst c29
            have H1 : (if ((J49 l0 (rd t726 x9_2)).f2) < 1 then (some (false, 0)) else (larchref17_Sound.l0 k2 l0 t726 (wrap64 (x9_2 + 1)))) = some (r1, r2) := by rw [if_pos rfl] at H; exact H
            clear H
            have H := H1
            clear H1
            by_cases c30 : ((J49 l0 (rd t726 x9_2)).f2) < 1
            ·
             rw [if_pos c30] at H
             have c30b0 : decide (((J49 l0 (rd t726 x9_2)).f2) < 1) = true := decide_eq_true c30
             clear c30
             simp only [Option.some.injEq, Prod.mk.injEq] at H
             obtain ⟨rfl, rfl⟩ := H
             obtain ⟨Ao31, co31, eo31⟩ := Kd.R_slice HO_7.out
             subst eo31
             have p737 : 0 ≤ (x9_2 : Int) := dt
             have q737 : x9_2 < (t726.length : Int) := dt
             obtain ⟨ad737, e737, hx737_0⟩ := Kd.at_int (Kd.R_reads' HO_7.out).2.2 x9_2 p737 q737
             cases e737
             replace p737 := eq_true p737
             replace q737 := eq_true q737
             have p738 : 0 ≤ ((rd t726 x9_2) : Int) := dt
             have q738 : (rd t726 x9_2) < (l0.length : Int) := dt
             obtain ⟨ad738, e738, hx738_0, hx738_1, hx738_2, hx738_3, hx738_4, hx738_5⟩ := at_T49 HR0.out (rd t726 x9_2) p738 q738
             cases e738
             replace hx738_0 := skc HB.out hx738_0
             replace hx738_1 := skc HB.out hx738_1
             replace hx738_2 := skc HB.out hx738_2
             replace hx738_3 := skc HB.out hx738_3
             replace hx738_4 := skc HB.out hx738_4
             replace hx738_5 := skc HB.out hx738_5
             replace p738 := eq_true p738
             replace q738 := eq_true q738
             go_wp2_with (first | (go_at_call 53; (with_reducible refine (larchref17_leaf.calls ((J49 l0 (rd t726 x9_2)).f0) ((J49 l0 (rd t726 x9_2)).f1) ((J49 l0 (rd t726 x9_2)).f2) ((J49 l0 (rd t726 x9_2)).f3) ((J49 l0 (rd t726 x9_2)).f4) ((J49 l0 (rd t726 x9_2)).f5) true _ A28.out).mono ?_); rintro e w32 ⟨rfl, hb⟩; have n0_ := asd (Kd.R_below (skR HO_7.out) hb); have n1_ := asd (below_step (skB HB.out) hb); clear HO_7; clear HB; have HO_7 := n0_; have HB := n1_; clear n0_ n1_; (try clear hb); (try clear hb2); (try clear hk); (try clear hi); have p740 : 0 ≤ (x9_2 : Int) := dt; have q740 : x9_2 < (t726.length : Int) := dt; obtain ⟨ad740, e740, hx740_0⟩ := Kd.at_int (Kd.R_reads' HO_7.out).2.2 x9_2 p740 q740; obtain rfl : ad737 = ad740 := (by injection e740); replace p740 := eq_true p740; replace q740 := eq_true q740; have p741 : 0 ≤ ((rd t726 x9_2) : Int) := dt; have q741 : (rd t726 x9_2) < (l0.length : Int) := dt; obtain ⟨ad741, e741, hx741_0, hx741_1, hx741_2, hx741_3, hx741_4, hx741_5⟩ := at_T49 HR0.out (rd t726 x9_2) p741 q741; obtain rfl : ad738 = ad741 := (by injection e741); replace hx741_0 := skc HB.out hx741_0; replace hx741_1 := skc HB.out hx741_1; replace hx741_2 := skc HB.out hx741_2; replace hx741_3 := skc HB.out hx741_3; replace hx741_4 := skc HB.out hx741_4; replace hx741_5 := skc HB.out hx741_5; replace p741 := eq_true p741; replace q741 := eq_true q741))
             go_ret2
             exact ⟨re, skB HB.out⟩
            ·
             rw [if_neg c30] at H
             have c30b0 : decide (((J49 l0 (rd t726 x9_2)).f2) < 1) = false := decide_eq_false c30
             clear c30
             have H' := asd H
             clear H
             obtain ⟨Ao33, co33, eo33⟩ := Kd.R_slice HO_7.out
             subst eo33
             have p737 : 0 ≤ (x9_2 : Int) := dt
             have q737 : x9_2 < (t726.length : Int) := dt
             obtain ⟨ad737, e737, hx737_0⟩ := Kd.at_int (Kd.R_reads' HO_7.out).2.2 x9_2 p737 q737
             cases e737
             replace p737 := eq_true p737
             replace q737 := eq_true q737
             have p738 : 0 ≤ ((rd t726 x9_2) : Int) := dt
             have q738 : (rd t726 x9_2) < (l0.length : Int) := dt
             obtain ⟨ad738, e738, hx738_0, hx738_1, hx738_2, hx738_3, hx738_4, hx738_5⟩ := at_T49 HR0.out (rd t726 x9_2) p738 q738
             cases e738
             replace hx738_0 := skc HB.out hx738_0
             replace hx738_1 := skc HB.out hx738_1
             replace hx738_2 := skc HB.out hx738_2
             replace hx738_3 := skc HB.out hx738_3
             replace hx738_4 := skc HB.out hx738_4
             replace hx738_5 := skc HB.out hx738_5
             replace p738 := eq_true p738
             replace q738 := eq_true q738
             go_wp2_with (first | (go_at_call 53; (with_reducible refine (larchref17_leaf.calls ((J49 l0 (rd t726 x9_2)).f0) ((J49 l0 (rd t726 x9_2)).f1) ((J49 l0 (rd t726 x9_2)).f2) ((J49 l0 (rd t726 x9_2)).f3) ((J49 l0 (rd t726 x9_2)).f4) ((J49 l0 (rd t726 x9_2)).f5) true _ A28.out).mono ?_); rintro e w34 ⟨rfl, hb⟩; have n0_ := asd (Kd.R_below (skR HO_7.out) hb); have n1_ := asd (below_step (skB HB.out) hb); clear HO_7; clear HB; have HO_7 := n0_; have HB := n1_; clear n0_ n1_; (try clear hb); (try clear hb2); (try clear hk); (try clear hi); have p740 : 0 ≤ (x9_2 : Int) := dt; have q740 : x9_2 < (t726.length : Int) := dt; obtain ⟨ad740, e740, hx740_0⟩ := Kd.at_int (Kd.R_reads' HO_7.out).2.2 x9_2 p740 q740; obtain rfl : ad737 = ad740 := (by injection e740); replace p740 := eq_true p740; replace q740 := eq_true q740; have p741 : 0 ≤ ((rd t726 x9_2) : Int) := dt; have q741 : (rd t726 x9_2) < (l0.length : Int) := dt; obtain ⟨ad741, e741, hx741_0, hx741_1, hx741_2, hx741_3, hx741_4, hx741_5⟩ := at_T49 HR0.out (rd t726 x9_2) p741 q741; obtain rfl : ad738 = ad741 := (by injection e741); replace hx741_0 := skc HB.out hx741_0; replace hx741_1 := skc HB.out hx741_1; replace hx741_2 := skc HB.out hx741_2; replace hx741_3 := skc HB.out hx741_3; replace hx741_4 := skc HB.out hx741_4; replace hx741_5 := skc HB.out hx741_5; replace p741 := eq_true p741; replace q741 := eq_true q741))
             go_roundg k2
             case measure => have := HJ2.out; have := HK2.out; omega
             case rel => exact ⟨(wrap64 (x9_2 + 1)), rs, H', ⟨by have := HJ2.out; have := HK2.out; omega⟩, ⟨skR HO_7.out⟩, ⟨skB HB.out⟩⟩
           ·
            replace c29 := Bool.eq_false_iff.mpr c29
            subst c29
            have H1 : (larchref17_Sound.l0 k2 l0 t726 (wrap64 (x9_2 + 1))) = some (r1, r2) := by rw [if_neg (show ¬ (false = true) by decide)] at H; exact H
            clear H
            have H := H1
            clear H1
            have H' := asd H
            clear H
            obtain ⟨Ao35, co35, eo35⟩ := Kd.R_slice HO_7.out
            subst eo35
            have p737 : 0 ≤ (x9_2 : Int) := dt
            have q737 : x9_2 < (t726.length : Int) := dt
            obtain ⟨ad737, e737, hx737_0⟩ := Kd.at_int (Kd.R_reads' HO_7.out).2.2 x9_2 p737 q737
            cases e737
            replace p737 := eq_true p737
            replace q737 := eq_true q737
            have p738 : 0 ≤ ((rd t726 x9_2) : Int) := dt
            have q738 : (rd t726 x9_2) < (l0.length : Int) := dt
            obtain ⟨ad738, e738, hx738_0, hx738_1, hx738_2, hx738_3, hx738_4, hx738_5⟩ := at_T49 HR0.out (rd t726 x9_2) p738 q738
            cases e738
            replace hx738_0 := skc HB.out hx738_0
            replace hx738_1 := skc HB.out hx738_1
            replace hx738_2 := skc HB.out hx738_2
            replace hx738_3 := skc HB.out hx738_3
            replace hx738_4 := skc HB.out hx738_4
            replace hx738_5 := skc HB.out hx738_5
            replace p738 := eq_true p738
            replace q738 := eq_true q738
            go_wp2_with (first | (go_at_call 53; (with_reducible refine (larchref17_leaf.calls ((J49 l0 (rd t726 x9_2)).f0) ((J49 l0 (rd t726 x9_2)).f1) ((J49 l0 (rd t726 x9_2)).f2) ((J49 l0 (rd t726 x9_2)).f3) ((J49 l0 (rd t726 x9_2)).f4) ((J49 l0 (rd t726 x9_2)).f5) false _ A28.out).mono ?_); rintro e w36 ⟨rfl, hb⟩; have n0_ := asd (Kd.R_below (skR HO_7.out) hb); have n1_ := asd (below_step (skB HB.out) hb); clear HO_7; clear HB; have HO_7 := n0_; have HB := n1_; clear n0_ n1_; (try clear hb); (try clear hb2); (try clear hk); (try clear hi)))
            go_roundg k2
            case measure => have := HJ2.out; have := HK2.out; omega
            case rel => exact ⟨(wrap64 (x9_2 + 1)), rs, H', ⟨by have := HJ2.out; have := HK2.out; omega⟩, ⟨skR HO_7.out⟩, ⟨skB HB.out⟩⟩
          ·
           rw [if_neg c27] at H
           exact absurd H (by simp)
         ·
          rw [if_neg c26] at H
          exact absurd H (by simp)
        ·
         rw [if_neg c25] at H
         exact absurd H (by simp)
      ·
       rw [if_neg c9] at H
       have c9b0 : decide (x9_2 < (t726.length : Int)) = false := decide_eq_false c9
       clear c9
       simp only [Option.some.injEq, Prod.mk.injEq] at H
       obtain ⟨rfl, rfl⟩ := H
       obtain ⟨Ao37, co37, eo37⟩ := Kd.R_slice HO_7.out
       subst eo37
       go_wp2
       go_ret2
       exact ⟨re, skB HB.out⟩
end Go.Proofs.Ytmmjkebboonnkaa.P
/- F62 -/
namespace Go.Proofs.Ytmmjkebboonnkaa.P
open Go.RowKit Go.Proofs.YtmmjkebboonnkaaW.PrintWords Go.Proofs.YtmmjkebboonnkaaW.PrintLast Go.Proofs.YtmmjkebboonnkaaW.PrintMore
attribute [local go_sem] max2_int min2_int max_two min_two max_three min_three max_four min_four   -- for this text's walks alone
set_option linter.unusedVariables false
set_option linter.unusedSimpArgs false
def larchref17_Total.l0 : Nat → List (S49) → List Int → Int → Int → Option (Int × Int)
 | 0, _, _, _, _ => none
 | k + 1, x0, x4, x6, x7 => if x7 < (x4.length : Int) then (if 0 ≤ x7 then (if 0 ≤ (rd x4 x7) then (if (rd x4 x7) < (x0.length : Int) then (larchref17_Total.l0 k x0 x4 (wrap64 (x6 + ((J49 x0 (rd x4 x7)).f2))) (wrap64 (x7 + 1))) else (none)) else (none)) else (none)) else (some (x6, 0))
def larchref17_Total.f (k : Nat) (l0 : List (S49)) : Option (Int × Int) := (larchref17_keys.f k l0).bind fun bt751 => (if bt751.2 = 0 then (larchref17_Total.l0 k l0 bt751.1 0 0) else (some (0, bt751.2)))
set_option maxHeartbeats 8000000 in
set_option maxRecDepth 100000 in
theorem larchref17_Total.calls (k : Nat) (A0 : Option Addr) (c0 : Nat) (l0 : List (S49)) (r1 : Int) (r2 : Int) (w : World) (hr0 : Kd.C k49 w A0 l0.length l0) (hc0 : l0.length ≤ c0) (h : larchref17_Total.f k l0 = some (r1, r2)) :
  Calls Try.prog 38 #[.slice A0 l0.length c0] w fun e w' => e = .returned (.tuple #[.int .i64 r1, .int .i64 r2]) ∧ Below w.heap.size w w' := by
 have HR0 := asd hr0
 have HC0 := asd hc0
 clear hr0 hc0
 have HB := asd (Below.refl w.heap.size w)
 have H : ((larchref17_keys.f k l0).bind fun bt751 => (if bt751.2 = 0 then (larchref17_Total.l0 k l0 bt751.1 0 0) else (some (0, bt751.2)))) = some (r1, r2) := h
 clear h
 replace H := Option.bind_eq_some_iff.mp H
 obtain ⟨⟨t751, t752⟩, A20, H⟩ := H
 replace H : (if t752 = 0 then (larchref17_Total.l0 k l0 t751 0 0) else (some (0, t752))) = some (r1, r2) := H
 have A2 := asd A20
 clear A20
 by_cases c3 : t752 = 0
 ·
  rw [if_pos c3] at H
  have c3b0 : (t752 == 0) = true := beq_iff_eq.mpr c3
  have c3b1 : (t752 != 0) = false := bne_eq_false_iff_eq.mpr c3
  clear c3
  have H' := asd H
  clear H
  go_enter Try.func38, Try.ntmps38
  go_wp2_with (first | ((with_reducible refine gate_callee (f := 46) rfl ?_); refine goesL_ (some 10) rfl rfl Try.func46 (by kernel_rfl) rfl #[.slice A0 l0.length c0] rfl ags ?_; (with_reducible refine (larchref17_keys.calls k _ _ l0 t751 t752 _ ?side1 ?side2 A2.out).mono ?_); (case side1 => exact skC HR0.out); (case side2 => exact HC0.out); rintro e w4 ⟨v753, rfl, ho0, hb⟩; refine ⟨_, rfl, ?_⟩; have n0_ := asd (Kd.R_lower ho0 (below_size (skB HB.out))); have n1_ := asd (below_step (skB HB.out) hb); clear HB; have HO754 := n0_; have HB := n1_; clear n0_ n1_; (try clear hb); (try clear hb2); (try clear hk); (try clear hi); (try clear ho0)))
  go_loopg [6, 7] k (fun kq v6 v7 w' => ∃ (x6_1 : Int) (x7_1 : Int), v6 = .int .i64 x6_1 ∧ v7 = .int .i64 x7_1 ∧ Aside0 (larchref17_Total.l0 kq l0 t751 x6_1 x7_1 = some (r1, r2)) ∧ Aside0 (kq ≤ k) ∧ Aside0 (Kd.R (Kd.int .i64) 3 w' w.heap.size (fun _ => True) v753 t751) ∧ Aside0 (Below w.heap.size w w'))
  case atStart => exact ⟨(0), (0), rs, rs, H', ⟨Nat.le_refl _⟩, ⟨skR HO754.out⟩, ⟨skB HB.out⟩⟩
  case round =>
   clear H'
   try clear p2
   try clear c3
   try clear c3b0
   try clear c3b1
   try clear c4
   obtain ⟨x6_1, x7_1, rfl, rfl, HA, HK1, HO_4, HB⟩ := hrel
   cases gk with
   | zero => exact absurd HA.out (by simp [larchref17_Total.l0])
   | succ k1 =>
    have H := HA.out
    clear HA
    simp only [larchref17_Total.l0] at H
    by_cases c5 : x7_1 < (t751.length : Int)
    ·
     rw [if_pos c5] at H
     have c5b0 : decide (x7_1 < (t751.length : Int)) = true := decide_eq_true c5
     clear c5
     by_cases c6 : 0 ≤ x7_1
     ·
      rw [if_pos c6] at H
      have c6b0 : decide (0 ≤ x7_1) = true := decide_eq_true c6
      clear c6
      by_cases c7 : 0 ≤ (rd t751 x7_1)
      ·
       rw [if_pos c7] at H
       have c7b0 : decide (0 ≤ (rd t751 x7_1)) = true := decide_eq_true c7
       clear c7
       by_cases c8 : (rd t751 x7_1) < (l0.length : Int)
       ·
        rw [if_pos c8] at H
        have c8b0 : decide ((rd t751 x7_1) < (l0.length : Int)) = true := decide_eq_true c8
        clear c8
        have H' := asd H
        clear H
        obtain ⟨Ao9, co9, eo9⟩ := Kd.R_slice HO_4.out
        subst eo9
        have p755 : 0 ≤ (x7_1 : Int) := dt
        have q755 : x7_1 < (t751.length : Int) := dt
        obtain ⟨ad755, e755, hx755_0⟩ := Kd.at_int (Kd.R_reads' HO_4.out).2.2 x7_1 p755 q755
        cases e755
        replace p755 := eq_true p755
        replace q755 := eq_true q755
        have p756 : 0 ≤ ((rd t751 x7_1) : Int) := dt
        have q756 : (rd t751 x7_1) < (l0.length : Int) := dt
        obtain ⟨ad756, e756, hx756_0, hx756_1, hx756_2, hx756_3, hx756_4, hx756_5⟩ := at_T49 HR0.out (rd t751 x7_1) p756 q756
        cases e756
        replace hx756_0 := skc HB.out hx756_0
        replace hx756_1 := skc HB.out hx756_1
        replace hx756_2 := skc HB.out hx756_2
        replace hx756_3 := skc HB.out hx756_3
        replace hx756_4 := skc HB.out hx756_4
        replace hx756_5 := skc HB.out hx756_5
        replace p756 := eq_true p756
        replace q756 := eq_true q756
        go_wp2
        go_roundg k1
        case measure => have := HK1.out; omega
        case rel => exact ⟨(wrap64 (x6_1 + ((J49 l0 (rd t751 x7_1)).f2))), (wrap64 (x7_1 + 1)), rs, rs, H', ⟨by have := HK1.out; omega⟩, ⟨skR HO_4.out⟩, ⟨skB HB.out⟩⟩
       ·
        rw [if_neg c8] at H
        exact absurd H (by simp)
      ·
       rw [if_neg c7] at H
       exact absurd H (by simp)
     ·
      rw [if_neg c6] at H
      exact absurd H (by simp)
    ·
     rw [if_neg c5] at H
     have c5b0 : decide (x7_1 < (t751.length : Int)) = false := decide_eq_false c5
     clear c5
     simp only [Option.some.injEq, Prod.mk.injEq] at H
     obtain ⟨rfl, rfl⟩ := H
     obtain ⟨Ao10, co10, eo10⟩ := Kd.R_slice HO_4.out
     subst eo10
     go_wp2
     go_ret2
     exact ⟨re, skB HB.out⟩
 ·
  rw [if_neg c3] at H
  have c3b0 : (t752 == 0) = false := beq_eq_false_iff_ne.mpr c3
  have c3b1 : (t752 != 0) = true := bne_iff_ne.mpr c3
  simp only [Option.some.injEq, Prod.mk.injEq] at H
  obtain ⟨rfl, rfl⟩ := H
  go_enter Try.func38, Try.ntmps38
  go_wp2_with (first | ((with_reducible refine gate_callee (f := 46) rfl ?_); refine goesL_ (some 10) rfl rfl Try.func46 (by kernel_rfl) rfl #[.slice A0 l0.length c0] rfl ags ?_; (with_reducible refine (larchref17_keys.calls k _ _ l0 t751 t752 _ ?side1 ?side2 A2.out).mono ?_); (case side1 => exact skC HR0.out); (case side2 => exact HC0.out); rintro e w11 ⟨v753, rfl, ho0, hb⟩; refine ⟨_, rfl, ?_⟩; have n0_ := asd (Kd.R_lower ho0 (below_size (skB HB.out))); have n1_ := asd (below_step (skB HB.out) hb); clear HB; have HO754 := n0_; have HB := n1_; clear n0_ n1_; (try clear hb); (try clear hb2); (try clear hk); (try clear hi); (try clear ho0)))
  go_ret2
  exact ⟨re, skB HB.out⟩
end Go.Proofs.Ytmmjkebboonnkaa.P
/- F64 -/
namespace Go.Proofs.Ytmmjkebboonnkaa.P
open Go.RowKit Go.Proofs.YtmmjkebboonnkaaW.PrintWords Go.Proofs.YtmmjkebboonnkaaW.PrintLast Go.Proofs.YtmmjkebboonnkaaW.PrintMore
attribute [local go_sem] max2_int min2_int max_two min_two max_three min_three max_four min_four   -- for this text's walks alone
set_option linter.unusedVariables false
set_option linter.unusedSimpArgs false
def larchref17_Bound.l0 : Nat → Int → Int → Option (Int × Int)
 | 0, _, _ => none
 | k + 1, x4, x5 => if x5 > 0 then (larchref17_Bound.l0 k (wrap64 (x4 + 1)) (IntKind.u64.wrap (Int.tdiv x5 2))) else (some (wrap64 ((wrap64 (2 * x4)) + 4), 0))
def larchref17_Bound.f (k : Nat) (a0 : Int) : Option (Int × Int) := if a0 < 0 then (some (0, 1)) else (larchref17_Bound.l0 k 0 (IntKind.u64.wrap ((IntKind.u64.wrap (a0)) + 1)))
set_option maxHeartbeats 8000000 in
set_option maxRecDepth 100000 in
theorem larchref17_Bound.calls (k : Nat) (a0 : Int) (r1 : Int) (r2 : Int) (w : World) (h : larchref17_Bound.f k a0 = some (r1, r2)) :
  Calls Try.prog 41 #[.int .i64 a0] w fun e w' => e = .returned (.tuple #[.int .i64 r1, .int .i64 r2]) ∧ Drawn0 w w' := by
 have H : (if a0 < 0 then (some (0, 1)) else (larchref17_Bound.l0 k 0 (IntKind.u64.wrap ((IntKind.u64.wrap (a0)) + 1)))) = some (r1, r2) := h
 clear h
 by_cases c2 : a0 < 0
 ·
  rw [if_pos c2] at H
  have c2b0 : decide (a0 < 0) = true := decide_eq_true c2
  clear c2
  simp only [Option.some.injEq, Prod.mk.injEq] at H
  obtain ⟨rfl, rfl⟩ := H
  go_enter Try.func41, Try.ntmps41
  go_wp2
  go_ret2
  exact ⟨by first | rfl | (simp; done) | (simp [*]; done), by repeat (first | exact Drawn0.refl _ | apply Drawn0.step)⟩
 ·
  rw [if_neg c2] at H
  have c2b0 : decide (a0 < 0) = false := decide_eq_false c2
  clear c2
  have H' := asd H
  clear H
  go_enter Try.func41, Try.ntmps41
  go_wp2
  go_loopg [4, 5] k (fun kq v4 v5 w' => ∃ (x4_1 : Int) (x5_1 : Int), v4 = .int .i64 x4_1 ∧ v5 = .int .u64 x5_1 ∧ Aside0 (larchref17_Bound.l0 kq x4_1 x5_1 = some (r1, r2)) ∧ Aside0 (kq ≤ k) ∧ Drawn0 w w')
  case atStart => exact ⟨(0), (IntKind.u64.wrap ((IntKind.u64.wrap (a0)) + 1)), rs, rs, H', ⟨Nat.le_refl _⟩, by repeat (first | exact Drawn0.refl _ | apply Drawn0.step)⟩
  case round =>
   clear H'
   try clear c2
   try clear c2b0
   try clear p2
   obtain ⟨x4_1, x5_1, rfl, rfl, HA, HK1, ⟨m1, rfl⟩⟩ := hrel
   cases gk with
   | zero => exact absurd HA.out (by simp [larchref17_Bound.l0])
   | succ k1 =>
    have H := HA.out
    clear HA
    simp only [larchref17_Bound.l0] at H
    by_cases c3 : x5_1 > 0
    ·
     rw [if_pos c3] at H
     have c3b0 : decide (0 < x5_1) = true := decide_eq_true c3
     clear c3
     have H' := asd H
     clear H
     go_wp2
     go_roundg k1
     case measure => have := HK1.out; omega
     case rel => exact ⟨(wrap64 (x4_1 + 1)), (IntKind.u64.wrap (Int.tdiv x5_1 2)), rs, rs, H', ⟨by have := HK1.out; omega⟩, by repeat (first | exact Drawn0.refl _ | apply Drawn0.step)⟩
    ·
     rw [if_neg c3] at H
     have c3b0 : decide (0 < x5_1) = false := decide_eq_false c3
     clear c3
     simp only [Option.some.injEq, Prod.mk.injEq] at H
     obtain ⟨rfl, rfl⟩ := H
     go_wp2
     go_ret2
     exact ⟨by first | rfl | (simp; done) | (simp [*]; done), by repeat (first | exact Drawn0.refl _ | apply Drawn0.step)⟩
end Go.Proofs.Ytmmjkebboonnkaa.P
