/- P.weighFaults_holds, part 4 of 23: the contracts of the Go functions that the law calls, its own walk, and its plain law, for every input that the statement speaks of. -/
import Derived.Test.YtmmjkebboonnkaaMFaults2
import Derived.Test.YtmmjkebboonnkaaMFaults1
set_option linter.unusedVariables false
set_option linter.unusedSimpArgs false
/- F32 -/
namespace Go.Proofs.Ytmmjkebboonnkaa.P
open Go.RowKit Go.Proofs.YtmmjkebboonnkaaW.PrintWords Go.Proofs.YtmmjkebboonnkaaW.PrintLast Go.Proofs.YtmmjkebboonnkaaW.PrintMore
attribute [local go_sem] max2_int min2_int max_two min_two max_three min_three max_four min_four   -- for this text's walks alone
set_option linter.unusedVariables false
set_option linter.unusedSimpArgs false
mutual
def larchref17_Check.l0 : Nat → List (S49) → List Int → Int → Option (Int)
 | 0, _, _, _ => none
 | k + 1, x0, x3, x4 => if x4 < (x0.length : Int) then (if 0 ≤ x4 then (if ((rd_T49 x0 x4).f1) = 0 then (if ((rd_T49 x0 x4).f1) = 1 then (if ((rd_T49 x0 x4).f0) = 0 then (if ((rd_T49 x0 x4).f3) = 0 then (if ((rd_T49 x0 x4).f2) < 0 then (larchref17_Check.j1 k x0 x3 x4 true ((rd_T49 x0 x4).f0) ((rd_T49 x0 x4).f1) ((rd_T49 x0 x4).f2) ((rd_T49 x0 x4).f3) ((rd_T49 x0 x4).f4) ((rd_T49 x0 x4).f5)) else (larchref17_Check.j1 k x0 x3 x4 (decide (((rd_T49 x0 x4).f2) > 1000000)) ((rd_T49 x0 x4).f0) ((rd_T49 x0 x4).f1) ((rd_T49 x0 x4).f2) ((rd_T49 x0 x4).f3) ((rd_T49 x0 x4).f4) ((rd_T49 x0 x4).f5))) else (larchref17_Check.j1 k x0 x3 x4 true ((rd_T49 x0 x4).f0) ((rd_T49 x0 x4).f1) ((rd_T49 x0 x4).f2) ((rd_T49 x0 x4).f3) ((rd_T49 x0 x4).f4) ((rd_T49 x0 x4).f5))) else (larchref17_Check.j1 k x0 x3 x4 true ((rd_T49 x0 x4).f0) ((rd_T49 x0 x4).f1) ((rd_T49 x0 x4).f2) ((rd_T49 x0 x4).f3) ((rd_T49 x0 x4).f4) ((rd_T49 x0 x4).f5))) else (if ((rd_T49 x0 x4).f2) < 0 then (larchref17_Check.j1 k x0 x3 x4 true ((rd_T49 x0 x4).f0) ((rd_T49 x0 x4).f1) ((rd_T49 x0 x4).f2) ((rd_T49 x0 x4).f3) ((rd_T49 x0 x4).f4) ((rd_T49 x0 x4).f5)) else (larchref17_Check.j1 k x0 x3 x4 (decide (((rd_T49 x0 x4).f2) > 1000000)) ((rd_T49 x0 x4).f0) ((rd_T49 x0 x4).f1) ((rd_T49 x0 x4).f2) ((rd_T49 x0 x4).f3) ((rd_T49 x0 x4).f4) ((rd_T49 x0 x4).f5)))) else (if ((rd_T49 x0 x4).f1) = 1 then (if ((rd_T49 x0 x4).f0) = 0 then (if ((rd_T49 x0 x4).f3) = 0 then (if ((rd_T49 x0 x4).f2) < 0 then (larchref17_Check.j1 k x0 x3 x4 true ((rd_T49 x0 x4).f0) ((rd_T49 x0 x4).f1) ((rd_T49 x0 x4).f2) ((rd_T49 x0 x4).f3) ((rd_T49 x0 x4).f4) ((rd_T49 x0 x4).f5)) else (larchref17_Check.j1 k x0 x3 x4 (decide (((rd_T49 x0 x4).f2) > 1000000)) ((rd_T49 x0 x4).f0) ((rd_T49 x0 x4).f1) ((rd_T49 x0 x4).f2) ((rd_T49 x0 x4).f3) ((rd_T49 x0 x4).f4) ((rd_T49 x0 x4).f5))) else (larchref17_Check.j1 k x0 x3 x4 true ((rd_T49 x0 x4).f0) ((rd_T49 x0 x4).f1) ((rd_T49 x0 x4).f2) ((rd_T49 x0 x4).f3) ((rd_T49 x0 x4).f4) ((rd_T49 x0 x4).f5))) else (larchref17_Check.j1 k x0 x3 x4 true ((rd_T49 x0 x4).f0) ((rd_T49 x0 x4).f1) ((rd_T49 x0 x4).f2) ((rd_T49 x0 x4).f3) ((rd_T49 x0 x4).f4) ((rd_T49 x0 x4).f5))) else (larchref17_Check.j1 k x0 x3 x4 true ((rd_T49 x0 x4).f0) ((rd_T49 x0 x4).f1) ((rd_T49 x0 x4).f2) ((rd_T49 x0 x4).f3) ((rd_T49 x0 x4).f4) ((rd_T49 x0 x4).f5)))) else (none)) else (larchref17_Check.l1 k x0 x3 1)
def larchref17_Check.j1 : Nat → List (S49) → List Int → Int → Bool → Int → Int → Int → Int → Int → Int → Option (Int)
 | 0, _, _, _, _, _, _, _, _, _, _ => none
 | k + 1, x0, x3, x4, x58, x327000, x327001, x327002, x327003, x327004, x327005 => if x58 = true then (some 3) else ((larchref17_leaf.f x327000 x327001 x327002 x327003 x327004 x327005).bind fun t327 => (if t327 = true then (larchref17_Check.l0 k x0 x3 (wrap64 (x4 + 1))) else (if x327003 = 0 then (if x327004 < 1 then (some 3) else (if x327004 ≥ (x0.length : Int) then (some 3) else (if x327005 < 1 then (some 3) else (if x327005 ≥ (x0.length : Int) then (some 3) else (if x327004 = x327005 then (some 3) else (if 0 ≤ x327004 then (if x327004 < (x3.length : Int) then ((some (x3.set (x327004 : Int).toNat (wrap64 ((rd x3 x327004) + 1)) : List Int)).bind fun y329 => (if 0 ≤ x327005 then (if x327005 < (x3.length : Int) then (larchref17_Check.l0 k x0 (y329.set (x327005 : Int).toNat (wrap64 ((rd y329 x327005) + 1))) (wrap64 (x4 + 1))) else (none)) else (none))) else (none)) else (none))))))) else (some 3))))
def larchref17_Check.l1 : Nat → List (S49) → List Int → Int → Option (Int)
 | 0, _, _, _ => none
 | k + 1, x0, x3, x6 => if x6 < (x0.length : Int) then (if 0 ≤ x6 then (if x6 < (x3.length : Int) then (if (rd x3 x6) = 1 then (larchref17_Check.l1 k x0 x3 (wrap64 (x6 + 1))) else (some 3)) else (none)) else (none)) else (if 0 < (x3.length : Int) then (if (rd x3 0) = 0 then ((larchref17_Order.f k x0 0).bind fun t334 => (if (t334.length : Int) = (x0.length : Int) then (some 0) else (some 3))) else (some 3)) else (none))
end
def larchref17_Check.f (k : Nat) (l0 : List (S49)) : Option (Int) := if (l0.length : Int) > 100000 then (some 2) else (if (l0.length : Int) = 0 then (some 3) else (if 0 ≤ (l0.length : Int) then (if ((l0.length : Int) : Int).toNat ≤ 35184372088832 then (larchref17_Check.l0 k l0 (List.replicate ((l0.length : Int) : Int).toNat 0) 0) else (none)) else (none)))
set_option maxHeartbeats 8000000 in
set_option maxRecDepth 100000 in
theorem larchref17_Check.calls (k : Nat) (A0 : Option Addr) (c0 : Nat) (l0 : List (S49)) (r : Int) (w : World) (hr0 : Kd.C k49 w A0 l0.length l0) (hc0 : l0.length ≤ c0) (h : larchref17_Check.f k l0 = some r) :
  Calls Try.prog 59 #[.slice A0 l0.length c0] w fun e w' => e = .returned (.int .i64 r) ∧ Below w.heap.size w w' := by
 have hu49 := Try.underlying49
 have HR0 := Aside0.mk hr0
 have HC0 := Aside0.mk hc0
 clear hr0 hc0
 have HB := Aside0.mk (Below.refl w.heap.size w)
 have H : (if (l0.length : Int) > 100000 then (some 2) else (if (l0.length : Int) = 0 then (some 3) else (if 0 ≤ (l0.length : Int) then (if ((l0.length : Int) : Int).toNat ≤ 35184372088832 then (larchref17_Check.l0 k l0 (List.replicate ((l0.length : Int) : Int).toNat 0) 0) else (none)) else (none)))) = some r := h
 clear h
 by_cases c2 : (l0.length : Int) > 100000
 ·
  rw [if_pos c2] at H
  have c2b0 : decide (100000 < (l0.length : Int)) = true := decide_eq_true c2
  have c2b1 : decide (100000 < l0.length) = true := decide_eq_true (by omega)
  clear c2
  obtain rfl := Option.some.inj H
  go_enter Try.func59, Try.ntmps59
  go_wp2
  go_ret
  exact ⟨re, skB HB.out⟩
 ·
  rw [if_neg c2] at H
  have c2b0 : decide (100000 < (l0.length : Int)) = false := decide_eq_false c2
  have c2b1 : decide (100000 < l0.length) = false := decide_eq_false (by omega)
  clear c2
  by_cases c3 : (l0.length : Int) = 0
  ·
   rw [if_pos c3] at H
   have c3b0 : ((l0.length : Int) == 0) = true := beq_iff_eq.mpr c3
   have c3b1 : ((l0.length : Int) != 0) = false := bne_eq_false_iff_eq.mpr c3
   clear c3
   obtain rfl := Option.some.inj H
   go_enter Try.func59, Try.ntmps59
   go_wp2
   go_ret
   exact ⟨re, skB HB.out⟩
  ·
   rw [if_neg c3] at H
   have c3b0 : ((l0.length : Int) == 0) = false := beq_eq_false_iff_ne.mpr c3
   have c3b1 : ((l0.length : Int) != 0) = true := bne_iff_ne.mpr c3
   have c3b2 : ¬ (l0 = []) := fun h_ => c3 (by rw [h_]; rfl)
   by_cases c4 : 0 ≤ (l0.length : Int)
   ·
    rw [if_pos c4] at H
    have c4b0 := eq_true c4
    have c4b1 : decide (0 ≤ (l0.length : Int)) = true := decide_eq_true c4
    clear c4
    by_cases c5 : ((l0.length : Int) : Int).toNat ≤ 35184372088832
    ·
     rw [if_pos c5] at H
     have c5b0 := eq_true c5
     have c5b1 : decide (((l0.length : Int) : Int).toNat ≤ 35184372088832) = true := decide_eq_true c5
     clear c5
     obtain ⟨y322, hy322⟩ : ∃ y_ : List Int, y_ = (List.replicate ((l0.length : Int) : Int).toNat 0) := ⟨_, rfl⟩
     replace H : (larchref17_Check.l0 k l0 y322 0) = some r := by first | (rw [hy322]; with_reducible exact H) | (have H2_ := (Option.bind_some _ _).symm.trans H; rw [hy322]; with_reducible exact H2_) | (have H2_ := (Option.bind_some _ _).symm.trans H; with_reducible exact H2_) | with_reducible exact H | (rw [hy322]; exact H) | exact H
     have Ny322 := Aside0.mk hy322
     clear hy322
     have H' := Aside0.mk H
     clear H
     go_enter Try.func59, Try.ntmps59
     go_wp2_with (first | ((with_reducible refine gate_dst (N := 15) rfl ?_); (try (refine gate_guard (by rfl) ?_; dsimp only)); refine Kd.R_make (Kd.int .i64) _ 3 rfl (N := 15) rfl 23 _ _ rfl (l0.length : Int) rfl rfl Try.underlying23 (.int .i64 0) 8 info3 rfl (by decide) (by omega) 0 (ok := fun _ => True) (okp := fun _ => True) rfl (fun _ hk => hk) trivial dt (Nat.le_trans (Nat.mul_le_mul_right _ (dt : (l0.length : Int).toNat ≤ 35184372088832)) (by omega)) (Below.refl _ _) (Nat.le_refl _) ?_; intro v323 w6 ho7 hb hg_ hnew_; clear hg_ hnew_; (first | rw [← Ny322.out] at ho7 | (simp only [Int.reduceToNat] at ho7; rw [← Ny322.out] at ho7)); have n0_ := Aside0.mk (Kd.R_lower ho7 (below_size (skB HB.out))); have n1_ := Aside0.mk (below_step (skB HB.out) hb); clear HB; have HO324 := n0_; have HB := n1_; clear n0_ n1_; clear hb ho7))
     go_loopg [4] k (fun kq v4 w' => ∃ (x3_1 : List Int) (x4_1 : Int), v4 = .int .i64 x4_1 ∧ Aside0 (larchref17_Check.l0 kq l0 x3_1 x4_1 = some r) ∧ Aside0 (kq ≤ k) ∧ Aside0 (Kd.R (Kd.int .i64) 3 w' w.heap.size (fun _ => True) v323 x3_1) ∧ Aside0 (Below w.heap.size w w'))
     case atStart => exact ⟨(y322), (0), rs, H', ⟨Nat.le_refl _⟩, ⟨skR HO324.out⟩, ⟨skB HB.out⟩⟩
     case round =>
      clear H'
      try clear c2
      try clear c2b0
      try clear c2b1
      try clear p2
      try clear c3
      try clear c3b0
      try clear c3b1
      try clear c3b2
      try clear c4
      try clear c4b0
      try clear c4b1
      try clear c5
      try clear c5b0
      try clear c5b1
      obtain ⟨x3_1, x4_1, rfl, HA, HK1, HO_3, HB⟩ := hrel
      cases gk with
      | zero => exact absurd HA.out (by simp [larchref17_Check.l0])
      | succ k1 =>
       have H := HA.out
       clear HA
       simp only [larchref17_Check.l0] at H
       by_cases c8 : x4_1 < (l0.length : Int)
       ·
        rw [if_pos c8] at H
        have c8b0 : decide (x4_1 < (l0.length : Int)) = true := decide_eq_true c8
        clear c8
        by_cases c9 : 0 ≤ x4_1
        ·
         rw [if_pos c9] at H
         have c9b0 : decide (0 ≤ x4_1) = true := decide_eq_true c9
         clear c9
         have HC10 := Aside0.mk H
         clear H
         have p325 : 0 ≤ (x4_1 : Int) := dt
         have q325 : x4_1 < (l0.length : Int) := dt
         obtain ⟨ad325, e325, hx325_0, hx325_1, hx325_2, hx325_3, hx325_4, hx325_5⟩ := at_T49 HR0.out x4_1 p325 q325
         cases e325
         replace hx325_0 := skc HB.out hx325_0
         replace hx325_1 := skc HB.out hx325_1
         replace hx325_2 := skc HB.out hx325_2
         replace hx325_3 := skc HB.out hx325_3
         replace hx325_4 := skc HB.out hx325_4
         replace hx325_5 := skc HB.out hx325_5
         replace p325 := eq_true p325
         replace q325 := eq_true q325
         go_upto_region 10 with (first | ((with_reducible refine gate_dst (N := 5) rfl ?_); (try (refine gate_guard (by rfl) ?_; dsimp only)); refine box_event ?hg (N := 5) ?hd (cs := #[.int .i64 0, .int .i64 0, .int .i64 0, .int .i64 0, .int .i64 0, .int .i64 0]) (t := 49) ?hr ?_; (case hd => rfl); (case hg => rfl); (case hr => first | (go_simp; done) | (go_simp; rfl)); intro gb326 hg w11 hbox hb; have n0_ := Aside0.mk (Kd.R_below (skR HO_3.out) hb); have n1_ := Aside0.mk (below_step (skB HB.out) hb); have n2_ := Aside0.mk (hbox); have n3_ := Aside0.mk ((by rw [hg]; exact (below_size (skB HB.out)) : w.heap.size ≤ gb326)); have n4_ := Aside0.mk ((by rw [hg]; exact (below_size (skB HB.out)) : w.heap.size ≤ gb326)); clear HO_3; clear HB; have HO_3 := n0_; have HB := n1_; have BK326 := n2_; have GW326 := n3_; have GE326 := n4_; clear n0_ n1_ n2_ n3_ n4_; clear hb hbox hg; obtain ⟨hcz12_0, hcz12_1, hcz12_2, hcz12_3, hcz12_4, hcz12_5, hfz12_0, hfz12_1, hfz12_2, hfz12_3, hfz12_4, hfz12_5⟩ := bk6 BK326.out))
         (try simp only [Act.put, List.setIfInBounds_toArray, List.set_cons_zero, List.set_cons_succ])
         go_cut [58] (fun v58 wc => ∃ (kq : Nat) (x58_9 : Bool), v58 = .bool x58_9 ∧ Aside0 (larchref17_Check.j1 kq l0 x3_1 x4_1 x58_9 ((rd_T49 l0 x4_1).f0) ((rd_T49 l0 x4_1).f1) ((rd_T49 l0 x4_1).f2) ((rd_T49 l0 x4_1).f3) ((rd_T49 l0 x4_1).f4) ((rd_T49 l0 x4_1).f5) = some r) ∧ Aside0 (kq ≤ k1) ∧ Aside0 (Kd.R (Kd.int .i64) 3 wc w.heap.size (fun _ => True) v323 x3_1) ∧ Aside0 (wc.heap[gb326]? = some (.cells #[.int .i64 ((rd_T49 l0 x4_1).f0), .int .i64 ((rd_T49 l0 x4_1).f1), .int .i64 ((rd_T49 l0 x4_1).f2), .int .i64 ((rd_T49 l0 x4_1).f3), .int .i64 ((rd_T49 l0 x4_1).f4), .int .i64 ((rd_T49 l0 x4_1).f5)] 49 (0, 0))) ∧ Aside0 (Below w.heap.size w wc))
         case first =>
          have H := HC10.out
          clear HC10
          by_cases c13 : ((rd_T49 l0 x4_1).f1) = 0
          ·
           rw [if_pos c13] at H
           have c13b0 : (((rd_T49 l0 x4_1).f1) == 0) = true := beq_iff_eq.mpr c13
           have c13b1 : (((rd_T49 l0 x4_1).f1) != 0) = false := bne_eq_false_iff_eq.mpr c13
           clear c13
           (first | rw [c13b0] | (simp only [i64_w, i32_w]; rw [c13b0]) | skip)
           by_cases c14 : ((rd_T49 l0 x4_1).f1) = 1
           ·
            rw [if_pos c14] at H
            have c14b0 : (((rd_T49 l0 x4_1).f1) == 1) = true := beq_iff_eq.mpr c14
            have c14b1 : (((rd_T49 l0 x4_1).f1) != 1) = false := bne_eq_false_iff_eq.mpr c14
            clear c14
            by_cases c15 : ((rd_T49 l0 x4_1).f0) = 0
            ·
             rw [if_pos c15] at H
             have c15b0 : (((rd_T49 l0 x4_1).f0) == 0) = true := beq_iff_eq.mpr c15
             have c15b1 : (((rd_T49 l0 x4_1).f0) != 0) = false := bne_eq_false_iff_eq.mpr c15
             clear c15
             by_cases c16 : ((rd_T49 l0 x4_1).f3) = 0
             ·
              rw [if_pos c16] at H
              have c16b0 : (((rd_T49 l0 x4_1).f3) == 0) = true := beq_iff_eq.mpr c16
              have c16b1 : (((rd_T49 l0 x4_1).f3) != 0) = false := bne_eq_false_iff_eq.mpr c16
              clear c16
              by_cases c17 : ((rd_T49 l0 x4_1).f2) < 0
              ·
               rw [if_pos c17] at H
               have c17b0 : decide (((rd_T49 l0 x4_1).f2) < 0) = true := decide_eq_true c17
               clear c17
               have H' := Aside0.mk H
               clear H
               obtain ⟨hcz18_0, hcz18_1, hcz18_2, hcz18_3, hcz18_4, hcz18_5, hfz18_0, hfz18_1, hfz18_2, hfz18_3, hfz18_4, hfz18_5⟩ := bk6 BK326.out
               go_wp2
               go_meet
               case rel => exact ⟨_, (true), rs, H', ⟨by have := HK1.out; first | omega | exact Nat.le_refl _⟩, ⟨skR (Kd.R_mono (Kd.R_far (p := ⟨gb326, 5, none⟩) (Kd.R_far (p := ⟨gb326, 4, none⟩) (Kd.R_far (p := ⟨gb326, 3, none⟩) (Kd.R_far (p := ⟨gb326, 2, none⟩) (Kd.R_far (p := ⟨gb326, 1, none⟩) (Kd.R_far (p := ⟨gb326, 0, none⟩) (Kd.R_types HO_3.out BK326.out (by decide)) (fun _ hk => hk.2) (.int .i64 ((rd_T49 l0 x4_1).f0))) (fun _ hk => hk.2) (.int .i64 ((rd_T49 l0 x4_1).f1))) (fun _ hk => hk.2) (.int .i64 ((rd_T49 l0 x4_1).f2))) (fun _ hk => hk.2) (.int .i64 ((rd_T49 l0 x4_1).f3))) (fun _ hk => hk.2) (.int .i64 ((rd_T49 l0 x4_1).f4))) (fun _ hk => hk.2) (.int .i64 ((rd_T49 l0 x4_1).f5))) (fun _ hk => trivial))⟩, ⟨by refine skk ?_; refine blk_put (cs := #[.int .i64 ((rd_T49 l0 x4_1).f0), .int .i64 ((rd_T49 l0 x4_1).f1), .int .i64 ((rd_T49 l0 x4_1).f2), .int .i64 ((rd_T49 l0 x4_1).f3), .int .i64 ((rd_T49 l0 x4_1).f4), .int .i64 0]) ?_ 5 _ rfl; refine skk ?_; refine blk_put (cs := #[.int .i64 ((rd_T49 l0 x4_1).f0), .int .i64 ((rd_T49 l0 x4_1).f1), .int .i64 ((rd_T49 l0 x4_1).f2), .int .i64 ((rd_T49 l0 x4_1).f3), .int .i64 0, .int .i64 0]) ?_ 4 _ rfl; refine skk ?_; refine blk_put (cs := #[.int .i64 ((rd_T49 l0 x4_1).f0), .int .i64 ((rd_T49 l0 x4_1).f1), .int .i64 ((rd_T49 l0 x4_1).f2), .int .i64 0, .int .i64 0, .int .i64 0]) ?_ 3 _ rfl; refine skk ?_; refine blk_put (cs := #[.int .i64 ((rd_T49 l0 x4_1).f0), .int .i64 ((rd_T49 l0 x4_1).f1), .int .i64 0, .int .i64 0, .int .i64 0, .int .i64 0]) ?_ 2 _ rfl; refine skk ?_; refine blk_put (cs := #[.int .i64 ((rd_T49 l0 x4_1).f0), .int .i64 0, .int .i64 0, .int .i64 0, .int .i64 0, .int .i64 0]) ?_ 1 _ rfl; refine skk ?_; refine blk_put (cs := #[.int .i64 0, .int .i64 0, .int .i64 0, .int .i64 0, .int .i64 0, .int .i64 0]) ?_ 0 _ rfl; refine skk ?_; exact BK326.out⟩, ⟨by repeat (first | (with_reducible first | exact HB.out | apply below_alloc | apply pw_below_drewN | apply below_drew1 | refine below_set ?_ GE326.out) | exact HB.out)⟩⟩
              ·
               rw [if_neg c17] at H
               have c17b0 : decide (((rd_T49 l0 x4_1).f2) < 0) = false := decide_eq_false c17
               clear c17
               have H' := Aside0.mk H
               clear H
               obtain ⟨hcz19_0, hcz19_1, hcz19_2, hcz19_3, hcz19_4, hcz19_5, hfz19_0, hfz19_1, hfz19_2, hfz19_3, hfz19_4, hfz19_5⟩ := bk6 BK326.out
               go_wp2
               go_meet
               case rel => exact ⟨_, (decide (((rd_T49 l0 x4_1).f2) > 1000000)), rs, H', ⟨by have := HK1.out; first | omega | exact Nat.le_refl _⟩, ⟨skR (Kd.R_mono (Kd.R_far (p := ⟨gb326, 5, none⟩) (Kd.R_far (p := ⟨gb326, 4, none⟩) (Kd.R_far (p := ⟨gb326, 3, none⟩) (Kd.R_far (p := ⟨gb326, 2, none⟩) (Kd.R_far (p := ⟨gb326, 1, none⟩) (Kd.R_far (p := ⟨gb326, 0, none⟩) (Kd.R_types HO_3.out BK326.out (by decide)) (fun _ hk => hk.2) (.int .i64 ((rd_T49 l0 x4_1).f0))) (fun _ hk => hk.2) (.int .i64 ((rd_T49 l0 x4_1).f1))) (fun _ hk => hk.2) (.int .i64 ((rd_T49 l0 x4_1).f2))) (fun _ hk => hk.2) (.int .i64 ((rd_T49 l0 x4_1).f3))) (fun _ hk => hk.2) (.int .i64 ((rd_T49 l0 x4_1).f4))) (fun _ hk => hk.2) (.int .i64 ((rd_T49 l0 x4_1).f5))) (fun _ hk => trivial))⟩, ⟨by refine skk ?_; refine blk_put (cs := #[.int .i64 ((rd_T49 l0 x4_1).f0), .int .i64 ((rd_T49 l0 x4_1).f1), .int .i64 ((rd_T49 l0 x4_1).f2), .int .i64 ((rd_T49 l0 x4_1).f3), .int .i64 ((rd_T49 l0 x4_1).f4), .int .i64 0]) ?_ 5 _ rfl; refine skk ?_; refine blk_put (cs := #[.int .i64 ((rd_T49 l0 x4_1).f0), .int .i64 ((rd_T49 l0 x4_1).f1), .int .i64 ((rd_T49 l0 x4_1).f2), .int .i64 ((rd_T49 l0 x4_1).f3), .int .i64 0, .int .i64 0]) ?_ 4 _ rfl; refine skk ?_; refine blk_put (cs := #[.int .i64 ((rd_T49 l0 x4_1).f0), .int .i64 ((rd_T49 l0 x4_1).f1), .int .i64 ((rd_T49 l0 x4_1).f2), .int .i64 0, .int .i64 0, .int .i64 0]) ?_ 3 _ rfl; refine skk ?_; refine blk_put (cs := #[.int .i64 ((rd_T49 l0 x4_1).f0), .int .i64 ((rd_T49 l0 x4_1).f1), .int .i64 0, .int .i64 0, .int .i64 0, .int .i64 0]) ?_ 2 _ rfl; refine skk ?_; refine blk_put (cs := #[.int .i64 ((rd_T49 l0 x4_1).f0), .int .i64 0, .int .i64 0, .int .i64 0, .int .i64 0, .int .i64 0]) ?_ 1 _ rfl; refine skk ?_; refine blk_put (cs := #[.int .i64 0, .int .i64 0, .int .i64 0, .int .i64 0, .int .i64 0, .int .i64 0]) ?_ 0 _ rfl; refine skk ?_; exact BK326.out⟩, ⟨by repeat (first | (with_reducible first | exact HB.out | apply below_alloc | apply pw_below_drewN | apply below_drew1 | refine below_set ?_ GE326.out) | exact HB.out)⟩⟩
             ·
              rw [if_neg c16] at H
              have c16b0 : (((rd_T49 l0 x4_1).f3) == 0) = false := beq_eq_false_iff_ne.mpr c16
              have c16b1 : (((rd_T49 l0 x4_1).f3) != 0) = true := bne_iff_ne.mpr c16
              have H' := Aside0.mk H
              clear H
              obtain ⟨hcz20_0, hcz20_1, hcz20_2, hcz20_3, hcz20_4, hcz20_5, hfz20_0, hfz20_1, hfz20_2, hfz20_3, hfz20_4, hfz20_5⟩ := bk6 BK326.out
              go_wp2
              go_meet
              case rel => exact ⟨_, (true), rs, H', ⟨by have := HK1.out; first | omega | exact Nat.le_refl _⟩, ⟨skR (Kd.R_mono (Kd.R_far (p := ⟨gb326, 5, none⟩) (Kd.R_far (p := ⟨gb326, 4, none⟩) (Kd.R_far (p := ⟨gb326, 3, none⟩) (Kd.R_far (p := ⟨gb326, 2, none⟩) (Kd.R_far (p := ⟨gb326, 1, none⟩) (Kd.R_far (p := ⟨gb326, 0, none⟩) (Kd.R_types HO_3.out BK326.out (by decide)) (fun _ hk => hk.2) (.int .i64 ((rd_T49 l0 x4_1).f0))) (fun _ hk => hk.2) (.int .i64 ((rd_T49 l0 x4_1).f1))) (fun _ hk => hk.2) (.int .i64 ((rd_T49 l0 x4_1).f2))) (fun _ hk => hk.2) (.int .i64 ((rd_T49 l0 x4_1).f3))) (fun _ hk => hk.2) (.int .i64 ((rd_T49 l0 x4_1).f4))) (fun _ hk => hk.2) (.int .i64 ((rd_T49 l0 x4_1).f5))) (fun _ hk => trivial))⟩, ⟨by refine skk ?_; refine blk_put (cs := #[.int .i64 ((rd_T49 l0 x4_1).f0), .int .i64 ((rd_T49 l0 x4_1).f1), .int .i64 ((rd_T49 l0 x4_1).f2), .int .i64 ((rd_T49 l0 x4_1).f3), .int .i64 ((rd_T49 l0 x4_1).f4), .int .i64 0]) ?_ 5 _ rfl; refine skk ?_; refine blk_put (cs := #[.int .i64 ((rd_T49 l0 x4_1).f0), .int .i64 ((rd_T49 l0 x4_1).f1), .int .i64 ((rd_T49 l0 x4_1).f2), .int .i64 ((rd_T49 l0 x4_1).f3), .int .i64 0, .int .i64 0]) ?_ 4 _ rfl; refine skk ?_; refine blk_put (cs := #[.int .i64 ((rd_T49 l0 x4_1).f0), .int .i64 ((rd_T49 l0 x4_1).f1), .int .i64 ((rd_T49 l0 x4_1).f2), .int .i64 0, .int .i64 0, .int .i64 0]) ?_ 3 _ rfl; refine skk ?_; refine blk_put (cs := #[.int .i64 ((rd_T49 l0 x4_1).f0), .int .i64 ((rd_T49 l0 x4_1).f1), .int .i64 0, .int .i64 0, .int .i64 0, .int .i64 0]) ?_ 2 _ rfl; refine skk ?_; refine blk_put (cs := #[.int .i64 ((rd_T49 l0 x4_1).f0), .int .i64 0, .int .i64 0, .int .i64 0, .int .i64 0, .int .i64 0]) ?_ 1 _ rfl; refine skk ?_; refine blk_put (cs := #[.int .i64 0, .int .i64 0, .int .i64 0, .int .i64 0, .int .i64 0, .int .i64 0]) ?_ 0 _ rfl; refine skk ?_; exact BK326.out⟩, ⟨by repeat (first | (with_reducible first | exact HB.out | apply below_alloc | apply pw_below_drewN | apply below_drew1 | refine below_set ?_ GE326.out) | exact HB.out)⟩⟩
            ·
             rw [if_neg c15] at H
             have c15b0 : (((rd_T49 l0 x4_1).f0) == 0) = false := beq_eq_false_iff_ne.mpr c15
             have c15b1 : (((rd_T49 l0 x4_1).f0) != 0) = true := bne_iff_ne.mpr c15
             have H' := Aside0.mk H
             clear H
             obtain ⟨hcz21_0, hcz21_1, hcz21_2, hcz21_3, hcz21_4, hcz21_5, hfz21_0, hfz21_1, hfz21_2, hfz21_3, hfz21_4, hfz21_5⟩ := bk6 BK326.out
             go_wp2
             go_meet
             case rel => exact ⟨_, (true), rs, H', ⟨by have := HK1.out; first | omega | exact Nat.le_refl _⟩, ⟨skR (Kd.R_mono (Kd.R_far (p := ⟨gb326, 5, none⟩) (Kd.R_far (p := ⟨gb326, 4, none⟩) (Kd.R_far (p := ⟨gb326, 3, none⟩) (Kd.R_far (p := ⟨gb326, 2, none⟩) (Kd.R_far (p := ⟨gb326, 1, none⟩) (Kd.R_far (p := ⟨gb326, 0, none⟩) (Kd.R_types HO_3.out BK326.out (by decide)) (fun _ hk => hk.2) (.int .i64 ((rd_T49 l0 x4_1).f0))) (fun _ hk => hk.2) (.int .i64 ((rd_T49 l0 x4_1).f1))) (fun _ hk => hk.2) (.int .i64 ((rd_T49 l0 x4_1).f2))) (fun _ hk => hk.2) (.int .i64 ((rd_T49 l0 x4_1).f3))) (fun _ hk => hk.2) (.int .i64 ((rd_T49 l0 x4_1).f4))) (fun _ hk => hk.2) (.int .i64 ((rd_T49 l0 x4_1).f5))) (fun _ hk => trivial))⟩, ⟨by refine skk ?_; refine blk_put (cs := #[.int .i64 ((rd_T49 l0 x4_1).f0), .int .i64 ((rd_T49 l0 x4_1).f1), .int .i64 ((rd_T49 l0 x4_1).f2), .int .i64 ((rd_T49 l0 x4_1).f3), .int .i64 ((rd_T49 l0 x4_1).f4), .int .i64 0]) ?_ 5 _ rfl; refine skk ?_; refine blk_put (cs := #[.int .i64 ((rd_T49 l0 x4_1).f0), .int .i64 ((rd_T49 l0 x4_1).f1), .int .i64 ((rd_T49 l0 x4_1).f2), .int .i64 ((rd_T49 l0 x4_1).f3), .int .i64 0, .int .i64 0]) ?_ 4 _ rfl; refine skk ?_; refine blk_put (cs := #[.int .i64 ((rd_T49 l0 x4_1).f0), .int .i64 ((rd_T49 l0 x4_1).f1), .int .i64 ((rd_T49 l0 x4_1).f2), .int .i64 0, .int .i64 0, .int .i64 0]) ?_ 3 _ rfl; refine skk ?_; refine blk_put (cs := #[.int .i64 ((rd_T49 l0 x4_1).f0), .int .i64 ((rd_T49 l0 x4_1).f1), .int .i64 0, .int .i64 0, .int .i64 0, .int .i64 0]) ?_ 2 _ rfl; refine skk ?_; refine blk_put (cs := #[.int .i64 ((rd_T49 l0 x4_1).f0), .int .i64 0, .int .i64 0, .int .i64 0, .int .i64 0, .int .i64 0]) ?_ 1 _ rfl; refine skk ?_; refine blk_put (cs := #[.int .i64 0, .int .i64 0, .int .i64 0, .int .i64 0, .int .i64 0, .int .i64 0]) ?_ 0 _ rfl; refine skk ?_; exact BK326.out⟩, ⟨by repeat (first | (with_reducible first | exact HB.out | apply below_alloc | apply pw_below_drewN | apply below_drew1 | refine below_set ?_ GE326.out) | exact HB.out)⟩⟩
           ·
            rw [if_neg c14] at H
            have c14b0 : (((rd_T49 l0 x4_1).f1) == 1) = false := beq_eq_false_iff_ne.mpr c14
            have c14b1 : (((rd_T49 l0 x4_1).f1) != 1) = true := bne_iff_ne.mpr c14
            by_cases c22 : ((rd_T49 l0 x4_1).f2) < 0
            ·
             rw [if_pos c22] at H
             have c22b0 : decide (((rd_T49 l0 x4_1).f2) < 0) = true := decide_eq_true c22
             clear c22
             have H' := Aside0.mk H
             clear H
             obtain ⟨hcz23_0, hcz23_1, hcz23_2, hcz23_3, hcz23_4, hcz23_5, hfz23_0, hfz23_1, hfz23_2, hfz23_3, hfz23_4, hfz23_5⟩ := bk6 BK326.out
             go_wp2
             go_meet
             case rel => exact ⟨_, (true), rs, H', ⟨by have := HK1.out; first | omega | exact Nat.le_refl _⟩, ⟨skR (Kd.R_mono (Kd.R_far (p := ⟨gb326, 5, none⟩) (Kd.R_far (p := ⟨gb326, 4, none⟩) (Kd.R_far (p := ⟨gb326, 3, none⟩) (Kd.R_far (p := ⟨gb326, 2, none⟩) (Kd.R_far (p := ⟨gb326, 1, none⟩) (Kd.R_far (p := ⟨gb326, 0, none⟩) (Kd.R_types HO_3.out BK326.out (by decide)) (fun _ hk => hk.2) (.int .i64 ((rd_T49 l0 x4_1).f0))) (fun _ hk => hk.2) (.int .i64 ((rd_T49 l0 x4_1).f1))) (fun _ hk => hk.2) (.int .i64 ((rd_T49 l0 x4_1).f2))) (fun _ hk => hk.2) (.int .i64 ((rd_T49 l0 x4_1).f3))) (fun _ hk => hk.2) (.int .i64 ((rd_T49 l0 x4_1).f4))) (fun _ hk => hk.2) (.int .i64 ((rd_T49 l0 x4_1).f5))) (fun _ hk => trivial))⟩, ⟨by refine skk ?_; refine blk_put (cs := #[.int .i64 ((rd_T49 l0 x4_1).f0), .int .i64 ((rd_T49 l0 x4_1).f1), .int .i64 ((rd_T49 l0 x4_1).f2), .int .i64 ((rd_T49 l0 x4_1).f3), .int .i64 ((rd_T49 l0 x4_1).f4), .int .i64 0]) ?_ 5 _ rfl; refine skk ?_; refine blk_put (cs := #[.int .i64 ((rd_T49 l0 x4_1).f0), .int .i64 ((rd_T49 l0 x4_1).f1), .int .i64 ((rd_T49 l0 x4_1).f2), .int .i64 ((rd_T49 l0 x4_1).f3), .int .i64 0, .int .i64 0]) ?_ 4 _ rfl; refine skk ?_; refine blk_put (cs := #[.int .i64 ((rd_T49 l0 x4_1).f0), .int .i64 ((rd_T49 l0 x4_1).f1), .int .i64 ((rd_T49 l0 x4_1).f2), .int .i64 0, .int .i64 0, .int .i64 0]) ?_ 3 _ rfl; refine skk ?_; refine blk_put (cs := #[.int .i64 ((rd_T49 l0 x4_1).f0), .int .i64 ((rd_T49 l0 x4_1).f1), .int .i64 0, .int .i64 0, .int .i64 0, .int .i64 0]) ?_ 2 _ rfl; refine skk ?_; refine blk_put (cs := #[.int .i64 ((rd_T49 l0 x4_1).f0), .int .i64 0, .int .i64 0, .int .i64 0, .int .i64 0, .int .i64 0]) ?_ 1 _ rfl; refine skk ?_; refine blk_put (cs := #[.int .i64 0, .int .i64 0, .int .i64 0, .int .i64 0, .int .i64 0, .int .i64 0]) ?_ 0 _ rfl; refine skk ?_; exact BK326.out⟩, ⟨by repeat (first | (with_reducible first | exact HB.out | apply below_alloc | apply pw_below_drewN | apply below_drew1 | refine below_set ?_ GE326.out) | exact HB.out)⟩⟩
            ·
             rw [if_neg c22] at H
             have c22b0 : decide (((rd_T49 l0 x4_1).f2) < 0) = false := decide_eq_false c22
             clear c22
             have H' := Aside0.mk H
             clear H
             obtain ⟨hcz24_0, hcz24_1, hcz24_2, hcz24_3, hcz24_4, hcz24_5, hfz24_0, hfz24_1, hfz24_2, hfz24_3, hfz24_4, hfz24_5⟩ := bk6 BK326.out
             go_wp2
             go_meet
             case rel => exact ⟨_, (decide (((rd_T49 l0 x4_1).f2) > 1000000)), rs, H', ⟨by have := HK1.out; first | omega | exact Nat.le_refl _⟩, ⟨skR (Kd.R_mono (Kd.R_far (p := ⟨gb326, 5, none⟩) (Kd.R_far (p := ⟨gb326, 4, none⟩) (Kd.R_far (p := ⟨gb326, 3, none⟩) (Kd.R_far (p := ⟨gb326, 2, none⟩) (Kd.R_far (p := ⟨gb326, 1, none⟩) (Kd.R_far (p := ⟨gb326, 0, none⟩) (Kd.R_types HO_3.out BK326.out (by decide)) (fun _ hk => hk.2) (.int .i64 ((rd_T49 l0 x4_1).f0))) (fun _ hk => hk.2) (.int .i64 ((rd_T49 l0 x4_1).f1))) (fun _ hk => hk.2) (.int .i64 ((rd_T49 l0 x4_1).f2))) (fun _ hk => hk.2) (.int .i64 ((rd_T49 l0 x4_1).f3))) (fun _ hk => hk.2) (.int .i64 ((rd_T49 l0 x4_1).f4))) (fun _ hk => hk.2) (.int .i64 ((rd_T49 l0 x4_1).f5))) (fun _ hk => trivial))⟩, ⟨by refine skk ?_; refine blk_put (cs := #[.int .i64 ((rd_T49 l0 x4_1).f0), .int .i64 ((rd_T49 l0 x4_1).f1), .int .i64 ((rd_T49 l0 x4_1).f2), .int .i64 ((rd_T49 l0 x4_1).f3), .int .i64 ((rd_T49 l0 x4_1).f4), .int .i64 0]) ?_ 5 _ rfl; refine skk ?_; refine blk_put (cs := #[.int .i64 ((rd_T49 l0 x4_1).f0), .int .i64 ((rd_T49 l0 x4_1).f1), .int .i64 ((rd_T49 l0 x4_1).f2), .int .i64 ((rd_T49 l0 x4_1).f3), .int .i64 0, .int .i64 0]) ?_ 4 _ rfl; refine skk ?_; refine blk_put (cs := #[.int .i64 ((rd_T49 l0 x4_1).f0), .int .i64 ((rd_T49 l0 x4_1).f1), .int .i64 ((rd_T49 l0 x4_1).f2), .int .i64 0, .int .i64 0, .int .i64 0]) ?_ 3 _ rfl; refine skk ?_; refine blk_put (cs := #[.int .i64 ((rd_T49 l0 x4_1).f0), .int .i64 ((rd_T49 l0 x4_1).f1), .int .i64 0, .int .i64 0, .int .i64 0, .int .i64 0]) ?_ 2 _ rfl; refine skk ?_; refine blk_put (cs := #[.int .i64 ((rd_T49 l0 x4_1).f0), .int .i64 0, .int .i64 0, .int .i64 0, .int .i64 0, .int .i64 0]) ?_ 1 _ rfl; refine skk ?_; refine blk_put (cs := #[.int .i64 0, .int .i64 0, .int .i64 0, .int .i64 0, .int .i64 0, .int .i64 0]) ?_ 0 _ rfl; refine skk ?_; exact BK326.out⟩, ⟨by repeat (first | (with_reducible first | exact HB.out | apply below_alloc | apply pw_below_drewN | apply below_drew1 | refine below_set ?_ GE326.out) | exact HB.out)⟩⟩
          ·
           rw [if_neg c13] at H
           have c13b0 : (((rd_T49 l0 x4_1).f1) == 0) = false := beq_eq_false_iff_ne.mpr c13
           have c13b1 : (((rd_T49 l0 x4_1).f1) != 0) = true := bne_iff_ne.mpr c13
           (first | rw [c13b0] | (simp only [i64_w, i32_w]; rw [c13b0]) | skip)
           by_cases c25 : ((rd_T49 l0 x4_1).f1) = 1
           ·
            rw [if_pos c25] at H
            have c25b0 : (((rd_T49 l0 x4_1).f1) == 1) = true := beq_iff_eq.mpr c25
            have c25b1 : (((rd_T49 l0 x4_1).f1) != 1) = false := bne_eq_false_iff_eq.mpr c25
            clear c25
            by_cases c26 : ((rd_T49 l0 x4_1).f0) = 0
            ·
             rw [if_pos c26] at H
             have c26b0 : (((rd_T49 l0 x4_1).f0) == 0) = true := beq_iff_eq.mpr c26
             have c26b1 : (((rd_T49 l0 x4_1).f0) != 0) = false := bne_eq_false_iff_eq.mpr c26
             clear c26
             by_cases c27 : ((rd_T49 l0 x4_1).f3) = 0
             ·
              rw [if_pos c27] at H
              have c27b0 : (((rd_T49 l0 x4_1).f3) == 0) = true := beq_iff_eq.mpr c27
              have c27b1 : (((rd_T49 l0 x4_1).f3) != 0) = false := bne_eq_false_iff_eq.mpr c27
              clear c27
              by_cases c28 : ((rd_T49 l0 x4_1).f2) < 0
              ·
               rw [if_pos c28] at H
               have c28b0 : decide (((rd_T49 l0 x4_1).f2) < 0) = true := decide_eq_true c28
               clear c28
               have H' := Aside0.mk H
               clear H
               obtain ⟨hcz29_0, hcz29_1, hcz29_2, hcz29_3, hcz29_4, hcz29_5, hfz29_0, hfz29_1, hfz29_2, hfz29_3, hfz29_4, hfz29_5⟩ := bk6 BK326.out
               go_wp2
               go_meet
               case rel => exact ⟨_, (true), rs, H', ⟨by have := HK1.out; first | omega | exact Nat.le_refl _⟩, ⟨skR (Kd.R_mono (Kd.R_far (p := ⟨gb326, 5, none⟩) (Kd.R_far (p := ⟨gb326, 4, none⟩) (Kd.R_far (p := ⟨gb326, 3, none⟩) (Kd.R_far (p := ⟨gb326, 2, none⟩) (Kd.R_far (p := ⟨gb326, 1, none⟩) (Kd.R_far (p := ⟨gb326, 0, none⟩) (Kd.R_types HO_3.out BK326.out (by decide)) (fun _ hk => hk.2) (.int .i64 ((rd_T49 l0 x4_1).f0))) (fun _ hk => hk.2) (.int .i64 ((rd_T49 l0 x4_1).f1))) (fun _ hk => hk.2) (.int .i64 ((rd_T49 l0 x4_1).f2))) (fun _ hk => hk.2) (.int .i64 ((rd_T49 l0 x4_1).f3))) (fun _ hk => hk.2) (.int .i64 ((rd_T49 l0 x4_1).f4))) (fun _ hk => hk.2) (.int .i64 ((rd_T49 l0 x4_1).f5))) (fun _ hk => trivial))⟩, ⟨by refine skk ?_; refine blk_put (cs := #[.int .i64 ((rd_T49 l0 x4_1).f0), .int .i64 ((rd_T49 l0 x4_1).f1), .int .i64 ((rd_T49 l0 x4_1).f2), .int .i64 ((rd_T49 l0 x4_1).f3), .int .i64 ((rd_T49 l0 x4_1).f4), .int .i64 0]) ?_ 5 _ rfl; refine skk ?_; refine blk_put (cs := #[.int .i64 ((rd_T49 l0 x4_1).f0), .int .i64 ((rd_T49 l0 x4_1).f1), .int .i64 ((rd_T49 l0 x4_1).f2), .int .i64 ((rd_T49 l0 x4_1).f3), .int .i64 0, .int .i64 0]) ?_ 4 _ rfl; refine skk ?_; refine blk_put (cs := #[.int .i64 ((rd_T49 l0 x4_1).f0), .int .i64 ((rd_T49 l0 x4_1).f1), .int .i64 ((rd_T49 l0 x4_1).f2), .int .i64 0, .int .i64 0, .int .i64 0]) ?_ 3 _ rfl; refine skk ?_; refine blk_put (cs := #[.int .i64 ((rd_T49 l0 x4_1).f0), .int .i64 ((rd_T49 l0 x4_1).f1), .int .i64 0, .int .i64 0, .int .i64 0, .int .i64 0]) ?_ 2 _ rfl; refine skk ?_; refine blk_put (cs := #[.int .i64 ((rd_T49 l0 x4_1).f0), .int .i64 0, .int .i64 0, .int .i64 0, .int .i64 0, .int .i64 0]) ?_ 1 _ rfl; refine skk ?_; refine blk_put (cs := #[.int .i64 0, .int .i64 0, .int .i64 0, .int .i64 0, .int .i64 0, .int .i64 0]) ?_ 0 _ rfl; refine skk ?_; exact BK326.out⟩, ⟨by repeat (first | (with_reducible first | exact HB.out | apply below_alloc | apply pw_below_drewN | apply below_drew1 | refine below_set ?_ GE326.out) | exact HB.out)⟩⟩
              ·
               rw [if_neg c28] at H
               have c28b0 : decide (((rd_T49 l0 x4_1).f2) < 0) = false := decide_eq_false c28
               clear c28
               have H' := Aside0.mk H
               clear H
               obtain ⟨hcz30_0, hcz30_1, hcz30_2, hcz30_3, hcz30_4, hcz30_5, hfz30_0, hfz30_1, hfz30_2, hfz30_3, hfz30_4, hfz30_5⟩ := bk6 BK326.out
               go_wp2
               go_meet
               case rel => exact ⟨_, (decide (((rd_T49 l0 x4_1).f2) > 1000000)), rs, H', ⟨by have := HK1.out; first | omega | exact Nat.le_refl _⟩, ⟨skR (Kd.R_mono (Kd.R_far (p := ⟨gb326, 5, none⟩) (Kd.R_far (p := ⟨gb326, 4, none⟩) (Kd.R_far (p := ⟨gb326, 3, none⟩) (Kd.R_far (p := ⟨gb326, 2, none⟩) (Kd.R_far (p := ⟨gb326, 1, none⟩) (Kd.R_far (p := ⟨gb326, 0, none⟩) (Kd.R_types HO_3.out BK326.out (by decide)) (fun _ hk => hk.2) (.int .i64 ((rd_T49 l0 x4_1).f0))) (fun _ hk => hk.2) (.int .i64 ((rd_T49 l0 x4_1).f1))) (fun _ hk => hk.2) (.int .i64 ((rd_T49 l0 x4_1).f2))) (fun _ hk => hk.2) (.int .i64 ((rd_T49 l0 x4_1).f3))) (fun _ hk => hk.2) (.int .i64 ((rd_T49 l0 x4_1).f4))) (fun _ hk => hk.2) (.int .i64 ((rd_T49 l0 x4_1).f5))) (fun _ hk => trivial))⟩, ⟨by refine skk ?_; refine blk_put (cs := #[.int .i64 ((rd_T49 l0 x4_1).f0), .int .i64 ((rd_T49 l0 x4_1).f1), .int .i64 ((rd_T49 l0 x4_1).f2), .int .i64 ((rd_T49 l0 x4_1).f3), .int .i64 ((rd_T49 l0 x4_1).f4), .int .i64 0]) ?_ 5 _ rfl; refine skk ?_; refine blk_put (cs := #[.int .i64 ((rd_T49 l0 x4_1).f0), .int .i64 ((rd_T49 l0 x4_1).f1), .int .i64 ((rd_T49 l0 x4_1).f2), .int .i64 ((rd_T49 l0 x4_1).f3), .int .i64 0, .int .i64 0]) ?_ 4 _ rfl; refine skk ?_; refine blk_put (cs := #[.int .i64 ((rd_T49 l0 x4_1).f0), .int .i64 ((rd_T49 l0 x4_1).f1), .int .i64 ((rd_T49 l0 x4_1).f2), .int .i64 0, .int .i64 0, .int .i64 0]) ?_ 3 _ rfl; refine skk ?_; refine blk_put (cs := #[.int .i64 ((rd_T49 l0 x4_1).f0), .int .i64 ((rd_T49 l0 x4_1).f1), .int .i64 0, .int .i64 0, .int .i64 0, .int .i64 0]) ?_ 2 _ rfl; refine skk ?_; refine blk_put (cs := #[.int .i64 ((rd_T49 l0 x4_1).f0), .int .i64 0, .int .i64 0, .int .i64 0, .int .i64 0, .int .i64 0]) ?_ 1 _ rfl; refine skk ?_; refine blk_put (cs := #[.int .i64 0, .int .i64 0, .int .i64 0, .int .i64 0, .int .i64 0, .int .i64 0]) ?_ 0 _ rfl; refine skk ?_; exact BK326.out⟩, ⟨by repeat (first | (with_reducible first | exact HB.out | apply below_alloc | apply pw_below_drewN | apply below_drew1 | refine below_set ?_ GE326.out) | exact HB.out)⟩⟩
             ·
              rw [if_neg c27] at H
              have c27b0 : (((rd_T49 l0 x4_1).f3) == 0) = false := beq_eq_false_iff_ne.mpr c27
              have c27b1 : (((rd_T49 l0 x4_1).f3) != 0) = true := bne_iff_ne.mpr c27
              have H' := Aside0.mk H
              clear H
              obtain ⟨hcz31_0, hcz31_1, hcz31_2, hcz31_3, hcz31_4, hcz31_5, hfz31_0, hfz31_1, hfz31_2, hfz31_3, hfz31_4, hfz31_5⟩ := bk6 BK326.out
              go_wp2
              go_meet
              case rel => exact ⟨_, (true), rs, H', ⟨by have := HK1.out; first | omega | exact Nat.le_refl _⟩, ⟨skR (Kd.R_mono (Kd.R_far (p := ⟨gb326, 5, none⟩) (Kd.R_far (p := ⟨gb326, 4, none⟩) (Kd.R_far (p := ⟨gb326, 3, none⟩) (Kd.R_far (p := ⟨gb326, 2, none⟩) (Kd.R_far (p := ⟨gb326, 1, none⟩) (Kd.R_far (p := ⟨gb326, 0, none⟩) (Kd.R_types HO_3.out BK326.out (by decide)) (fun _ hk => hk.2) (.int .i64 ((rd_T49 l0 x4_1).f0))) (fun _ hk => hk.2) (.int .i64 ((rd_T49 l0 x4_1).f1))) (fun _ hk => hk.2) (.int .i64 ((rd_T49 l0 x4_1).f2))) (fun _ hk => hk.2) (.int .i64 ((rd_T49 l0 x4_1).f3))) (fun _ hk => hk.2) (.int .i64 ((rd_T49 l0 x4_1).f4))) (fun _ hk => hk.2) (.int .i64 ((rd_T49 l0 x4_1).f5))) (fun _ hk => trivial))⟩, ⟨by refine skk ?_; refine blk_put (cs := #[.int .i64 ((rd_T49 l0 x4_1).f0), .int .i64 ((rd_T49 l0 x4_1).f1), .int .i64 ((rd_T49 l0 x4_1).f2), .int .i64 ((rd_T49 l0 x4_1).f3), .int .i64 ((rd_T49 l0 x4_1).f4), .int .i64 0]) ?_ 5 _ rfl; refine skk ?_; refine blk_put (cs := #[.int .i64 ((rd_T49 l0 x4_1).f0), .int .i64 ((rd_T49 l0 x4_1).f1), .int .i64 ((rd_T49 l0 x4_1).f2), .int .i64 ((rd_T49 l0 x4_1).f3), .int .i64 0, .int .i64 0]) ?_ 4 _ rfl; refine skk ?_; refine blk_put (cs := #[.int .i64 ((rd_T49 l0 x4_1).f0), .int .i64 ((rd_T49 l0 x4_1).f1), .int .i64 ((rd_T49 l0 x4_1).f2), .int .i64 0, .int .i64 0, .int .i64 0]) ?_ 3 _ rfl; refine skk ?_; refine blk_put (cs := #[.int .i64 ((rd_T49 l0 x4_1).f0), .int .i64 ((rd_T49 l0 x4_1).f1), .int .i64 0, .int .i64 0, .int .i64 0, .int .i64 0]) ?_ 2 _ rfl; refine skk ?_; refine blk_put (cs := #[.int .i64 ((rd_T49 l0 x4_1).f0), .int .i64 0, .int .i64 0, .int .i64 0, .int .i64 0, .int .i64 0]) ?_ 1 _ rfl; refine skk ?_; refine blk_put (cs := #[.int .i64 0, .int .i64 0, .int .i64 0, .int .i64 0, .int .i64 0, .int .i64 0]) ?_ 0 _ rfl; refine skk ?_; exact BK326.out⟩, ⟨by repeat (first | (with_reducible first | exact HB.out | apply below_alloc | apply pw_below_drewN | apply below_drew1 | refine below_set ?_ GE326.out) | exact HB.out)⟩⟩
            ·
             rw [if_neg c26] at H
             have c26b0 : (((rd_T49 l0 x4_1).f0) == 0) = false := beq_eq_false_iff_ne.mpr c26
             have c26b1 : (((rd_T49 l0 x4_1).f0) != 0) = true := bne_iff_ne.mpr c26
             have H' := Aside0.mk H
             clear H
             obtain ⟨hcz32_0, hcz32_1, hcz32_2, hcz32_3, hcz32_4, hcz32_5, hfz32_0, hfz32_1, hfz32_2, hfz32_3, hfz32_4, hfz32_5⟩ := bk6 BK326.out
             go_wp2
             go_meet
             case rel => exact ⟨_, (true), rs, H', ⟨by have := HK1.out; first | omega | exact Nat.le_refl _⟩, ⟨skR (Kd.R_mono (Kd.R_far (p := ⟨gb326, 5, none⟩) (Kd.R_far (p := ⟨gb326, 4, none⟩) (Kd.R_far (p := ⟨gb326, 3, none⟩) (Kd.R_far (p := ⟨gb326, 2, none⟩) (Kd.R_far (p := ⟨gb326, 1, none⟩) (Kd.R_far (p := ⟨gb326, 0, none⟩) (Kd.R_types HO_3.out BK326.out (by decide)) (fun _ hk => hk.2) (.int .i64 ((rd_T49 l0 x4_1).f0))) (fun _ hk => hk.2) (.int .i64 ((rd_T49 l0 x4_1).f1))) (fun _ hk => hk.2) (.int .i64 ((rd_T49 l0 x4_1).f2))) (fun _ hk => hk.2) (.int .i64 ((rd_T49 l0 x4_1).f3))) (fun _ hk => hk.2) (.int .i64 ((rd_T49 l0 x4_1).f4))) (fun _ hk => hk.2) (.int .i64 ((rd_T49 l0 x4_1).f5))) (fun _ hk => trivial))⟩, ⟨by refine skk ?_; refine blk_put (cs := #[.int .i64 ((rd_T49 l0 x4_1).f0), .int .i64 ((rd_T49 l0 x4_1).f1), .int .i64 ((rd_T49 l0 x4_1).f2), .int .i64 ((rd_T49 l0 x4_1).f3), .int .i64 ((rd_T49 l0 x4_1).f4), .int .i64 0]) ?_ 5 _ rfl; refine skk ?_; refine blk_put (cs := #[.int .i64 ((rd_T49 l0 x4_1).f0), .int .i64 ((rd_T49 l0 x4_1).f1), .int .i64 ((rd_T49 l0 x4_1).f2), .int .i64 ((rd_T49 l0 x4_1).f3), .int .i64 0, .int .i64 0]) ?_ 4 _ rfl; refine skk ?_; refine blk_put (cs := #[.int .i64 ((rd_T49 l0 x4_1).f0), .int .i64 ((rd_T49 l0 x4_1).f1), .int .i64 ((rd_T49 l0 x4_1).f2), .int .i64 0, .int .i64 0, .int .i64 0]) ?_ 3 _ rfl; refine skk ?_; refine blk_put (cs := #[.int .i64 ((rd_T49 l0 x4_1).f0), .int .i64 ((rd_T49 l0 x4_1).f1), .int .i64 0, .int .i64 0, .int .i64 0, .int .i64 0]) ?_ 2 _ rfl; refine skk ?_; refine blk_put (cs := #[.int .i64 ((rd_T49 l0 x4_1).f0), .int .i64 0, .int .i64 0, .int .i64 0, .int .i64 0, .int .i64 0]) ?_ 1 _ rfl; refine skk ?_; refine blk_put (cs := #[.int .i64 0, .int .i64 0, .int .i64 0, .int .i64 0, .int .i64 0, .int .i64 0]) ?_ 0 _ rfl; refine skk ?_; exact BK326.out⟩, ⟨by repeat (first | (with_reducible first | exact HB.out | apply below_alloc | apply pw_below_drewN | apply below_drew1 | refine below_set ?_ GE326.out) | exact HB.out)⟩⟩
           ·
            rw [if_neg c25] at H
            have c25b0 : (((rd_T49 l0 x4_1).f1) == 1) = false := beq_eq_false_iff_ne.mpr c25
            have c25b1 : (((rd_T49 l0 x4_1).f1) != 1) = true := bne_iff_ne.mpr c25
            have H' := Aside0.mk H
            clear H
            obtain ⟨hcz33_0, hcz33_1, hcz33_2, hcz33_3, hcz33_4, hcz33_5, hfz33_0, hfz33_1, hfz33_2, hfz33_3, hfz33_4, hfz33_5⟩ := bk6 BK326.out
            go_wp2
            go_meet
            case rel => exact ⟨_, (true), rs, H', ⟨by have := HK1.out; first | omega | exact Nat.le_refl _⟩, ⟨skR (Kd.R_mono (Kd.R_far (p := ⟨gb326, 5, none⟩) (Kd.R_far (p := ⟨gb326, 4, none⟩) (Kd.R_far (p := ⟨gb326, 3, none⟩) (Kd.R_far (p := ⟨gb326, 2, none⟩) (Kd.R_far (p := ⟨gb326, 1, none⟩) (Kd.R_far (p := ⟨gb326, 0, none⟩) (Kd.R_types HO_3.out BK326.out (by decide)) (fun _ hk => hk.2) (.int .i64 ((rd_T49 l0 x4_1).f0))) (fun _ hk => hk.2) (.int .i64 ((rd_T49 l0 x4_1).f1))) (fun _ hk => hk.2) (.int .i64 ((rd_T49 l0 x4_1).f2))) (fun _ hk => hk.2) (.int .i64 ((rd_T49 l0 x4_1).f3))) (fun _ hk => hk.2) (.int .i64 ((rd_T49 l0 x4_1).f4))) (fun _ hk => hk.2) (.int .i64 ((rd_T49 l0 x4_1).f5))) (fun _ hk => trivial))⟩, ⟨by refine skk ?_; refine blk_put (cs := #[.int .i64 ((rd_T49 l0 x4_1).f0), .int .i64 ((rd_T49 l0 x4_1).f1), .int .i64 ((rd_T49 l0 x4_1).f2), .int .i64 ((rd_T49 l0 x4_1).f3), .int .i64 ((rd_T49 l0 x4_1).f4), .int .i64 0]) ?_ 5 _ rfl; refine skk ?_; refine blk_put (cs := #[.int .i64 ((rd_T49 l0 x4_1).f0), .int .i64 ((rd_T49 l0 x4_1).f1), .int .i64 ((rd_T49 l0 x4_1).f2), .int .i64 ((rd_T49 l0 x4_1).f3), .int .i64 0, .int .i64 0]) ?_ 4 _ rfl; refine skk ?_; refine blk_put (cs := #[.int .i64 ((rd_T49 l0 x4_1).f0), .int .i64 ((rd_T49 l0 x4_1).f1), .int .i64 ((rd_T49 l0 x4_1).f2), .int .i64 0, .int .i64 0, .int .i64 0]) ?_ 3 _ rfl; refine skk ?_; refine blk_put (cs := #[.int .i64 ((rd_T49 l0 x4_1).f0), .int .i64 ((rd_T49 l0 x4_1).f1), .int .i64 0, .int .i64 0, .int .i64 0, .int .i64 0]) ?_ 2 _ rfl; refine skk ?_; refine blk_put (cs := #[.int .i64 ((rd_T49 l0 x4_1).f0), .int .i64 0, .int .i64 0, .int .i64 0, .int .i64 0, .int .i64 0]) ?_ 1 _ rfl; refine skk ?_; refine blk_put (cs := #[.int .i64 0, .int .i64 0, .int .i64 0, .int .i64 0, .int .i64 0, .int .i64 0]) ?_ 0 _ rfl; refine skk ?_; exact BK326.out⟩, ⟨by repeat (first | (with_reducible first | exact HB.out | apply below_alloc | apply pw_below_drewN | apply below_drew1 | refine below_set ?_ GE326.out) | exact HB.out)⟩⟩
         case rest =>
          clear HC10
          try clear c1
          try clear c2
          try clear c2b0
          try clear c2b1
          try clear p2
          try clear c3
          try clear c3b0
          try clear c3b1
          try clear c3b2
          try clear p3
          try clear q3
          try clear hx3
          try clear c4
          try clear c4b0
          try clear c4b1
          try clear c5
          try clear c5b0
          try clear c5b1
          try clear c8
          try clear c8b0
          try clear c9
          try clear c9b0
          try clear c13
          try clear c13b0
          try clear c13b1
          try clear c14
          try clear c14b0
          try clear c14b1
          try clear c15
          try clear c15b0
          try clear c15b1
          try clear c16
          try clear c16b0
          try clear c16b1
          try clear c17
          try clear c17b0
          try clear c22
          try clear c22b0
          try clear c25
          try clear c25b0
          try clear c25b1
          try clear c26
          try clear c26b0
          try clear c26b1
          try clear c27
          try clear c27b0
          try clear c27b1
          try clear c28
          try clear c28b0
          try clear p32
          try clear q32
          try clear hx32
          try clear hcz12_0
          try clear hcz12_1
          try clear hcz12_2
          try clear hcz12_3
          try clear hcz12_4
          try clear hcz12_5
          try clear hcz18_0
          try clear hcz18_1
          try clear hcz18_2
          try clear hcz18_3
          try clear hcz18_4
          try clear hcz18_5
          try clear hcz19_0
          try clear hcz19_1
          try clear hcz19_2
          try clear hcz19_3
          try clear hcz19_4
          try clear hcz19_5
          try clear hcz20_0
          try clear hcz20_1
          try clear hcz20_2
          try clear hcz20_3
          try clear hcz20_4
          try clear hcz20_5
          try clear hcz21_0
          try clear hcz21_1
          try clear hcz21_2
          try clear hcz21_3
          try clear hcz21_4
          try clear hcz21_5
          try clear hcz23_0
          try clear hcz23_1
          try clear hcz23_2
          try clear hcz23_3
          try clear hcz23_4
          try clear hcz23_5
          try clear hcz24_0
          try clear hcz24_1
          try clear hcz24_2
          try clear hcz24_3
          try clear hcz24_4
          try clear hcz24_5
          try clear hcz29_0
          try clear hcz29_1
          try clear hcz29_2
          try clear hcz29_3
          try clear hcz29_4
          try clear hcz29_5
          try clear hcz30_0
          try clear hcz30_1
          try clear hcz30_2
          try clear hcz30_3
          try clear hcz30_4
          try clear hcz30_5
          try clear hcz31_0
          try clear hcz31_1
          try clear hcz31_2
          try clear hcz31_3
          try clear hcz31_4
          try clear hcz31_5
          try clear hcz32_0
          try clear hcz32_1
          try clear hcz32_2
          try clear hcz32_3
          try clear hcz32_4
          try clear hcz32_5
          try clear hcz33_0
          try clear hcz33_1
          try clear hcz33_2
          try clear hcz33_3
          try clear hcz33_4
          try clear hcz33_5
          try clear hfz12_0
          try clear hfz12_1
          try clear hfz12_2
          try clear hfz12_3
          try clear hfz12_4
          try clear hfz12_5
          try clear hfz18_0
          try clear hfz18_1
          try clear hfz18_2
          try clear hfz18_3
          try clear hfz18_4
          try clear hfz18_5
          try clear hfz19_0
          try clear hfz19_1
          try clear hfz19_2
          try clear hfz19_3
          try clear hfz19_4
          try clear hfz19_5
          try clear hfz20_0
          try clear hfz20_1
          try clear hfz20_2
          try clear hfz20_3
          try clear hfz20_4
          try clear hfz20_5
          try clear hfz21_0
          try clear hfz21_1
          try clear hfz21_2
          try clear hfz21_3
          try clear hfz21_4
          try clear hfz21_5
          try clear hfz23_0
          try clear hfz23_1
          try clear hfz23_2
          try clear hfz23_3
          try clear hfz23_4
          try clear hfz23_5
          try clear hfz24_0
          try clear hfz24_1
          try clear hfz24_2
          try clear hfz24_3
          try clear hfz24_4
          try clear hfz24_5
          try clear hfz29_0
          try clear hfz29_1
          try clear hfz29_2
          try clear hfz29_3
          try clear hfz29_4
          try clear hfz29_5
          try clear hfz30_0
          try clear hfz30_1
          try clear hfz30_2
          try clear hfz30_3
          try clear hfz30_4
          try clear hfz30_5
          try clear hfz31_0
          try clear hfz31_1
          try clear hfz31_2
          try clear hfz31_3
          try clear hfz31_4
          try clear hfz31_5
          try clear hfz32_0
          try clear hfz32_1
          try clear hfz32_2
          try clear hfz32_3
          try clear hfz32_4
          try clear hfz32_5
          try clear hfz33_0
          try clear hfz33_1
          try clear hfz33_2
          try clear hfz33_3
          try clear hfz33_4
          try clear hfz33_5
          try clear hx325_0
          try clear hx325_1
          try clear hx325_2
          try clear hx325_3
          try clear hx325_4
          try clear hx325_5
          try clear p2
          try clear p325
          try clear q325
          obtain ⟨kq, x58_9, rfl, HA, HJ9, HO_3, BK326, HB⟩ := hcut
          cases kq with
          | zero => exact absurd HA.out (by simp [larchref17_Check.j1])
          | succ kj9 =>
           have H := HA.out
           clear HA
           simp only [larchref17_Check.j1] at H
           by_cases c34 : x58_9 = true
           ·
            subst c34
            have H1 : (some 3) = some r := by rw [if_pos rfl] at H; exact H
            clear H
            have H := H1
            clear H1
            obtain rfl := Option.some.inj H
            go_wp2
            go_ret
            exact ⟨re, by repeat (first | (with_reducible first | exact HB.out | apply below_alloc | apply pw_below_drewN | apply below_drew1 | refine below_set ?_ GE326.out) | exact HB.out)⟩
           ·
            replace c34 := Bool.eq_false_iff.mpr c34
            subst c34
            have H1 : ((larchref17_leaf.f ((rd_T49 l0 x4_1).f0) ((rd_T49 l0 x4_1).f1) ((rd_T49 l0 x4_1).f2) ((rd_T49 l0 x4_1).f3) ((rd_T49 l0 x4_1).f4) ((rd_T49 l0 x4_1).f5)).bind fun t327 => (if t327 = true then (larchref17_Check.l0 kj9 l0 x3_1 (wrap64 (x4_1 + 1))) else (if ((rd_T49 l0 x4_1).f3) = 0 then (if ((rd_T49 l0 x4_1).f4) < 1 then (some 3) else (if ((rd_T49 l0 x4_1).f4) ≥ (l0.length : Int) then (some 3) else (if ((rd_T49 l0 x4_1).f5) < 1 then (some 3) else (if ((rd_T49 l0 x4_1).f5) ≥ (l0.length : Int) then (some 3) else (if ((rd_T49 l0 x4_1).f4) = ((rd_T49 l0 x4_1).f5) then (some 3) else (if 0 ≤ ((rd_T49 l0 x4_1).f4) then (if ((rd_T49 l0 x4_1).f4) < (x3_1.length : Int) then ((some (x3_1.set (((rd_T49 l0 x4_1).f4) : Int).toNat (wrap64 ((rd x3_1 ((rd_T49 l0 x4_1).f4)) + 1)) : List Int)).bind fun y329 => (if 0 ≤ ((rd_T49 l0 x4_1).f5) then (if ((rd_T49 l0 x4_1).f5) < (x3_1.length : Int) then (larchref17_Check.l0 kj9 l0 (y329.set (((rd_T49 l0 x4_1).f5) : Int).toNat (wrap64 ((rd y329 ((rd_T49 l0 x4_1).f5)) + 1))) (wrap64 (x4_1 + 1))) else (none)) else (none))) else (none)) else (none))))))) else (some 3)))) = some r := by rw [if_neg (show ¬ (false = true) by decide)] at H; exact H
            clear H
            have H := H1
            clear H1
            replace H := Option.bind_eq_some_iff.mp H
            obtain ⟨t327, A350, H⟩ := H
            replace H : (if t327 = true then (larchref17_Check.l0 kj9 l0 x3_1 (wrap64 (x4_1 + 1))) else (if ((rd_T49 l0 x4_1).f3) = 0 then (if ((rd_T49 l0 x4_1).f4) < 1 then (some 3) else (if ((rd_T49 l0 x4_1).f4) ≥ (l0.length : Int) then (some 3) else (if ((rd_T49 l0 x4_1).f5) < 1 then (some 3) else (if ((rd_T49 l0 x4_1).f5) ≥ (l0.length : Int) then (some 3) else (if ((rd_T49 l0 x4_1).f4) = ((rd_T49 l0 x4_1).f5) then (some 3) else (if 0 ≤ ((rd_T49 l0 x4_1).f4) then (if ((rd_T49 l0 x4_1).f4) < (x3_1.length : Int) then ((some (x3_1.set (((rd_T49 l0 x4_1).f4) : Int).toNat (wrap64 ((rd x3_1 ((rd_T49 l0 x4_1).f4)) + 1)) : List Int)).bind fun y329 => (if 0 ≤ ((rd_T49 l0 x4_1).f5) then (if ((rd_T49 l0 x4_1).f5) < (x3_1.length : Int) then (larchref17_Check.l0 kj9 l0 (y329.set (((rd_T49 l0 x4_1).f5) : Int).toNat (wrap64 ((rd y329 ((rd_T49 l0 x4_1).f5)) + 1))) (wrap64 (x4_1 + 1))) else (none)) else (none))) else (none)) else (none))))))) else (some 3))) = some r := H
            have A35 := Aside0.mk A350
            clear A350
            by_cases c36 : t327 = true
            ·
             subst c36
             have H1 : (larchref17_Check.l0 kj9 l0 x3_1 (wrap64 (x4_1 + 1))) = some r := by rw [if_pos rfl] at H; exact H
             clear H
             have H := H1
             clear H1
             have H' := Aside0.mk H
             clear H
             obtain ⟨hcz37_0, hcz37_1, hcz37_2, hcz37_3, hcz37_4, hcz37_5, hfz37_0, hfz37_1, hfz37_2, hfz37_3, hfz37_4, hfz37_5⟩ := bk6 BK326.out
             go_wp2_with (first | ((with_reducible refine gate_callee (f := 53) rfl ?_); refine goesL_ (some 60) rfl rfl Try.func53 (by kernel_rfl) rfl #[.agg #[.int .i64 ((rd_T49 l0 x4_1).f0), .int .i64 ((rd_T49 l0 x4_1).f1), .int .i64 ((rd_T49 l0 x4_1).f2), .int .i64 ((rd_T49 l0 x4_1).f3), .int .i64 ((rd_T49 l0 x4_1).f4), .int .i64 ((rd_T49 l0 x4_1).f5)]] rfl ags ?_; (with_reducible refine (larchref17_leaf.calls ((rd_T49 l0 x4_1).f0) ((rd_T49 l0 x4_1).f1) ((rd_T49 l0 x4_1).f2) ((rd_T49 l0 x4_1).f3) ((rd_T49 l0 x4_1).f4) ((rd_T49 l0 x4_1).f5) true _ A35.out).mono ?_); rintro e w38 ⟨rfl, hb⟩; refine ⟨_, rfl, ?_⟩; have n0_ := Aside0.mk (Kd.R_below (skR HO_3.out) hb); have n1_ := Aside0.mk (blk_below (g := gb326) (o := .cells #[.int .i64 ((rd_T49 l0 x4_1).f0), .int .i64 ((rd_T49 l0 x4_1).f1), .int .i64 ((rd_T49 l0 x4_1).f2), .int .i64 ((rd_T49 l0 x4_1).f3), .int .i64 ((rd_T49 l0 x4_1).f4), .int .i64 ((rd_T49 l0 x4_1).f5)] 49 (0, 0)) (skK BK326.out) hb); have n2_ := Aside0.mk (below_step (by repeat (first | (with_reducible first | exact HB.out | apply below_alloc | apply pw_below_drewN | apply below_drew1 | refine below_set ?_ GE326.out) | exact HB.out)) hb); clear HO_3; clear BK326; clear HB; have HO_3 := n0_; have BK326 := n1_; have HB := n2_; clear n0_ n1_ n2_; (try clear hb); (try clear hb2); (try clear hk); (try clear hi)))
             go_roundg kj9
             case measure => have := HK1.out; have := HJ9.out; omega
             case rel => exact ⟨(x3_1), (wrap64 (x4_1 + 1)), rs, H', ⟨by have := HK1.out; have := HJ9.out; omega⟩, ⟨skR HO_3.out⟩, ⟨by repeat (first | (with_reducible first | exact HB.out | apply below_alloc | apply pw_below_drewN | apply below_drew1 | refine below_set ?_ GE326.out) | exact HB.out)⟩⟩
            ·
             replace c36 := Bool.eq_false_iff.mpr c36
             subst c36
             have H1 : (if ((rd_T49 l0 x4_1).f3) = 0 then (if ((rd_T49 l0 x4_1).f4) < 1 then (some 3) else (if ((rd_T49 l0 x4_1).f4) ≥ (l0.length : Int) then (some 3) else (if ((rd_T49 l0 x4_1).f5) < 1 then (some 3) else (if ((rd_T49 l0 x4_1).f5) ≥ (l0.length : Int) then (some 3) else (if ((rd_T49 l0 x4_1).f4) = ((rd_T49 l0 x4_1).f5) then (some 3) else (if 0 ≤ ((rd_T49 l0 x4_1).f4) then (if ((rd_T49 l0 x4_1).f4) < (x3_1.length : Int) then ((some (x3_1.set (((rd_T49 l0 x4_1).f4) : Int).toNat (wrap64 ((rd x3_1 ((rd_T49 l0 x4_1).f4)) + 1)) : List Int)).bind fun y329 => (if 0 ≤ ((rd_T49 l0 x4_1).f5) then (if ((rd_T49 l0 x4_1).f5) < (x3_1.length : Int) then (larchref17_Check.l0 kj9 l0 (y329.set (((rd_T49 l0 x4_1).f5) : Int).toNat (wrap64 ((rd y329 ((rd_T49 l0 x4_1).f5)) + 1))) (wrap64 (x4_1 + 1))) else (none)) else (none))) else (none)) else (none))))))) else (some 3)) = some r := by rw [if_neg (show ¬ (false = true) by decide)] at H; exact H
             clear H
             have H := H1
             clear H1
             by_cases c39 : ((rd_T49 l0 x4_1).f3) = 0
             ·
              rw [if_pos c39] at H
              have c39b0 : (((rd_T49 l0 x4_1).f3) == 0) = true := beq_iff_eq.mpr c39
              have c39b1 : (((rd_T49 l0 x4_1).f3) != 0) = false := bne_eq_false_iff_eq.mpr c39
              clear c39
              by_cases c40 : ((rd_T49 l0 x4_1).f4) < 1
              ·
               rw [if_pos c40] at H
               have c40b0 : decide (((rd_T49 l0 x4_1).f4) < 1) = true := decide_eq_true c40
               clear c40
               obtain rfl := Option.some.inj H
               obtain ⟨hcz41_0, hcz41_1, hcz41_2, hcz41_3, hcz41_4, hcz41_5, hfz41_0, hfz41_1, hfz41_2, hfz41_3, hfz41_4, hfz41_5⟩ := bk6 BK326.out
               go_wp2_with (first | ((with_reducible refine gate_callee (f := 53) rfl ?_); refine goesL_ (some 60) rfl rfl Try.func53 (by kernel_rfl) rfl #[.agg #[.int .i64 ((rd_T49 l0 x4_1).f0), .int .i64 ((rd_T49 l0 x4_1).f1), .int .i64 ((rd_T49 l0 x4_1).f2), .int .i64 ((rd_T49 l0 x4_1).f3), .int .i64 ((rd_T49 l0 x4_1).f4), .int .i64 ((rd_T49 l0 x4_1).f5)]] rfl ags ?_; (with_reducible refine (larchref17_leaf.calls ((rd_T49 l0 x4_1).f0) ((rd_T49 l0 x4_1).f1) ((rd_T49 l0 x4_1).f2) ((rd_T49 l0 x4_1).f3) ((rd_T49 l0 x4_1).f4) ((rd_T49 l0 x4_1).f5) false _ A35.out).mono ?_); rintro e w42 ⟨rfl, hb⟩; refine ⟨_, rfl, ?_⟩; have n0_ := Aside0.mk (Kd.R_below (skR HO_3.out) hb); have n1_ := Aside0.mk (blk_below (g := gb326) (o := .cells #[.int .i64 ((rd_T49 l0 x4_1).f0), .int .i64 ((rd_T49 l0 x4_1).f1), .int .i64 ((rd_T49 l0 x4_1).f2), .int .i64 ((rd_T49 l0 x4_1).f3), .int .i64 ((rd_T49 l0 x4_1).f4), .int .i64 ((rd_T49 l0 x4_1).f5)] 49 (0, 0)) (skK BK326.out) hb); have n2_ := Aside0.mk (below_step (by repeat (first | (with_reducible first | exact HB.out | apply below_alloc | apply pw_below_drewN | apply below_drew1 | refine below_set ?_ GE326.out) | exact HB.out)) hb); clear HO_3; clear BK326; clear HB; have HO_3 := n0_; have BK326 := n1_; have HB := n2_; clear n0_ n1_ n2_; (try clear hb); (try clear hb2); (try clear hk); (try clear hi); obtain ⟨hcz43_0, hcz43_1, hcz43_2, hcz43_3, hcz43_4, hcz43_5, hfz43_0, hfz43_1, hfz43_2, hfz43_3, hfz43_4, hfz43_5⟩ := bk6 BK326.out))
               go_ret
               exact ⟨re, by repeat (first | (with_reducible first | exact HB.out | apply below_alloc | apply pw_below_drewN | apply below_drew1 | refine below_set ?_ GE326.out) | exact HB.out)⟩
              ·
               rw [if_neg c40] at H
               have c40b0 : decide (((rd_T49 l0 x4_1).f4) < 1) = false := decide_eq_false c40
               clear c40
               by_cases c44 : ((rd_T49 l0 x4_1).f4) ≥ (l0.length : Int)
               ·
                rw [if_pos c44] at H
                have c44b0 : decide ((l0.length : Int) ≤ ((rd_T49 l0 x4_1).f4)) = true := decide_eq_true c44
                clear c44
                obtain rfl := Option.some.inj H
                obtain ⟨hcz45_0, hcz45_1, hcz45_2, hcz45_3, hcz45_4, hcz45_5, hfz45_0, hfz45_1, hfz45_2, hfz45_3, hfz45_4, hfz45_5⟩ := bk6 BK326.out
                go_wp2_with (first | ((with_reducible refine gate_callee (f := 53) rfl ?_); refine goesL_ (some 60) rfl rfl Try.func53 (by kernel_rfl) rfl #[.agg #[.int .i64 ((rd_T49 l0 x4_1).f0), .int .i64 ((rd_T49 l0 x4_1).f1), .int .i64 ((rd_T49 l0 x4_1).f2), .int .i64 ((rd_T49 l0 x4_1).f3), .int .i64 ((rd_T49 l0 x4_1).f4), .int .i64 ((rd_T49 l0 x4_1).f5)]] rfl ags ?_; (with_reducible refine (larchref17_leaf.calls ((rd_T49 l0 x4_1).f0) ((rd_T49 l0 x4_1).f1) ((rd_T49 l0 x4_1).f2) ((rd_T49 l0 x4_1).f3) ((rd_T49 l0 x4_1).f4) ((rd_T49 l0 x4_1).f5) false _ A35.out).mono ?_); rintro e w46 ⟨rfl, hb⟩; refine ⟨_, rfl, ?_⟩; have n0_ := Aside0.mk (Kd.R_below (skR HO_3.out) hb); have n1_ := Aside0.mk (blk_below (g := gb326) (o := .cells #[.int .i64 ((rd_T49 l0 x4_1).f0), .int .i64 ((rd_T49 l0 x4_1).f1), .int .i64 ((rd_T49 l0 x4_1).f2), .int .i64 ((rd_T49 l0 x4_1).f3), .int .i64 ((rd_T49 l0 x4_1).f4), .int .i64 ((rd_T49 l0 x4_1).f5)] 49 (0, 0)) (skK BK326.out) hb); have n2_ := Aside0.mk (below_step (by repeat (first | (with_reducible first | exact HB.out | apply below_alloc | apply pw_below_drewN | apply below_drew1 | refine below_set ?_ GE326.out) | exact HB.out)) hb); clear HO_3; clear BK326; clear HB; have HO_3 := n0_; have BK326 := n1_; have HB := n2_; clear n0_ n1_ n2_; (try clear hb); (try clear hb2); (try clear hk); (try clear hi); obtain ⟨hcz47_0, hcz47_1, hcz47_2, hcz47_3, hcz47_4, hcz47_5, hfz47_0, hfz47_1, hfz47_2, hfz47_3, hfz47_4, hfz47_5⟩ := bk6 BK326.out))
                go_ret
                exact ⟨re, by repeat (first | (with_reducible first | exact HB.out | apply below_alloc | apply pw_below_drewN | apply below_drew1 | refine below_set ?_ GE326.out) | exact HB.out)⟩
               ·
                rw [if_neg c44] at H
                have c44b0 : decide ((l0.length : Int) ≤ ((rd_T49 l0 x4_1).f4)) = false := decide_eq_false c44
                clear c44
                by_cases c48 : ((rd_T49 l0 x4_1).f5) < 1
                ·
                 rw [if_pos c48] at H
                 have c48b0 : decide (((rd_T49 l0 x4_1).f5) < 1) = true := decide_eq_true c48
                 clear c48
                 obtain rfl := Option.some.inj H
                 obtain ⟨hcz49_0, hcz49_1, hcz49_2, hcz49_3, hcz49_4, hcz49_5, hfz49_0, hfz49_1, hfz49_2, hfz49_3, hfz49_4, hfz49_5⟩ := bk6 BK326.out
                 go_wp2_with (first | ((with_reducible refine gate_callee (f := 53) rfl ?_); refine goesL_ (some 60) rfl rfl Try.func53 (by kernel_rfl) rfl #[.agg #[.int .i64 ((rd_T49 l0 x4_1).f0), .int .i64 ((rd_T49 l0 x4_1).f1), .int .i64 ((rd_T49 l0 x4_1).f2), .int .i64 ((rd_T49 l0 x4_1).f3), .int .i64 ((rd_T49 l0 x4_1).f4), .int .i64 ((rd_T49 l0 x4_1).f5)]] rfl ags ?_; (with_reducible refine (larchref17_leaf.calls ((rd_T49 l0 x4_1).f0) ((rd_T49 l0 x4_1).f1) ((rd_T49 l0 x4_1).f2) ((rd_T49 l0 x4_1).f3) ((rd_T49 l0 x4_1).f4) ((rd_T49 l0 x4_1).f5) false _ A35.out).mono ?_); rintro e w50 ⟨rfl, hb⟩; refine ⟨_, rfl, ?_⟩; have n0_ := Aside0.mk (Kd.R_below (skR HO_3.out) hb); have n1_ := Aside0.mk (blk_below (g := gb326) (o := .cells #[.int .i64 ((rd_T49 l0 x4_1).f0), .int .i64 ((rd_T49 l0 x4_1).f1), .int .i64 ((rd_T49 l0 x4_1).f2), .int .i64 ((rd_T49 l0 x4_1).f3), .int .i64 ((rd_T49 l0 x4_1).f4), .int .i64 ((rd_T49 l0 x4_1).f5)] 49 (0, 0)) (skK BK326.out) hb); have n2_ := Aside0.mk (below_step (by repeat (first | (with_reducible first | exact HB.out | apply below_alloc | apply pw_below_drewN | apply below_drew1 | refine below_set ?_ GE326.out) | exact HB.out)) hb); clear HO_3; clear BK326; clear HB; have HO_3 := n0_; have BK326 := n1_; have HB := n2_; clear n0_ n1_ n2_; (try clear hb); (try clear hb2); (try clear hk); (try clear hi); obtain ⟨hcz51_0, hcz51_1, hcz51_2, hcz51_3, hcz51_4, hcz51_5, hfz51_0, hfz51_1, hfz51_2, hfz51_3, hfz51_4, hfz51_5⟩ := bk6 BK326.out))
                 go_ret
                 exact ⟨re, by repeat (first | (with_reducible first | exact HB.out | apply below_alloc | apply pw_below_drewN | apply below_drew1 | refine below_set ?_ GE326.out) | exact HB.out)⟩
                ·
                 rw [if_neg c48] at H
                 have c48b0 : decide (((rd_T49 l0 x4_1).f5) < 1) = false := decide_eq_false c48
                 clear c48
                 by_cases c52 : ((rd_T49 l0 x4_1).f5) ≥ (l0.length : Int)
                 ·
                  rw [if_pos c52] at H
                  have c52b0 : decide ((l0.length : Int) ≤ ((rd_T49 l0 x4_1).f5)) = true := decide_eq_true c52
                  clear c52
                  obtain rfl := Option.some.inj H
                  obtain ⟨hcz53_0, hcz53_1, hcz53_2, hcz53_3, hcz53_4, hcz53_5, hfz53_0, hfz53_1, hfz53_2, hfz53_3, hfz53_4, hfz53_5⟩ := bk6 BK326.out
                  go_wp2_with (first | ((with_reducible refine gate_callee (f := 53) rfl ?_); refine goesL_ (some 60) rfl rfl Try.func53 (by kernel_rfl) rfl #[.agg #[.int .i64 ((rd_T49 l0 x4_1).f0), .int .i64 ((rd_T49 l0 x4_1).f1), .int .i64 ((rd_T49 l0 x4_1).f2), .int .i64 ((rd_T49 l0 x4_1).f3), .int .i64 ((rd_T49 l0 x4_1).f4), .int .i64 ((rd_T49 l0 x4_1).f5)]] rfl ags ?_; (with_reducible refine (larchref17_leaf.calls ((rd_T49 l0 x4_1).f0) ((rd_T49 l0 x4_1).f1) ((rd_T49 l0 x4_1).f2) ((rd_T49 l0 x4_1).f3) ((rd_T49 l0 x4_1).f4) ((rd_T49 l0 x4_1).f5) false _ A35.out).mono ?_); rintro e w54 ⟨rfl, hb⟩; refine ⟨_, rfl, ?_⟩; have n0_ := Aside0.mk (Kd.R_below (skR HO_3.out) hb); have n1_ := Aside0.mk (blk_below (g := gb326) (o := .cells #[.int .i64 ((rd_T49 l0 x4_1).f0), .int .i64 ((rd_T49 l0 x4_1).f1), .int .i64 ((rd_T49 l0 x4_1).f2), .int .i64 ((rd_T49 l0 x4_1).f3), .int .i64 ((rd_T49 l0 x4_1).f4), .int .i64 ((rd_T49 l0 x4_1).f5)] 49 (0, 0)) (skK BK326.out) hb); have n2_ := Aside0.mk (below_step (by repeat (first | (with_reducible first | exact HB.out | apply below_alloc | apply pw_below_drewN | apply below_drew1 | refine below_set ?_ GE326.out) | exact HB.out)) hb); clear HO_3; clear BK326; clear HB; have HO_3 := n0_; have BK326 := n1_; have HB := n2_; clear n0_ n1_ n2_; (try clear hb); (try clear hb2); (try clear hk); (try clear hi); obtain ⟨hcz55_0, hcz55_1, hcz55_2, hcz55_3, hcz55_4, hcz55_5, hfz55_0, hfz55_1, hfz55_2, hfz55_3, hfz55_4, hfz55_5⟩ := bk6 BK326.out))
                  go_ret
                  exact ⟨re, by repeat (first | (with_reducible first | exact HB.out | apply below_alloc | apply pw_below_drewN | apply below_drew1 | refine below_set ?_ GE326.out) | exact HB.out)⟩
                 ·
                  rw [if_neg c52] at H
                  have c52b0 : decide ((l0.length : Int) ≤ ((rd_T49 l0 x4_1).f5)) = false := decide_eq_false c52
                  clear c52
                  by_cases c56 : ((rd_T49 l0 x4_1).f4) = ((rd_T49 l0 x4_1).f5)
                  ·
                   rw [if_pos c56] at H
                   have c56b0 : (((rd_T49 l0 x4_1).f4) == ((rd_T49 l0 x4_1).f5)) = true := beq_iff_eq.mpr c56
                   have c56b1 : (((rd_T49 l0 x4_1).f4) != ((rd_T49 l0 x4_1).f5)) = false := bne_eq_false_iff_eq.mpr c56
                   clear c56
                   obtain rfl := Option.some.inj H
                   obtain ⟨hcz57_0, hcz57_1, hcz57_2, hcz57_3, hcz57_4, hcz57_5, hfz57_0, hfz57_1, hfz57_2, hfz57_3, hfz57_4, hfz57_5⟩ := bk6 BK326.out
                   go_wp2_with (first | ((with_reducible refine gate_callee (f := 53) rfl ?_); refine goesL_ (some 60) rfl rfl Try.func53 (by kernel_rfl) rfl #[.agg #[.int .i64 ((rd_T49 l0 x4_1).f0), .int .i64 ((rd_T49 l0 x4_1).f1), .int .i64 ((rd_T49 l0 x4_1).f2), .int .i64 ((rd_T49 l0 x4_1).f3), .int .i64 ((rd_T49 l0 x4_1).f4), .int .i64 ((rd_T49 l0 x4_1).f5)]] rfl ags ?_; (with_reducible refine (larchref17_leaf.calls ((rd_T49 l0 x4_1).f0) ((rd_T49 l0 x4_1).f1) ((rd_T49 l0 x4_1).f2) ((rd_T49 l0 x4_1).f3) ((rd_T49 l0 x4_1).f4) ((rd_T49 l0 x4_1).f5) false _ A35.out).mono ?_); rintro e w58 ⟨rfl, hb⟩; refine ⟨_, rfl, ?_⟩; have n0_ := Aside0.mk (Kd.R_below (skR HO_3.out) hb); have n1_ := Aside0.mk (blk_below (g := gb326) (o := .cells #[.int .i64 ((rd_T49 l0 x4_1).f0), .int .i64 ((rd_T49 l0 x4_1).f1), .int .i64 ((rd_T49 l0 x4_1).f2), .int .i64 ((rd_T49 l0 x4_1).f3), .int .i64 ((rd_T49 l0 x4_1).f4), .int .i64 ((rd_T49 l0 x4_1).f5)] 49 (0, 0)) (skK BK326.out) hb); have n2_ := Aside0.mk (below_step (by repeat (first | (with_reducible first | exact HB.out | apply below_alloc | apply pw_below_drewN | apply below_drew1 | refine below_set ?_ GE326.out) | exact HB.out)) hb); clear HO_3; clear BK326; clear HB; have HO_3 := n0_; have BK326 := n1_; have HB := n2_; clear n0_ n1_ n2_; (try clear hb); (try clear hb2); (try clear hk); (try clear hi); obtain ⟨hcz59_0, hcz59_1, hcz59_2, hcz59_3, hcz59_4, hcz59_5, hfz59_0, hfz59_1, hfz59_2, hfz59_3, hfz59_4, hfz59_5⟩ := bk6 BK326.out))
                   go_ret
                   exact ⟨re, by repeat (first | (with_reducible first | exact HB.out | apply below_alloc | apply pw_below_drewN | apply below_drew1 | refine below_set ?_ GE326.out) | exact HB.out)⟩
                  ·
                   rw [if_neg c56] at H
                   have c56b0 : (((rd_T49 l0 x4_1).f4) == ((rd_T49 l0 x4_1).f5)) = false := beq_eq_false_iff_ne.mpr c56
                   have c56b1 : (((rd_T49 l0 x4_1).f4) != ((rd_T49 l0 x4_1).f5)) = true := bne_iff_ne.mpr c56
                   by_cases c60 : 0 ≤ ((rd_T49 l0 x4_1).f4)
                   ·
                    rw [if_pos c60] at H
                    have c60b0 : decide (0 ≤ ((rd_T49 l0 x4_1).f4)) = true := decide_eq_true c60
                    clear c60
                    by_cases c61 : ((rd_T49 l0 x4_1).f4) < (x3_1.length : Int)
                    ·
                     rw [if_pos c61] at H
                     have c61b0 : decide (((rd_T49 l0 x4_1).f4) < (x3_1.length : Int)) = true := decide_eq_true c61
                     clear c61
                     obtain ⟨y329, hy329⟩ : ∃ y_ : List Int, y_ = (x3_1.set (((rd_T49 l0 x4_1).f4) : Int).toNat (wrap64 ((rd x3_1 ((rd_T49 l0 x4_1).f4)) + 1))) := ⟨_, rfl⟩
                     replace H : (if 0 ≤ ((rd_T49 l0 x4_1).f5) then (if ((rd_T49 l0 x4_1).f5) < (x3_1.length : Int) then (larchref17_Check.l0 kj9 l0 (y329.set (((rd_T49 l0 x4_1).f5) : Int).toNat (wrap64 ((rd y329 ((rd_T49 l0 x4_1).f5)) + 1))) (wrap64 (x4_1 + 1))) else (none)) else (none)) = some r := by first | (rw [hy329]; with_reducible exact H) | (have H2_ := (Option.bind_some _ _).symm.trans H; rw [hy329]; with_reducible exact H2_) | (have H2_ := (Option.bind_some _ _).symm.trans H; with_reducible exact H2_) | with_reducible exact H | (rw [hy329]; exact H) | exact H
                     have Ny329 := Aside0.mk hy329
                     clear hy329
                     by_cases c63 : 0 ≤ ((rd_T49 l0 x4_1).f5)
                     ·
                      rw [if_pos c63] at H
                      have c63b0 : decide (0 ≤ ((rd_T49 l0 x4_1).f5)) = true := decide_eq_true c63
                      clear c63
                      by_cases c64 : ((rd_T49 l0 x4_1).f5) < (x3_1.length : Int)
                      ·
                       rw [if_pos c64] at H
                       have c64b0 : decide (((rd_T49 l0 x4_1).f5) < (x3_1.length : Int)) = true := decide_eq_true c64
                       clear c64
                       obtain ⟨y331, hy331⟩ : ∃ y_ : List Int, y_ = (y329.set (((rd_T49 l0 x4_1).f5) : Int).toNat (wrap64 ((rd y329 ((rd_T49 l0 x4_1).f5)) + 1))) := ⟨_, rfl⟩
                       replace H : (larchref17_Check.l0 kj9 l0 y331 (wrap64 (x4_1 + 1))) = some r := by first | (rw [hy331]; with_reducible exact H) | (have H2_ := (Option.bind_some _ _).symm.trans H; rw [hy331]; with_reducible exact H2_) | (have H2_ := (Option.bind_some _ _).symm.trans H; with_reducible exact H2_) | with_reducible exact H | (rw [hy331]; exact H) | exact H
                       have Ny331 := Aside0.mk hy331
                       clear hy331
                       have H' := Aside0.mk H
                       clear H
                       obtain ⟨hcz66_0, hcz66_1, hcz66_2, hcz66_3, hcz66_4, hcz66_5, hfz66_0, hfz66_1, hfz66_2, hfz66_3, hfz66_4, hfz66_5⟩ := bk6 BK326.out
                       go_wp2_with (first | ((with_reducible refine gate_callee (f := 53) rfl ?_); refine goesL_ (some 60) rfl rfl Try.func53 (by kernel_rfl) rfl #[.agg #[.int .i64 ((rd_T49 l0 x4_1).f0), .int .i64 ((rd_T49 l0 x4_1).f1), .int .i64 ((rd_T49 l0 x4_1).f2), .int .i64 ((rd_T49 l0 x4_1).f3), .int .i64 ((rd_T49 l0 x4_1).f4), .int .i64 ((rd_T49 l0 x4_1).f5)]] rfl ags ?_; (with_reducible refine (larchref17_leaf.calls ((rd_T49 l0 x4_1).f0) ((rd_T49 l0 x4_1).f1) ((rd_T49 l0 x4_1).f2) ((rd_T49 l0 x4_1).f3) ((rd_T49 l0 x4_1).f4) ((rd_T49 l0 x4_1).f5) false _ A35.out).mono ?_); rintro e w67 ⟨rfl, hb⟩; refine ⟨_, rfl, ?_⟩; have n0_ := Aside0.mk (Kd.R_below (skR HO_3.out) hb); have n1_ := Aside0.mk (blk_below (g := gb326) (o := .cells #[.int .i64 ((rd_T49 l0 x4_1).f0), .int .i64 ((rd_T49 l0 x4_1).f1), .int .i64 ((rd_T49 l0 x4_1).f2), .int .i64 ((rd_T49 l0 x4_1).f3), .int .i64 ((rd_T49 l0 x4_1).f4), .int .i64 ((rd_T49 l0 x4_1).f5)] 49 (0, 0)) (skK BK326.out) hb); have n2_ := Aside0.mk (below_step (by repeat (first | (with_reducible first | exact HB.out | apply below_alloc | apply pw_below_drewN | apply below_drew1 | refine below_set ?_ GE326.out) | exact HB.out)) hb); clear HO_3; clear BK326; clear HB; have HO_3 := n0_; have BK326 := n1_; have HB := n2_; clear n0_ n1_ n2_; (try clear hb); (try clear hb2); (try clear hk); (try clear hi); obtain ⟨hcz68_0, hcz68_1, hcz68_2, hcz68_3, hcz68_4, hcz68_5, hfz68_0, hfz68_1, hfz68_2, hfz68_3, hfz68_4, hfz68_5⟩ := bk6 BK326.out; obtain ⟨Ao69, co69, eo69⟩ := Kd.R_slice HO_3.out; subst eo69; have p328 : 0 ≤ (((rd_T49 l0 x4_1).f4) : Int) := dt; have q328 : ((rd_T49 l0 x4_1).f4) < (x3_1.length : Int) := dt; obtain ⟨ad328, e328, hx328_0⟩ := Kd.at_int (Kd.R_reads' HO_3.out).2.2 ((rd_T49 l0 x4_1).f4) p328 q328; cases e328; replace p328 := eq_true p328; replace q328 := eq_true q328; have p62 : 0 ≤ (((rd_T49 l0 x4_1).f4) : Int) := dt; have q62 : (((rd_T49 l0 x4_1).f4) : Int) < ((x3_1.length : Int) : Int) := dt; obtain ⟨go62, co62, eo62, gb62, gl62, cl62, HG62⟩ := Kd.R_form HO_3.out (by omega); (first | cases eo62 | (injection eo62 with ea_ en_ ec_; (first | subst ea_ | (injection ea_ with ea_; subst ea_)); subst ec_; clear en_)); have GB62 := Aside0.mk gb62; have GG62 := Aside0.mk HG62; clear gb62 gl62 HG62; (first | simp only [add_plain] at hx328_0 | skip); obtain ⟨hx62_0, hf62_0⟩ := Kd.R_celln 0 HO_3.out (((rd_T49 l0 x4_1).f4) : Int) p62 q62; replace p62 := eq_true p62; replace q62 := eq_true q62; obtain ⟨hy70_, hz70_⟩ := Kd.R_celln 0 HO_3.out (((rd_T49 l0 x4_1).f4) : Int) dt dt; have HP70 := Kd.R_putg HO_3.out (((rd_T49 l0 x4_1).f4) : Int) (wrap64 ((rd x3_1 ((rd_T49 l0 x4_1).f4)) + 1))) | ((with_reducible refine gate_store (t := 3) (p := 101) rfl ?_); refine store_event (t := 3) (p := 101) (v := ?vo_w71) (w1 := (w67.setCell ⟨go62, (((rd_T49 l0 x4_1).f4) : Int).toNat, none⟩ (.int .i64 (wrap64 ((rd x3_1 ((rd_T49 l0 x4_1).f4)) + 1))))) ?hg ?ho ?hn ?hr ?_; (case ho => rfl); (case hg => rfl); (case hn => rfl); (case hr => first | (go_simp; done) | (go_simp; rfl)); intro w71 hw; have hg : w67.grownBy w71 (some go62) := (by rw [hw]; exact HP70.2); have hp_ : Kd.R (Kd.int .i64) 3 w71 w.heap.size (fun _ => True) (.slice (some ⟨go62, 0, none⟩) x3_1.length co69) y329 := (by rw [hw, Ny329.out]; exact HP70.1); clear HP70; have n0_ := Aside0.mk (hp_); have n1_ := Aside0.mk (blk_grown (g := gb326) (o := .cells #[.int .i64 ((rd_T49 l0 x4_1).f0), .int .i64 ((rd_T49 l0 x4_1).f1), .int .i64 ((rd_T49 l0 x4_1).f2), .int .i64 ((rd_T49 l0 x4_1).f3), .int .i64 ((rd_T49 l0 x4_1).f4), .int .i64 ((rd_T49 l0 x4_1).f5)] 49 (0, 0)) (skK BK326.out) hg (Kd.R_ne HO_3.out BK326.out (by decide))); have n2_ := Aside0.mk ((by rw [hw]; exact below_set (HB.out) GB62.out : Below w.heap.size w w71)); clear HO_3; clear BK326; clear HB; have HO_3 := n0_; have BK326 := n1_; have HB := n2_; clear n0_ n1_ n2_; clear hg hw hp_; obtain ⟨hcz72_0, hcz72_1, hcz72_2, hcz72_3, hcz72_4, hcz72_5, hfz72_0, hfz72_1, hfz72_2, hfz72_3, hfz72_4, hfz72_5⟩ := bk6 BK326.out; have p330 : 0 ≤ (((rd_T49 l0 x4_1).f5) : Int) := dt; have q330 : ((rd_T49 l0 x4_1).f5) < (y329.length : Int) := (by have h_ : (((rd_T49 l0 x4_1).f5) : Int) < ((x3_1.length : Int) : Int) := dt; first | (have e_ := (Kd.R_reads' HO_3.out).1; omega) | simpa only [Ny329.out, List.length_set] using h_); have ql330 : ((((rd_T49 l0 x4_1).f5) : Int) < ((x3_1.length : Int) : Int)) = True := eq_true dt; obtain ⟨ad330, e330, hx330_0⟩ := Kd.at_int (Kd.R_reads' HO_3.out).2.2 ((rd_T49 l0 x4_1).f5) p330 q330; obtain rfl : (⟨go62, 0, none⟩ : Addr) = ad330 := (by injection e330); (first | simp only [add_plain] at hx330_0 | simp only [add_at] at hx330_0 | simp only [Addr.add, Nat.zero_add] at hx330_0 | skip); replace p330 := eq_true p330; replace q330 := eq_true q330; have p65 : 0 ≤ (((rd_T49 l0 x4_1).f5) : Int) := dt; have q65 : (((rd_T49 l0 x4_1).f5) : Int) < ((x3_1.length : Int) : Int) := dt; obtain ⟨hx65_0, hf65_0⟩ := Kd.R_celln 0 HO_3.out (((rd_T49 l0 x4_1).f5) : Int) p65 q65; replace p65 := eq_true p65; replace q65 := eq_true q65; obtain ⟨hy73_, hz73_⟩ := Kd.R_celln 0 HO_3.out (((rd_T49 l0 x4_1).f5) : Int) dt dt; have HP73 := Kd.R_putg HO_3.out (((rd_T49 l0 x4_1).f5) : Int) (wrap64 ((rd y329 ((rd_T49 l0 x4_1).f5)) + 1))) | ((with_reducible refine gate_store (t := 3) (p := 108) rfl ?_); refine store_event (t := 3) (p := 108) (v := ?vo_w74) (w1 := (w71.setCell ⟨go62, (((rd_T49 l0 x4_1).f5) : Int).toNat, none⟩ (.int .i64 (wrap64 ((rd y329 ((rd_T49 l0 x4_1).f5)) + 1))))) ?hg ?ho ?hn ?hr ?_; (case ho => rfl); (case hg => rfl); (case hn => rfl); (case hr => first | (go_simp; done) | (go_simp; rfl)); intro w74 hw; have hg : w71.grownBy w74 (some go62) := (by rw [hw]; exact HP73.2); have hp_ : Kd.R (Kd.int .i64) 3 w74 w.heap.size (fun _ => True) (.slice (some ⟨go62, 0, none⟩) x3_1.length co69) y331 := (by rw [hw, Ny331.out]; exact HP73.1); clear HP73; have n0_ := Aside0.mk (hp_); have n1_ := Aside0.mk (blk_grown (g := gb326) (o := .cells #[.int .i64 ((rd_T49 l0 x4_1).f0), .int .i64 ((rd_T49 l0 x4_1).f1), .int .i64 ((rd_T49 l0 x4_1).f2), .int .i64 ((rd_T49 l0 x4_1).f3), .int .i64 ((rd_T49 l0 x4_1).f4), .int .i64 ((rd_T49 l0 x4_1).f5)] 49 (0, 0)) (skK BK326.out) hg (Kd.R_ne HO_3.out BK326.out (by decide))); have n2_ := Aside0.mk ((by rw [hw]; exact below_set (HB.out) GB62.out : Below w.heap.size w w74)); clear HO_3; clear BK326; clear HB; have HO_3 := n0_; have BK326 := n1_; have HB := n2_; clear n0_ n1_ n2_; clear hg hw hp_))
                       go_roundg kj9
                       case measure => have := HK1.out; have := HJ9.out; omega
                       case rel => exact ⟨(y331), (wrap64 (x4_1 + 1)), rs, H', ⟨by have := HK1.out; have := HJ9.out; omega⟩, ⟨skR HO_3.out⟩, ⟨by repeat (first | (with_reducible first | exact HB.out | apply below_alloc | apply pw_below_drewN | apply below_drew1 | refine below_set ?_ GE326.out) | exact HB.out)⟩⟩
                      ·
                       rw [if_neg c64] at H
                       exact absurd H (by simp)
                     ·
                      rw [if_neg c63] at H
                      exact absurd H (by simp)
                    ·
                     rw [if_neg c61] at H
                     exact absurd H (by simp)
                   ·
                    rw [if_neg c60] at H
                    exact absurd H (by simp)
             ·
              rw [if_neg c39] at H
              have c39b0 : (((rd_T49 l0 x4_1).f3) == 0) = false := beq_eq_false_iff_ne.mpr c39
              have c39b1 : (((rd_T49 l0 x4_1).f3) != 0) = true := bne_iff_ne.mpr c39
              obtain rfl := Option.some.inj H
              obtain ⟨hcz75_0, hcz75_1, hcz75_2, hcz75_3, hcz75_4, hcz75_5, hfz75_0, hfz75_1, hfz75_2, hfz75_3, hfz75_4, hfz75_5⟩ := bk6 BK326.out
              go_wp2_with (first | ((with_reducible refine gate_callee (f := 53) rfl ?_); refine goesL_ (some 60) rfl rfl Try.func53 (by kernel_rfl) rfl #[.agg #[.int .i64 ((rd_T49 l0 x4_1).f0), .int .i64 ((rd_T49 l0 x4_1).f1), .int .i64 ((rd_T49 l0 x4_1).f2), .int .i64 ((rd_T49 l0 x4_1).f3), .int .i64 ((rd_T49 l0 x4_1).f4), .int .i64 ((rd_T49 l0 x4_1).f5)]] rfl ags ?_; (with_reducible refine (larchref17_leaf.calls ((rd_T49 l0 x4_1).f0) ((rd_T49 l0 x4_1).f1) ((rd_T49 l0 x4_1).f2) ((rd_T49 l0 x4_1).f3) ((rd_T49 l0 x4_1).f4) ((rd_T49 l0 x4_1).f5) false _ A35.out).mono ?_); rintro e w76 ⟨rfl, hb⟩; refine ⟨_, rfl, ?_⟩; have n0_ := Aside0.mk (Kd.R_below (skR HO_3.out) hb); have n1_ := Aside0.mk (blk_below (g := gb326) (o := .cells #[.int .i64 ((rd_T49 l0 x4_1).f0), .int .i64 ((rd_T49 l0 x4_1).f1), .int .i64 ((rd_T49 l0 x4_1).f2), .int .i64 ((rd_T49 l0 x4_1).f3), .int .i64 ((rd_T49 l0 x4_1).f4), .int .i64 ((rd_T49 l0 x4_1).f5)] 49 (0, 0)) (skK BK326.out) hb); have n2_ := Aside0.mk (below_step (by repeat (first | (with_reducible first | exact HB.out | apply below_alloc | apply pw_below_drewN | apply below_drew1 | refine below_set ?_ GE326.out) | exact HB.out)) hb); clear HO_3; clear BK326; clear HB; have HO_3 := n0_; have BK326 := n1_; have HB := n2_; clear n0_ n1_ n2_; (try clear hb); (try clear hb2); (try clear hk); (try clear hi); obtain ⟨hcz77_0, hcz77_1, hcz77_2, hcz77_3, hcz77_4, hcz77_5, hfz77_0, hfz77_1, hfz77_2, hfz77_3, hfz77_4, hfz77_5⟩ := bk6 BK326.out))
              go_ret
              exact ⟨re, by repeat (first | (with_reducible first | exact HB.out | apply below_alloc | apply pw_below_drewN | apply below_drew1 | refine below_set ?_ GE326.out) | exact HB.out)⟩
        ·
         rw [if_neg c9] at H
         exact absurd H (by simp)
       ·
        rw [if_neg c8] at H
        have c8b0 : decide (x4_1 < (l0.length : Int)) = false := decide_eq_false c8
        clear c8
        have H' := Aside0.mk H
        clear H
        go_wp2
        go_loopg [6] k1 (fun kq v6 w' => ∃ (x6_2 : Int), v6 = .int .i64 x6_2 ∧ Aside0 (larchref17_Check.l1 kq l0 x3_1 x6_2 = some r) ∧ Aside0 (kq ≤ k1) ∧ Aside0 (Kd.R (Kd.int .i64) 3 w' w.heap.size (fun _ => True) v323 x3_1) ∧ Aside0 (Below w.heap.size w w'))
        case atStart => exact ⟨(1), rs, H', ⟨Nat.le_refl _⟩, ⟨skR HO_3.out⟩, ⟨skB HB.out⟩⟩
        case round =>
         clear H'
         try clear c1
         try clear c2
         try clear c2b0
         try clear c2b1
         try clear p2
         try clear c3
         try clear c3b0
         try clear c3b1
         try clear c3b2
         try clear p3
         try clear q3
         try clear hx3
         try clear c4
         try clear c4b0
         try clear c4b1
         try clear c5
         try clear c5b0
         try clear c5b1
         try clear c6
         try clear p6
         try clear q6
         try clear hx6
         try clear hf6
         try clear c8
         try clear c8b0
         try clear c9
         try clear c9b0
         try clear c13
         try clear c13b0
         try clear c13b1
         try clear c14
         try clear c14b0
         try clear c14b1
         try clear c15
         try clear c15b0
         try clear c15b1
         try clear c16
         try clear c16b0
         try clear c16b1
         try clear c17
         try clear c17b0
         try clear c22
         try clear c22b0
         try clear c25
         try clear c25b0
         try clear c25b1
         try clear c26
         try clear c26b0
         try clear c26b1
         try clear c27
         try clear c27b0
         try clear c27b1
         try clear c28
         try clear c28b0
         try clear p32
         try clear q32
         try clear hx32
         try clear p33
         try clear q33
         try clear hx33
         try clear c34
         try clear c36
         try clear c39
         try clear c39b0
         try clear c39b1
         try clear c40
         try clear c40b0
         try clear c44
         try clear c44b0
         try clear c48
         try clear c48b0
         try clear c52
         try clear c52b0
         try clear c53
         try clear c56
         try clear c56b0
         try clear c56b1
         try clear c60
         try clear c60b0
         try clear c61
         try clear c61b0
         try clear p62
         try clear q62
         try clear hx62
         try clear hf62
         try clear c63
         try clear c63b0
         try clear c64
         try clear c64b0
         try clear p64
         try clear p65
         try clear q65
         try clear hx65
         try clear hf65
         try clear hcz12_0
         try clear hcz12_1
         try clear hcz12_2
         try clear hcz12_3
         try clear hcz12_4
         try clear hcz12_5
         try clear hcz18_0
         try clear hcz18_1
         try clear hcz18_2
         try clear hcz18_3
         try clear hcz18_4
         try clear hcz18_5
         try clear hcz19_0
         try clear hcz19_1
         try clear hcz19_2
         try clear hcz19_3
         try clear hcz19_4
         try clear hcz19_5
         try clear hcz20_0
         try clear hcz20_1
         try clear hcz20_2
         try clear hcz20_3
         try clear hcz20_4
         try clear hcz20_5
         try clear hcz21_0
         try clear hcz21_1
         try clear hcz21_2
         try clear hcz21_3
         try clear hcz21_4
         try clear hcz21_5
         try clear hcz23_0
         try clear hcz23_1
         try clear hcz23_2
         try clear hcz23_3
         try clear hcz23_4
         try clear hcz23_5
         try clear hcz24_0
         try clear hcz24_1
         try clear hcz24_2
         try clear hcz24_3
         try clear hcz24_4
         try clear hcz24_5
         try clear hcz29_0
         try clear hcz29_1
         try clear hcz29_2
         try clear hcz29_3
         try clear hcz29_4
         try clear hcz29_5
         try clear hcz30_0
         try clear hcz30_1
         try clear hcz30_2
         try clear hcz30_3
         try clear hcz30_4
         try clear hcz30_5
         try clear hcz31_0
         try clear hcz31_1
         try clear hcz31_2
         try clear hcz31_3
         try clear hcz31_4
         try clear hcz31_5
         try clear hcz32_0
         try clear hcz32_1
         try clear hcz32_2
         try clear hcz32_3
         try clear hcz32_4
         try clear hcz32_5
         try clear hcz33_0
         try clear hcz33_1
         try clear hcz33_2
         try clear hcz33_3
         try clear hcz33_4
         try clear hcz33_5
         try clear hcz37_0
         try clear hcz37_1
         try clear hcz37_2
         try clear hcz37_3
         try clear hcz37_4
         try clear hcz37_5
         try clear hcz41_0
         try clear hcz41_1
         try clear hcz41_2
         try clear hcz41_3
         try clear hcz41_4
         try clear hcz41_5
         try clear hcz43_0
         try clear hcz43_1
         try clear hcz43_2
         try clear hcz43_3
         try clear hcz43_4
         try clear hcz43_5
         try clear hcz45_0
         try clear hcz45_1
         try clear hcz45_2
         try clear hcz45_3
         try clear hcz45_4
         try clear hcz45_5
         try clear hcz47_0
         try clear hcz47_1
         try clear hcz47_2
         try clear hcz47_3
         try clear hcz47_4
         try clear hcz47_5
         try clear hcz49_0
         try clear hcz49_1
         try clear hcz49_2
         try clear hcz49_3
         try clear hcz49_4
         try clear hcz49_5
         try clear hcz51_0
         try clear hcz51_1
         try clear hcz51_2
         try clear hcz51_3
         try clear hcz51_4
         try clear hcz51_5
         try clear hcz53_0
         try clear hcz53_1
         try clear hcz53_2
         try clear hcz53_3
         try clear hcz53_4
         try clear hcz53_5
         try clear hcz55_0
         try clear hcz55_1
         try clear hcz55_2
         try clear hcz55_3
         try clear hcz55_4
         try clear hcz55_5
         try clear hcz57_0
         try clear hcz57_1
         try clear hcz57_2
         try clear hcz57_3
         try clear hcz57_4
         try clear hcz57_5
         try clear hcz59_0
         try clear hcz59_1
         try clear hcz59_2
         try clear hcz59_3
         try clear hcz59_4
         try clear hcz59_5
         try clear hcz66_0
         try clear hcz66_1
         try clear hcz66_2
         try clear hcz66_3
         try clear hcz66_4
         try clear hcz66_5
         try clear hcz68_0
         try clear hcz68_1
         try clear hcz68_2
         try clear hcz68_3
         try clear hcz68_4
         try clear hcz68_5
         try clear hcz72_0
         try clear hcz72_1
         try clear hcz72_2
         try clear hcz72_3
         try clear hcz72_4
         try clear hcz72_5
         try clear hcz75_0
         try clear hcz75_1
         try clear hcz75_2
         try clear hcz75_3
         try clear hcz75_4
         try clear hcz75_5
         try clear hcz77_0
         try clear hcz77_1
         try clear hcz77_2
         try clear hcz77_3
         try clear hcz77_4
         try clear hcz77_5
         try clear hfz12_0
         try clear hfz12_1
         try clear hfz12_2
         try clear hfz12_3
         try clear hfz12_4
         try clear hfz12_5
         try clear hfz18_0
         try clear hfz18_1
         try clear hfz18_2
         try clear hfz18_3
         try clear hfz18_4
         try clear hfz18_5
         try clear hfz19_0
         try clear hfz19_1
         try clear hfz19_2
         try clear hfz19_3
         try clear hfz19_4
         try clear hfz19_5
         try clear hfz20_0
         try clear hfz20_1
         try clear hfz20_2
         try clear hfz20_3
         try clear hfz20_4
         try clear hfz20_5
         try clear hfz21_0
         try clear hfz21_1
         try clear hfz21_2
         try clear hfz21_3
         try clear hfz21_4
         try clear hfz21_5
         try clear hfz23_0
         try clear hfz23_1
         try clear hfz23_2
         try clear hfz23_3
         try clear hfz23_4
         try clear hfz23_5
         try clear hfz24_0
         try clear hfz24_1
         try clear hfz24_2
         try clear hfz24_3
         try clear hfz24_4
         try clear hfz24_5
         try clear hfz29_0
         try clear hfz29_1
         try clear hfz29_2
         try clear hfz29_3
         try clear hfz29_4
         try clear hfz29_5
         try clear hfz30_0
         try clear hfz30_1
         try clear hfz30_2
         try clear hfz30_3
         try clear hfz30_4
         try clear hfz30_5
         try clear hfz31_0
         try clear hfz31_1
         try clear hfz31_2
         try clear hfz31_3
         try clear hfz31_4
         try clear hfz31_5
         try clear hfz32_0
         try clear hfz32_1
         try clear hfz32_2
         try clear hfz32_3
         try clear hfz32_4
         try clear hfz32_5
         try clear hfz33_0
         try clear hfz33_1
         try clear hfz33_2
         try clear hfz33_3
         try clear hfz33_4
         try clear hfz33_5
         try clear hfz37_0
         try clear hfz37_1
         try clear hfz37_2
         try clear hfz37_3
         try clear hfz37_4
         try clear hfz37_5
         try clear hfz41_0
         try clear hfz41_1
         try clear hfz41_2
         try clear hfz41_3
         try clear hfz41_4
         try clear hfz41_5
         try clear hfz43_0
         try clear hfz43_1
         try clear hfz43_2
         try clear hfz43_3
         try clear hfz43_4
         try clear hfz43_5
         try clear hfz45_0
         try clear hfz45_1
         try clear hfz45_2
         try clear hfz45_3
         try clear hfz45_4
         try clear hfz45_5
         try clear hfz47_0
         try clear hfz47_1
         try clear hfz47_2
         try clear hfz47_3
         try clear hfz47_4
         try clear hfz47_5
         try clear hfz49_0
         try clear hfz49_1
         try clear hfz49_2
         try clear hfz49_3
         try clear hfz49_4
         try clear hfz49_5
         try clear hfz51_0
         try clear hfz51_1
         try clear hfz51_2
         try clear hfz51_3
         try clear hfz51_4
         try clear hfz51_5
         try clear hfz53_0
         try clear hfz53_1
         try clear hfz53_2
         try clear hfz53_3
         try clear hfz53_4
         try clear hfz53_5
         try clear hfz55_0
         try clear hfz55_1
         try clear hfz55_2
         try clear hfz55_3
         try clear hfz55_4
         try clear hfz55_5
         try clear hfz57_0
         try clear hfz57_1
         try clear hfz57_2
         try clear hfz57_3
         try clear hfz57_4
         try clear hfz57_5
         try clear hfz59_0
         try clear hfz59_1
         try clear hfz59_2
         try clear hfz59_3
         try clear hfz59_4
         try clear hfz59_5
         try clear hfz66_0
         try clear hfz66_1
         try clear hfz66_2
         try clear hfz66_3
         try clear hfz66_4
         try clear hfz66_5
         try clear hfz68_0
         try clear hfz68_1
         try clear hfz68_2
         try clear hfz68_3
         try clear hfz68_4
         try clear hfz68_5
         try clear hfz72_0
         try clear hfz72_1
         try clear hfz72_2
         try clear hfz72_3
         try clear hfz72_4
         try clear hfz72_5
         try clear hfz75_0
         try clear hfz75_1
         try clear hfz75_2
         try clear hfz75_3
         try clear hfz75_4
         try clear hfz75_5
         try clear hfz77_0
         try clear hfz77_1
         try clear hfz77_2
         try clear hfz77_3
         try clear hfz77_4
         try clear hfz77_5
         try clear hx325_0
         try clear hx325_1
         try clear hx325_2
         try clear hx325_3
         try clear hx325_4
         try clear hx325_5
         try clear hx328_0
         try clear hx330_0
         try clear hx62_0
         try clear hx65_0
         try clear p2
         try clear p3
         try clear p32
         try clear p325
         try clear p328
         try clear p330
         try clear p62
         try clear p65
         try clear q3
         try clear q32
         try clear q325
         try clear q328
         try clear q330
         try clear q62
         try clear q65
         obtain ⟨x6_2, rfl, HA, HK2, HO_3, HB⟩ := hrel
         cases gk with
         | zero => exact absurd HA.out (by simp [larchref17_Check.l1])
         | succ k2 =>
          have H := HA.out
          clear HA
          simp only [larchref17_Check.l1] at H
          by_cases c78 : x6_2 < (l0.length : Int)
          ·
           rw [if_pos c78] at H
           have c78b0 : decide (x6_2 < (l0.length : Int)) = true := decide_eq_true c78
           clear c78
           by_cases c79 : 0 ≤ x6_2
           ·
            rw [if_pos c79] at H
            have c79b0 : decide (0 ≤ x6_2) = true := decide_eq_true c79
            clear c79
            by_cases c80 : x6_2 < (x3_1.length : Int)
            ·
             rw [if_pos c80] at H
             have c80b0 : decide (x6_2 < (x3_1.length : Int)) = true := decide_eq_true c80
             clear c80
             by_cases c81 : (rd x3_1 x6_2) = 1
             ·
              rw [if_pos c81] at H
              have c81b0 : ((rd x3_1 x6_2) == 1) = true := beq_iff_eq.mpr c81
              have c81b1 : ((rd x3_1 x6_2) != 1) = false := bne_eq_false_iff_eq.mpr c81
              clear c81
              have H' := Aside0.mk H
              clear H
              obtain ⟨Ao82, co82, eo82⟩ := Kd.R_slice HO_3.out
              subst eo82
              have p332 : 0 ≤ (x6_2 : Int) := dt
              have q332 : x6_2 < (x3_1.length : Int) := dt
              obtain ⟨ad332, e332, hx332_0⟩ := Kd.at_int (Kd.R_reads' HO_3.out).2.2 x6_2 p332 q332
              cases e332
              replace p332 := eq_true p332
              replace q332 := eq_true q332
              go_wp2
              go_roundg k2
              case measure => have := HK1.out; have := HK2.out; omega
              case rel => exact ⟨(wrap64 (x6_2 + 1)), rs, H', ⟨by have := HK1.out; have := HK2.out; omega⟩, ⟨skR HO_3.out⟩, ⟨skB HB.out⟩⟩
             ·
              rw [if_neg c81] at H
              have c81b0 : ((rd x3_1 x6_2) == 1) = false := beq_eq_false_iff_ne.mpr c81
              have c81b1 : ((rd x3_1 x6_2) != 1) = true := bne_iff_ne.mpr c81
              obtain rfl := Option.some.inj H
              obtain ⟨Ao83, co83, eo83⟩ := Kd.R_slice HO_3.out
              subst eo83
              have p332 : 0 ≤ (x6_2 : Int) := dt
              have q332 : x6_2 < (x3_1.length : Int) := dt
              obtain ⟨ad332, e332, hx332_0⟩ := Kd.at_int (Kd.R_reads' HO_3.out).2.2 x6_2 p332 q332
              cases e332
              replace p332 := eq_true p332
              replace q332 := eq_true q332
              go_wp2
              go_ret
              exact ⟨re, skB HB.out⟩
            ·
             rw [if_neg c80] at H
             exact absurd H (by simp)
           ·
            rw [if_neg c79] at H
            exact absurd H (by simp)
          ·
           rw [if_neg c78] at H
           have c78b0 : decide (x6_2 < (l0.length : Int)) = false := decide_eq_false c78
           clear c78
           by_cases c84 : 0 < (x3_1.length : Int)
           ·
            rw [if_pos c84] at H
            have c84b0 : decide (0 < (x3_1.length : Int)) = true := decide_eq_true c84
            have c84b1 : decide (0 < x3_1.length) = true := decide_eq_true (by omega)
            clear c84
            by_cases c85 : (rd x3_1 0) = 0
            ·
             rw [if_pos c85] at H
             have c85b0 : ((rd x3_1 0) == 0) = true := beq_iff_eq.mpr c85
             have c85b1 : ((rd x3_1 0) != 0) = false := bne_eq_false_iff_eq.mpr c85
             clear c85
             replace H := Option.bind_eq_some_iff.mp H
             obtain ⟨t334, A860, H⟩ := H
             replace H : (if (t334.length : Int) = (l0.length : Int) then (some 0) else (some 3)) = some r := H
             have A86 := Aside0.mk A860
             clear A860
             by_cases c87 : (t334.length : Int) = (l0.length : Int)
             ·
              rw [if_pos c87] at H
              have c87b0 : ((t334.length : Int) == (l0.length : Int)) = true := beq_iff_eq.mpr c87
              have c87b1 : ((t334.length : Int) != (l0.length : Int)) = false := bne_eq_false_iff_eq.mpr c87
              have c87b2 : (t334.length == l0.length) = true := by first | simpa using c87 | (simp at c87 ⊢; omega)
              clear c87
              obtain rfl := Option.some.inj H
              obtain ⟨Ao88, co88, eo88⟩ := Kd.R_slice HO_3.out
              subst eo88
              have p333 : 0 ≤ (0 : Int) := (by omega)
              have q333 : 0 < (x3_1.length : Int) := dt
              obtain ⟨ad333, e333, hx333_0⟩ := Kd.at_int (Kd.R_reads' HO_3.out).2.2 0 p333 q333
              cases e333
              have qi333 : (0 < x3_1.length) = True := eq_true (by omega)
              (try rw [show ((0 : Int)).toNat = 0 from rfl] at hx333_0)
              (try rw [Addr.add_zero'] at hx333_0)
              replace p333 := eq_true p333
              replace q333 := eq_true q333
              go_wp2_with (first | (go_at_call 27; (with_reducible refine (larchref17_Order.calls k2 _ _ l0 0 t334 _ ?side1 ?side2 A86.out).mono ?_); (case side1 => exact skC (Kd.C_below HR0.out HB.out)); (case side2 => exact HC0.out); rintro e w89 ⟨v335, rfl, ho0, hb⟩; have n0_ := Aside0.mk (Kd.R_elder' (skR HO_3.out) (Kd.R_base ho0) hb); have n1_ := Aside0.mk (Kd.R_lower (Kd.R_new' ho0 (Kd.R_lt (skR HO_3.out))) (below_size (skB HB.out))); have n2_ := Aside0.mk (below_step (skB HB.out) hb); clear HO_3; clear HB; have HO_3 := n0_; have HO336 := n1_; have HB := n2_; clear n0_ n1_ n2_; (try clear hb); (try clear hb2); (try clear hk); (try clear hi); (try clear ho0); obtain ⟨Ao90, co90, eo90⟩ := Kd.R_slice HO336.out; subst eo90))
              go_ret
              exact ⟨re, skB HB.out⟩
             ·
              rw [if_neg c87] at H
              have c87b0 : ((t334.length : Int) == (l0.length : Int)) = false := beq_eq_false_iff_ne.mpr c87
              have c87b1 : ((t334.length : Int) != (l0.length : Int)) = true := bne_iff_ne.mpr c87
              have c87b2 : (t334.length == l0.length) = false := by first | simpa using c87 | (simp at c87 ⊢; omega)
              obtain rfl := Option.some.inj H
              obtain ⟨Ao91, co91, eo91⟩ := Kd.R_slice HO_3.out
              subst eo91
              have p333 : 0 ≤ (0 : Int) := (by omega)
              have q333 : 0 < (x3_1.length : Int) := dt
              obtain ⟨ad333, e333, hx333_0⟩ := Kd.at_int (Kd.R_reads' HO_3.out).2.2 0 p333 q333
              cases e333
              have qi333 : (0 < x3_1.length) = True := eq_true (by omega)
              (try rw [show ((0 : Int)).toNat = 0 from rfl] at hx333_0)
              (try rw [Addr.add_zero'] at hx333_0)
              replace p333 := eq_true p333
              replace q333 := eq_true q333
              go_wp2_with (first | (go_at_call 27; (with_reducible refine (larchref17_Order.calls k2 _ _ l0 0 t334 _ ?side1 ?side2 A86.out).mono ?_); (case side1 => exact skC (Kd.C_below HR0.out HB.out)); (case side2 => exact HC0.out); rintro e w92 ⟨v335, rfl, ho0, hb⟩; have n0_ := Aside0.mk (Kd.R_elder' (skR HO_3.out) (Kd.R_base ho0) hb); have n1_ := Aside0.mk (Kd.R_lower (Kd.R_new' ho0 (Kd.R_lt (skR HO_3.out))) (below_size (skB HB.out))); have n2_ := Aside0.mk (below_step (skB HB.out) hb); clear HO_3; clear HB; have HO_3 := n0_; have HO336 := n1_; have HB := n2_; clear n0_ n1_ n2_; (try clear hb); (try clear hb2); (try clear hk); (try clear hi); (try clear ho0); obtain ⟨Ao93, co93, eo93⟩ := Kd.R_slice HO336.out; subst eo93))
              go_ret
              exact ⟨re, skB HB.out⟩
            ·
             rw [if_neg c85] at H
             have c85b0 : ((rd x3_1 0) == 0) = false := beq_eq_false_iff_ne.mpr c85
             have c85b1 : ((rd x3_1 0) != 0) = true := bne_iff_ne.mpr c85
             obtain rfl := Option.some.inj H
             obtain ⟨Ao94, co94, eo94⟩ := Kd.R_slice HO_3.out
             subst eo94
             have p333 : 0 ≤ (0 : Int) := (by omega)
             have q333 : 0 < (x3_1.length : Int) := dt
             obtain ⟨ad333, e333, hx333_0⟩ := Kd.at_int (Kd.R_reads' HO_3.out).2.2 0 p333 q333
             cases e333
             have qi333 : (0 < x3_1.length) = True := eq_true (by omega)
             (try rw [show ((0 : Int)).toNat = 0 from rfl] at hx333_0)
             (try rw [Addr.add_zero'] at hx333_0)
             replace p333 := eq_true p333
             replace q333 := eq_true q333
             go_wp2
             go_ret
             exact ⟨re, skB HB.out⟩
           ·
            rw [if_neg c84] at H
            exact absurd H (by simp)
    ·
     rw [if_neg c5] at H
     exact absurd H (by simp)
   ·
    rw [if_neg c4] at H
    exact absurd H (by simp)
end Go.Proofs.Ytmmjkebboonnkaa.P
/- F30 -/
namespace Go.Proofs.Ytmmjkebboonnkaa.P
open Go.RowKit Go.Proofs.YtmmjkebboonnkaaW.PrintWords Go.Proofs.YtmmjkebboonnkaaW.PrintLast Go.Proofs.YtmmjkebboonnkaaW.PrintMore
attribute [local go_sem] max2_int min2_int max_two min_two max_three min_three max_four min_four   -- for this text's walks alone
set_option linter.unusedVariables false
set_option linter.unusedSimpArgs false
def larchref17_sentinel.f (a0_0 : Int) (a0_1 : Int) (a0_2 : Int) (a0_3 : Int) (a0_4 : Int) (a0_5 : Int) : Option (Bool) := (larchref17_leaf.f a0_0 a0_1 a0_2 a0_3 a0_4 a0_5).bind fun t304 => (if t304 = true then (if a0_1 = 1 then (some (a0_2 == 1)) else (some false)) else (some false))
set_option maxHeartbeats 8000000 in
set_option maxRecDepth 100000 in
theorem larchref17_sentinel.calls (a0_0 : Int) (a0_1 : Int) (a0_2 : Int) (a0_3 : Int) (a0_4 : Int) (a0_5 : Int) (r : Bool) (w : World) (h : larchref17_sentinel.f a0_0 a0_1 a0_2 a0_3 a0_4 a0_5 = some r) :
  Calls Try.prog 54 #[.agg #[.int .i64 a0_0, .int .i64 a0_1, .int .i64 a0_2, .int .i64 a0_3, .int .i64 a0_4, .int .i64 a0_5]] w fun e w' => e = .returned (.bool r) ∧ Below w.heap.size w w' := by
 have hu49 := Try.underlying49
 have HB := Aside0.mk (Below.refl w.heap.size w)
 have H : ((larchref17_leaf.f a0_0 a0_1 a0_2 a0_3 a0_4 a0_5).bind fun t304 => (if t304 = true then (if a0_1 = 1 then (some (a0_2 == 1)) else (some false)) else (some false))) = some r := h
 clear h
 replace H := Option.bind_eq_some_iff.mp H
 obtain ⟨t304, A20, H⟩ := H
 replace H : (if t304 = true then (if a0_1 = 1 then (some (a0_2 == 1)) else (some false)) else (some false)) = some r := H
 have A2 := Aside0.mk A20
 clear A20
 by_cases c3 : t304 = true
 ·
  subst c3
  have H1 : (if a0_1 = 1 then (some (a0_2 == 1)) else (some false)) = some r := by rw [if_pos rfl] at H; exact H
  clear H
  have H := H1
  clear H1
  by_cases c4 : a0_1 = 1
  ·
   rw [if_pos c4] at H
   have c4b0 : (a0_1 == 1) = true := beq_iff_eq.mpr c4
   have c4b1 : (a0_1 != 1) = false := bne_eq_false_iff_eq.mpr c4
   clear c4
   obtain rfl := Option.some.inj H
   go_enter Try.func54, Try.ntmps54
   go_wp2_with (first | ((with_reducible refine gate_dst (N := 1) rfl ?_); refine box_event ?hg (N := 1) ?hd (cs := #[.int .i64 a0_0, .int .i64 a0_1, .int .i64 a0_2, .int .i64 a0_3, .int .i64 a0_4, .int .i64 a0_5]) (t := 49) ?hr ?_; (case hd => rfl); (case hg => rfl); (case hr => first | (go_simp; done) | (go_simp; rfl)); intro gb303 hg w5 hbox hb; have n0_ := Aside0.mk (below_step (skB HB.out) hb); have n1_ := Aside0.mk (hbox); have n2_ := Aside0.mk ((by rw [hg]; exact (below_size (skB HB.out)) : w.heap.size ≤ gb303)); have n3_ := Aside0.mk ((by rw [hg]; exact (below_size (skB HB.out)) : w.heap.size ≤ gb303)); clear HB; have HB := n0_; have BK303 := n1_; have GW303 := n2_; have GE303 := n3_; clear n0_ n1_ n2_ n3_; clear hb hbox hg; obtain ⟨hcz6_0, hcz6_1, hcz6_2, hcz6_3, hcz6_4, hcz6_5, hfz6_0, hfz6_1, hfz6_2, hfz6_3, hfz6_4, hfz6_5⟩ := bk6 BK303.out) | ((with_reducible refine gate_callee (f := 53) rfl ?_); refine goesL_ (some 4) rfl rfl Try.func53 (by kernel_rfl) rfl #[.agg #[.int .i64 a0_0, .int .i64 a0_1, .int .i64 a0_2, .int .i64 a0_3, .int .i64 a0_4, .int .i64 a0_5]] rfl ags ?_; (with_reducible refine (larchref17_leaf.calls a0_0 a0_1 a0_2 a0_3 a0_4 a0_5 true _ A2.out).mono ?_); rintro e w7 ⟨rfl, hb⟩; refine ⟨_, rfl, ?_⟩; have n0_ := Aside0.mk (blk_below (g := gb303) (o := .cells #[.int .i64 a0_0, .int .i64 a0_1, .int .i64 a0_2, .int .i64 a0_3, .int .i64 a0_4, .int .i64 a0_5] 49 (0, 0)) (skK BK303.out) hb); have n1_ := Aside0.mk (below_step (by repeat (first | (with_reducible first | exact HB.out | apply below_alloc | apply pw_below_drewN | apply below_drew1 | refine below_set ?_ GE303.out) | exact HB.out)) hb); clear BK303; clear HB; have BK303 := n0_; have HB := n1_; clear n0_ n1_; (try clear hb); (try clear hb2); (try clear hk); (try clear hi); obtain ⟨hcz8_0, hcz8_1, hcz8_2, hcz8_3, hcz8_4, hcz8_5, hfz8_0, hfz8_1, hfz8_2, hfz8_3, hfz8_4, hfz8_5⟩ := bk6 BK303.out))
   go_ret
   exact ⟨re, by repeat (first | (with_reducible first | exact HB.out | apply below_alloc | apply pw_below_drewN | apply below_drew1 | refine below_set ?_ GE303.out) | exact HB.out)⟩
  ·
   rw [if_neg c4] at H
   have c4b0 : (a0_1 == 1) = false := beq_eq_false_iff_ne.mpr c4
   have c4b1 : (a0_1 != 1) = true := bne_iff_ne.mpr c4
   obtain rfl := Option.some.inj H
   go_enter Try.func54, Try.ntmps54
   go_wp2_with (first | ((with_reducible refine gate_dst (N := 1) rfl ?_); refine box_event ?hg (N := 1) ?hd (cs := #[.int .i64 a0_0, .int .i64 a0_1, .int .i64 a0_2, .int .i64 a0_3, .int .i64 a0_4, .int .i64 a0_5]) (t := 49) ?hr ?_; (case hd => rfl); (case hg => rfl); (case hr => first | (go_simp; done) | (go_simp; rfl)); intro gb303 hg w9 hbox hb; have n0_ := Aside0.mk (below_step (skB HB.out) hb); have n1_ := Aside0.mk (hbox); have n2_ := Aside0.mk ((by rw [hg]; exact (below_size (skB HB.out)) : w.heap.size ≤ gb303)); have n3_ := Aside0.mk ((by rw [hg]; exact (below_size (skB HB.out)) : w.heap.size ≤ gb303)); clear HB; have HB := n0_; have BK303 := n1_; have GW303 := n2_; have GE303 := n3_; clear n0_ n1_ n2_ n3_; clear hb hbox hg; obtain ⟨hcz10_0, hcz10_1, hcz10_2, hcz10_3, hcz10_4, hcz10_5, hfz10_0, hfz10_1, hfz10_2, hfz10_3, hfz10_4, hfz10_5⟩ := bk6 BK303.out) | ((with_reducible refine gate_callee (f := 53) rfl ?_); refine goesL_ (some 4) rfl rfl Try.func53 (by kernel_rfl) rfl #[.agg #[.int .i64 a0_0, .int .i64 a0_1, .int .i64 a0_2, .int .i64 a0_3, .int .i64 a0_4, .int .i64 a0_5]] rfl ags ?_; (with_reducible refine (larchref17_leaf.calls a0_0 a0_1 a0_2 a0_3 a0_4 a0_5 true _ A2.out).mono ?_); rintro e w11 ⟨rfl, hb⟩; refine ⟨_, rfl, ?_⟩; have n0_ := Aside0.mk (blk_below (g := gb303) (o := .cells #[.int .i64 a0_0, .int .i64 a0_1, .int .i64 a0_2, .int .i64 a0_3, .int .i64 a0_4, .int .i64 a0_5] 49 (0, 0)) (skK BK303.out) hb); have n1_ := Aside0.mk (below_step (by repeat (first | (with_reducible first | exact HB.out | apply below_alloc | apply pw_below_drewN | apply below_drew1 | refine below_set ?_ GE303.out) | exact HB.out)) hb); clear BK303; clear HB; have BK303 := n0_; have HB := n1_; clear n0_ n1_; (try clear hb); (try clear hb2); (try clear hk); (try clear hi); obtain ⟨hcz12_0, hcz12_1, hcz12_2, hcz12_3, hcz12_4, hcz12_5, hfz12_0, hfz12_1, hfz12_2, hfz12_3, hfz12_4, hfz12_5⟩ := bk6 BK303.out))
   go_ret
   exact ⟨re, by repeat (first | (with_reducible first | exact HB.out | apply below_alloc | apply pw_below_drewN | apply below_drew1 | refine below_set ?_ GE303.out) | exact HB.out)⟩
 ·
  replace c3 := Bool.eq_false_iff.mpr c3
  subst c3
  have H1 : (some false) = some r := by rw [if_neg (show ¬ (false = true) by decide)] at H; exact H
  clear H
  have H := H1
  clear H1
  obtain rfl := Option.some.inj H
  go_enter Try.func54, Try.ntmps54
  go_wp2_with (first | ((with_reducible refine gate_dst (N := 1) rfl ?_); refine box_event ?hg (N := 1) ?hd (cs := #[.int .i64 a0_0, .int .i64 a0_1, .int .i64 a0_2, .int .i64 a0_3, .int .i64 a0_4, .int .i64 a0_5]) (t := 49) ?hr ?_; (case hd => rfl); (case hg => rfl); (case hr => first | (go_simp; done) | (go_simp; rfl)); intro gb303 hg w13 hbox hb; have n0_ := Aside0.mk (below_step (skB HB.out) hb); have n1_ := Aside0.mk (hbox); have n2_ := Aside0.mk ((by rw [hg]; exact (below_size (skB HB.out)) : w.heap.size ≤ gb303)); have n3_ := Aside0.mk ((by rw [hg]; exact (below_size (skB HB.out)) : w.heap.size ≤ gb303)); clear HB; have HB := n0_; have BK303 := n1_; have GW303 := n2_; have GE303 := n3_; clear n0_ n1_ n2_ n3_; clear hb hbox hg; obtain ⟨hcz14_0, hcz14_1, hcz14_2, hcz14_3, hcz14_4, hcz14_5, hfz14_0, hfz14_1, hfz14_2, hfz14_3, hfz14_4, hfz14_5⟩ := bk6 BK303.out) | ((with_reducible refine gate_callee (f := 53) rfl ?_); refine goesL_ (some 4) rfl rfl Try.func53 (by kernel_rfl) rfl #[.agg #[.int .i64 a0_0, .int .i64 a0_1, .int .i64 a0_2, .int .i64 a0_3, .int .i64 a0_4, .int .i64 a0_5]] rfl ags ?_; (with_reducible refine (larchref17_leaf.calls a0_0 a0_1 a0_2 a0_3 a0_4 a0_5 false _ A2.out).mono ?_); rintro e w15 ⟨rfl, hb⟩; refine ⟨_, rfl, ?_⟩; have n0_ := Aside0.mk (blk_below (g := gb303) (o := .cells #[.int .i64 a0_0, .int .i64 a0_1, .int .i64 a0_2, .int .i64 a0_3, .int .i64 a0_4, .int .i64 a0_5] 49 (0, 0)) (skK BK303.out) hb); have n1_ := Aside0.mk (below_step (by repeat (first | (with_reducible first | exact HB.out | apply below_alloc | apply pw_below_drewN | apply below_drew1 | refine below_set ?_ GE303.out) | exact HB.out)) hb); clear BK303; clear HB; have BK303 := n0_; have HB := n1_; clear n0_ n1_; (try clear hb); (try clear hb2); (try clear hk); (try clear hi)))
  go_ret
  exact ⟨re, by repeat (first | (with_reducible first | exact HB.out | apply below_alloc | apply pw_below_drewN | apply below_drew1 | refine below_set ?_ GE303.out) | exact HB.out)⟩
end Go.Proofs.Ytmmjkebboonnkaa.P
/- F31 -/
namespace Go.Proofs.Ytmmjkebboonnkaa.P
open Go.RowKit Go.Proofs.YtmmjkebboonnkaaW.PrintWords Go.Proofs.YtmmjkebboonnkaaW.PrintLast Go.Proofs.YtmmjkebboonnkaaW.PrintMore
attribute [local go_sem] max2_int min2_int max_two min_two max_three min_three max_four min_four   -- for this text's walks alone
set_option linter.unusedVariables false
set_option linter.unusedSimpArgs false
mutual
def larchref17_Root.j0 : Nat → List (S49) → Bool → Int → Int → Int → Int → Int → Int → Option (Int × Bool)
 | 0, _, _, _, _, _, _, _, _ => none
 | k + 1, x0, x31, x307000, x307001, x307002, x307003, x307004, x307005 => if x31 = true then (some ((-1), false)) else (if 0 ≤ x307004 then (if x307004 < (x0.length : Int) then ((larchref17_sentinel.f ((rd_T49 x0 x307004).f0) ((rd_T49 x0 x307004).f1) ((rd_T49 x0 x307004).f2) ((rd_T49 x0 x307004).f3) ((rd_T49 x0 x307004).f4) ((rd_T49 x0 x307004).f5)).bind fun t311 => (if t311 = true then (some ((-1), true)) else ((larchref17_leaf.f ((rd_T49 x0 x307004).f0) ((rd_T49 x0 x307004).f1) ((rd_T49 x0 x307004).f2) ((rd_T49 x0 x307004).f3) ((rd_T49 x0 x307004).f4) ((rd_T49 x0 x307004).f5)).bind fun t314 => (if t314 = true then (larchref17_Root.j1 k x0 true ((rd_T49 x0 x307004).f0) ((rd_T49 x0 x307004).f1) ((rd_T49 x0 x307004).f2) ((rd_T49 x0 x307004).f3) ((rd_T49 x0 x307004).f4) ((rd_T49 x0 x307004).f5)) else (if ((rd_T49 x0 x307004).f1) = 1 then (if ((rd_T49 x0 x307004).f2) = 1 then (if 0 ≤ ((rd_T49 x0 x307004).f5) then (if ((rd_T49 x0 x307004).f5) < (x0.length : Int) then ((larchref17_sentinel.f ((rd_T49 x0 ((rd_T49 x0 x307004).f5)).f0) ((rd_T49 x0 ((rd_T49 x0 x307004).f5)).f1) ((rd_T49 x0 ((rd_T49 x0 x307004).f5)).f2) ((rd_T49 x0 ((rd_T49 x0 x307004).f5)).f3) ((rd_T49 x0 ((rd_T49 x0 x307004).f5)).f4) ((rd_T49 x0 ((rd_T49 x0 x307004).f5)).f5)).bind fun t316 => (larchref17_Root.j1 k x0 (!t316) ((rd_T49 x0 x307004).f0) ((rd_T49 x0 x307004).f1) ((rd_T49 x0 x307004).f2) ((rd_T49 x0 x307004).f3) ((rd_T49 x0 x307004).f4) ((rd_T49 x0 x307004).f5))) else (none)) else (none)) else (larchref17_Root.j1 k x0 true ((rd_T49 x0 x307004).f0) ((rd_T49 x0 x307004).f1) ((rd_T49 x0 x307004).f2) ((rd_T49 x0 x307004).f3) ((rd_T49 x0 x307004).f4) ((rd_T49 x0 x307004).f5))) else (larchref17_Root.j1 k x0 true ((rd_T49 x0 x307004).f0) ((rd_T49 x0 x307004).f1) ((rd_T49 x0 x307004).f2) ((rd_T49 x0 x307004).f3) ((rd_T49 x0 x307004).f4) ((rd_T49 x0 x307004).f5))))))) else (none)) else (none))
def larchref17_Root.j1 : Nat → List (S49) → Bool → Int → Int → Int → Int → Int → Int → Option (Int × Bool)
 | 0, _, _, _, _, _, _, _, _ => none
 | k + 1, x0, x63, x314000, x314001, x314002, x314003, x314004, x314005 => if x63 = true then (some ((-1), false)) else ((larchref17_Order.f k x0 x314004).bind fun t317 => (larchref17_Root.l0 k x0 t317 0 x314000 x314001 x314002 x314003 x314004 x314005))
def larchref17_Root.l0 : Nat → List (S49) → List Int → Int → Int → Int → Int → Int → Int → Int → Option (Int × Bool)
 | 0, _, _, _, _, _, _, _, _, _ => none
 | k + 1, x0, x6, x7, x314000, x314001, x314002, x314003, x314004, x314005 => if x7 < (x6.length : Int) then (if 0 ≤ x7 then (if 0 ≤ (rd x6 x7) then (if (rd x6 x7) < (x0.length : Int) then (if ((rd_T49 x0 (rd x6 x7)).f1) = 0 then (larchref17_Root.l0 k x0 x6 (wrap64 (x7 + 1)) x314000 x314001 x314002 x314003 x314004 x314005) else (some ((-1), false))) else (none)) else (none)) else (none)) else (some (x314004, true))
end
def larchref17_Root.f (k : Nat) (l0 : List (S49)) : Option (Int × Bool) := if 0 < (l0.length : Int) then ((larchref17_leaf.f ((rd_T49 l0 0).f0) ((rd_T49 l0 0).f1) ((rd_T49 l0 0).f2) ((rd_T49 l0 0).f3) ((rd_T49 l0 0).f4) ((rd_T49 l0 0).f5)).bind fun t307 => (if t307 = true then (larchref17_Root.j0 k l0 true ((rd_T49 l0 0).f0) ((rd_T49 l0 0).f1) ((rd_T49 l0 0).f2) ((rd_T49 l0 0).f3) ((rd_T49 l0 0).f4) ((rd_T49 l0 0).f5)) else (if ((rd_T49 l0 0).f1) = 1 then (if ((rd_T49 l0 0).f2) = 1 then (if 0 ≤ ((rd_T49 l0 0).f5) then (if ((rd_T49 l0 0).f5) < (l0.length : Int) then ((larchref17_sentinel.f ((rd_T49 l0 ((rd_T49 l0 0).f5)).f0) ((rd_T49 l0 ((rd_T49 l0 0).f5)).f1) ((rd_T49 l0 ((rd_T49 l0 0).f5)).f2) ((rd_T49 l0 ((rd_T49 l0 0).f5)).f3) ((rd_T49 l0 ((rd_T49 l0 0).f5)).f4) ((rd_T49 l0 ((rd_T49 l0 0).f5)).f5)).bind fun t309 => (larchref17_Root.j0 k l0 (!t309) ((rd_T49 l0 0).f0) ((rd_T49 l0 0).f1) ((rd_T49 l0 0).f2) ((rd_T49 l0 0).f3) ((rd_T49 l0 0).f4) ((rd_T49 l0 0).f5))) else (none)) else (none)) else (larchref17_Root.j0 k l0 true ((rd_T49 l0 0).f0) ((rd_T49 l0 0).f1) ((rd_T49 l0 0).f2) ((rd_T49 l0 0).f3) ((rd_T49 l0 0).f4) ((rd_T49 l0 0).f5))) else (larchref17_Root.j0 k l0 true ((rd_T49 l0 0).f0) ((rd_T49 l0 0).f1) ((rd_T49 l0 0).f2) ((rd_T49 l0 0).f3) ((rd_T49 l0 0).f4) ((rd_T49 l0 0).f5))))) else (none)
set_option maxHeartbeats 8000000 in
set_option maxRecDepth 100000 in
theorem larchref17_Root.calls (k : Nat) (A0 : Option Addr) (c0 : Nat) (l0 : List (S49)) (r1 : Int) (r2 : Bool) (w : World) (hr0 : Kd.C k49 w A0 l0.length l0) (hc0 : l0.length ≤ c0) (h : larchref17_Root.f k l0 = some (r1, r2)) :
  Calls Try.prog 26 #[.slice A0 l0.length c0] w fun e w' => e = .returned (.tuple #[.int .i64 r1, .bool r2]) ∧ Below w.heap.size w w' := by
 have hu49 := Try.underlying49
 have HR0 := Aside0.mk hr0
 have HC0 := Aside0.mk hc0
 clear hr0 hc0
 have HB := Aside0.mk (Below.refl w.heap.size w)
 have H : (if 0 < (l0.length : Int) then ((larchref17_leaf.f ((rd_T49 l0 0).f0) ((rd_T49 l0 0).f1) ((rd_T49 l0 0).f2) ((rd_T49 l0 0).f3) ((rd_T49 l0 0).f4) ((rd_T49 l0 0).f5)).bind fun t307 => (if t307 = true then (larchref17_Root.j0 k l0 true ((rd_T49 l0 0).f0) ((rd_T49 l0 0).f1) ((rd_T49 l0 0).f2) ((rd_T49 l0 0).f3) ((rd_T49 l0 0).f4) ((rd_T49 l0 0).f5)) else (if ((rd_T49 l0 0).f1) = 1 then (if ((rd_T49 l0 0).f2) = 1 then (if 0 ≤ ((rd_T49 l0 0).f5) then (if ((rd_T49 l0 0).f5) < (l0.length : Int) then ((larchref17_sentinel.f ((rd_T49 l0 ((rd_T49 l0 0).f5)).f0) ((rd_T49 l0 ((rd_T49 l0 0).f5)).f1) ((rd_T49 l0 ((rd_T49 l0 0).f5)).f2) ((rd_T49 l0 ((rd_T49 l0 0).f5)).f3) ((rd_T49 l0 ((rd_T49 l0 0).f5)).f4) ((rd_T49 l0 ((rd_T49 l0 0).f5)).f5)).bind fun t309 => (larchref17_Root.j0 k l0 (!t309) ((rd_T49 l0 0).f0) ((rd_T49 l0 0).f1) ((rd_T49 l0 0).f2) ((rd_T49 l0 0).f3) ((rd_T49 l0 0).f4) ((rd_T49 l0 0).f5))) else (none)) else (none)) else (larchref17_Root.j0 k l0 true ((rd_T49 l0 0).f0) ((rd_T49 l0 0).f1) ((rd_T49 l0 0).f2) ((rd_T49 l0 0).f3) ((rd_T49 l0 0).f4) ((rd_T49 l0 0).f5))) else (larchref17_Root.j0 k l0 true ((rd_T49 l0 0).f0) ((rd_T49 l0 0).f1) ((rd_T49 l0 0).f2) ((rd_T49 l0 0).f3) ((rd_T49 l0 0).f4) ((rd_T49 l0 0).f5))))) else (none)) = some (r1, r2) := h
 clear h
 by_cases c2 : 0 < (l0.length : Int)
 ·
  rw [if_pos c2] at H
  have c2b0 : decide (0 < (l0.length : Int)) = true := decide_eq_true c2
  have c2b1 : decide (0 < l0.length) = true := decide_eq_true (by omega)
  clear c2
  have HC3 := Aside0.mk H
  clear H
  have p305 : 0 ≤ (0 : Int) := (by omega)
  have q305 : 0 < (l0.length : Int) := dt
  obtain ⟨ad305, e305, hx305_0, hx305_1, hx305_2, hx305_3, hx305_4, hx305_5⟩ := at_T49 HR0.out 0 p305 q305
  cases e305
  have qi305 : (0 < l0.length) = True := eq_true (by omega)
  (try rw [show ((0 : Int)).toNat = 0 from rfl] at hx305_0)
  (try rw [show 0 * 6 = 0 from rfl] at hx305_0)
  (try rw [Addr.add_zero'] at hx305_0)
  (try rw [show ((0 : Int)).toNat = 0 from rfl] at hx305_1)
  (try rw [show 0 * 6 = 0 from rfl] at hx305_1)
  (try rw [Addr.add_zero'] at hx305_1)
  (try rw [show ((0 : Int)).toNat = 0 from rfl] at hx305_2)
  (try rw [show 0 * 6 = 0 from rfl] at hx305_2)
  (try rw [Addr.add_zero'] at hx305_2)
  (try rw [show ((0 : Int)).toNat = 0 from rfl] at hx305_3)
  (try rw [show 0 * 6 = 0 from rfl] at hx305_3)
  (try rw [Addr.add_zero'] at hx305_3)
  (try rw [show ((0 : Int)).toNat = 0 from rfl] at hx305_4)
  (try rw [show 0 * 6 = 0 from rfl] at hx305_4)
  (try rw [Addr.add_zero'] at hx305_4)
  (try rw [show ((0 : Int)).toNat = 0 from rfl] at hx305_5)
  (try rw [show 0 * 6 = 0 from rfl] at hx305_5)
  (try rw [Addr.add_zero'] at hx305_5)
  replace p305 := eq_true p305
  replace q305 := eq_true q305
  go_enter Try.func26, Try.ntmps26
  go_upto_region 2 with (first | ((with_reducible refine gate_dst (N := 4) rfl ?_); refine box_event ?hg (N := 4) ?hd (cs := #[.int .i64 0, .int .i64 0, .int .i64 0, .int .i64 0, .int .i64 0, .int .i64 0]) (t := 49) ?hr ?_; (case hd => rfl); (case hg => rfl); (case hr => first | (go_simp; done) | (go_simp; rfl)); intro gb306 hg w4 hbox hb; have n0_ := Aside0.mk (below_step (skB HB.out) hb); have n1_ := Aside0.mk (hbox); have n2_ := Aside0.mk ((by rw [hg]; exact (below_size (skB HB.out)) : w.heap.size ≤ gb306)); have n3_ := Aside0.mk ((by rw [hg]; exact (below_size (skB HB.out)) : w.heap.size ≤ gb306)); clear HB; have HB := n0_; have BK306 := n1_; have GW306 := n2_; have GE306 := n3_; clear n0_ n1_ n2_ n3_; clear hb hbox hg; obtain ⟨hcz5_0, hcz5_1, hcz5_2, hcz5_3, hcz5_4, hcz5_5, hfz5_0, hfz5_1, hfz5_2, hfz5_3, hfz5_4, hfz5_5⟩ := bk6 BK306.out))
  (try simp only [Act.put, List.setIfInBounds_toArray, List.set_cons_zero, List.set_cons_succ])
  go_cut [31] (fun v31 wc => ∃ (kq : Nat) (x31_2 : Bool), v31 = .bool x31_2 ∧ Aside0 (larchref17_Root.j0 kq l0 x31_2 ((rd_T49 l0 0).f0) ((rd_T49 l0 0).f1) ((rd_T49 l0 0).f2) ((rd_T49 l0 0).f3) ((rd_T49 l0 0).f4) ((rd_T49 l0 0).f5) = some (r1, r2)) ∧ Aside0 (kq ≤ k) ∧ Aside0 (wc.heap[gb306]? = some (.cells #[.int .i64 ((rd_T49 l0 0).f0), .int .i64 ((rd_T49 l0 0).f1), .int .i64 ((rd_T49 l0 0).f2), .int .i64 ((rd_T49 l0 0).f3), .int .i64 ((rd_T49 l0 0).f4), .int .i64 ((rd_T49 l0 0).f5)] 49 (0, 0))) ∧ Aside0 (Below w.heap.size w wc))
  case first =>
   have H := HC3.out
   clear HC3
   replace H := Option.bind_eq_some_iff.mp H
   obtain ⟨t307, A60, H⟩ := H
   replace H : (if t307 = true then (larchref17_Root.j0 k l0 true ((rd_T49 l0 0).f0) ((rd_T49 l0 0).f1) ((rd_T49 l0 0).f2) ((rd_T49 l0 0).f3) ((rd_T49 l0 0).f4) ((rd_T49 l0 0).f5)) else (if ((rd_T49 l0 0).f1) = 1 then (if ((rd_T49 l0 0).f2) = 1 then (if 0 ≤ ((rd_T49 l0 0).f5) then (if ((rd_T49 l0 0).f5) < (l0.length : Int) then ((larchref17_sentinel.f ((rd_T49 l0 ((rd_T49 l0 0).f5)).f0) ((rd_T49 l0 ((rd_T49 l0 0).f5)).f1) ((rd_T49 l0 ((rd_T49 l0 0).f5)).f2) ((rd_T49 l0 ((rd_T49 l0 0).f5)).f3) ((rd_T49 l0 ((rd_T49 l0 0).f5)).f4) ((rd_T49 l0 ((rd_T49 l0 0).f5)).f5)).bind fun t309 => (larchref17_Root.j0 k l0 (!t309) ((rd_T49 l0 0).f0) ((rd_T49 l0 0).f1) ((rd_T49 l0 0).f2) ((rd_T49 l0 0).f3) ((rd_T49 l0 0).f4) ((rd_T49 l0 0).f5))) else (none)) else (none)) else (larchref17_Root.j0 k l0 true ((rd_T49 l0 0).f0) ((rd_T49 l0 0).f1) ((rd_T49 l0 0).f2) ((rd_T49 l0 0).f3) ((rd_T49 l0 0).f4) ((rd_T49 l0 0).f5))) else (larchref17_Root.j0 k l0 true ((rd_T49 l0 0).f0) ((rd_T49 l0 0).f1) ((rd_T49 l0 0).f2) ((rd_T49 l0 0).f3) ((rd_T49 l0 0).f4) ((rd_T49 l0 0).f5)))) = some (r1, r2) := H
   have A6 := Aside0.mk A60
   clear A60
   by_cases c7 : t307 = true
   ·
    subst c7
    have H1 : (larchref17_Root.j0 k l0 true ((rd_T49 l0 0).f0) ((rd_T49 l0 0).f1) ((rd_T49 l0 0).f2) ((rd_T49 l0 0).f3) ((rd_T49 l0 0).f4) ((rd_T49 l0 0).f5)) = some (r1, r2) := by rw [if_pos rfl] at H; exact H
    clear H
    have H := H1
    clear H1
    have H' := Aside0.mk H
    clear H
    obtain ⟨hcz8_0, hcz8_1, hcz8_2, hcz8_3, hcz8_4, hcz8_5, hfz8_0, hfz8_1, hfz8_2, hfz8_3, hfz8_4, hfz8_5⟩ := bk6 BK306.out
    go_wp2_with (first | ((with_reducible refine gate_callee (f := 53) rfl ?_); refine goesL_ (some 12) rfl rfl Try.func53 (by kernel_rfl) rfl #[.agg #[.int .i64 ((rd_T49 l0 0).f0), .int .i64 ((rd_T49 l0 0).f1), .int .i64 ((rd_T49 l0 0).f2), .int .i64 ((rd_T49 l0 0).f3), .int .i64 ((rd_T49 l0 0).f4), .int .i64 ((rd_T49 l0 0).f5)]] rfl ags ?_; (with_reducible refine (larchref17_leaf.calls ((rd_T49 l0 0).f0) ((rd_T49 l0 0).f1) ((rd_T49 l0 0).f2) ((rd_T49 l0 0).f3) ((rd_T49 l0 0).f4) ((rd_T49 l0 0).f5) true _ A6.out).mono ?_); rintro e w9 ⟨rfl, hb⟩; refine ⟨_, rfl, ?_⟩; have n0_ := Aside0.mk (blk_below (g := gb306) (o := .cells #[.int .i64 ((rd_T49 l0 0).f0), .int .i64 ((rd_T49 l0 0).f1), .int .i64 ((rd_T49 l0 0).f2), .int .i64 ((rd_T49 l0 0).f3), .int .i64 ((rd_T49 l0 0).f4), .int .i64 ((rd_T49 l0 0).f5)] 49 (0, 0)) (by refine skk ?_; refine blk_put (cs := #[.int .i64 ((rd_T49 l0 0).f0), .int .i64 ((rd_T49 l0 0).f1), .int .i64 ((rd_T49 l0 0).f2), .int .i64 ((rd_T49 l0 0).f3), .int .i64 ((rd_T49 l0 0).f4), .int .i64 0]) ?_ 5 _ rfl; refine skk ?_; refine blk_put (cs := #[.int .i64 ((rd_T49 l0 0).f0), .int .i64 ((rd_T49 l0 0).f1), .int .i64 ((rd_T49 l0 0).f2), .int .i64 ((rd_T49 l0 0).f3), .int .i64 0, .int .i64 0]) ?_ 4 _ rfl; refine skk ?_; refine blk_put (cs := #[.int .i64 ((rd_T49 l0 0).f0), .int .i64 ((rd_T49 l0 0).f1), .int .i64 ((rd_T49 l0 0).f2), .int .i64 0, .int .i64 0, .int .i64 0]) ?_ 3 _ rfl; refine skk ?_; refine blk_put (cs := #[.int .i64 ((rd_T49 l0 0).f0), .int .i64 ((rd_T49 l0 0).f1), .int .i64 0, .int .i64 0, .int .i64 0, .int .i64 0]) ?_ 2 _ rfl; refine skk ?_; refine blk_put (cs := #[.int .i64 ((rd_T49 l0 0).f0), .int .i64 0, .int .i64 0, .int .i64 0, .int .i64 0, .int .i64 0]) ?_ 1 _ rfl; refine skk ?_; refine blk_put (cs := #[.int .i64 0, .int .i64 0, .int .i64 0, .int .i64 0, .int .i64 0, .int .i64 0]) ?_ 0 _ rfl; refine skk ?_; exact BK306.out) hb); have n1_ := Aside0.mk (below_step (by repeat (first | (with_reducible first | exact HB.out | apply below_alloc | apply pw_below_drewN | apply below_drew1 | refine below_set ?_ GE306.out) | exact HB.out)) hb); clear BK306; clear HB; have BK306 := n0_; have HB := n1_; clear n0_ n1_; (try clear hb); (try clear hb2); (try clear hk); (try clear hi)))
    go_meet
    case rel => exact ⟨_, (true), rs, H', ⟨by first | omega | exact Nat.le_refl _⟩, ⟨skK BK306.out⟩, ⟨by repeat (first | (with_reducible first | exact HB.out | apply below_alloc | apply pw_below_drewN | apply below_drew1 | refine below_set ?_ GE306.out) | exact HB.out)⟩⟩
   ·
    replace c7 := Bool.eq_false_iff.mpr c7
    subst c7
    have H1 : (if ((rd_T49 l0 0).f1) = 1 then (if ((rd_T49 l0 0).f2) = 1 then (if 0 ≤ ((rd_T49 l0 0).f5) then (if ((rd_T49 l0 0).f5) < (l0.length : Int) then ((larchref17_sentinel.f ((rd_T49 l0 ((rd_T49 l0 0).f5)).f0) ((rd_T49 l0 ((rd_T49 l0 0).f5)).f1) ((rd_T49 l0 ((rd_T49 l0 0).f5)).f2) ((rd_T49 l0 ((rd_T49 l0 0).f5)).f3) ((rd_T49 l0 ((rd_T49 l0 0).f5)).f4) ((rd_T49 l0 ((rd_T49 l0 0).f5)).f5)).bind fun t309 => (larchref17_Root.j0 k l0 (!t309) ((rd_T49 l0 0).f0) ((rd_T49 l0 0).f1) ((rd_T49 l0 0).f2) ((rd_T49 l0 0).f3) ((rd_T49 l0 0).f4) ((rd_T49 l0 0).f5))) else (none)) else (none)) else (larchref17_Root.j0 k l0 true ((rd_T49 l0 0).f0) ((rd_T49 l0 0).f1) ((rd_T49 l0 0).f2) ((rd_T49 l0 0).f3) ((rd_T49 l0 0).f4) ((rd_T49 l0 0).f5))) else (larchref17_Root.j0 k l0 true ((rd_T49 l0 0).f0) ((rd_T49 l0 0).f1) ((rd_T49 l0 0).f2) ((rd_T49 l0 0).f3) ((rd_T49 l0 0).f4) ((rd_T49 l0 0).f5))) = some (r1, r2) := by rw [if_neg (show ¬ (false = true) by decide)] at H; exact H
    clear H
    have H := H1
    clear H1
    by_cases c10 : ((rd_T49 l0 0).f1) = 1
    ·
     rw [if_pos c10] at H
     have c10b0 : (((rd_T49 l0 0).f1) == 1) = true := beq_iff_eq.mpr c10
     have c10b1 : (((rd_T49 l0 0).f1) != 1) = false := bne_eq_false_iff_eq.mpr c10
     clear c10
     (first | rw [c10b0] | (simp only [i64_w, i32_w]; rw [c10b0]) | skip)
     by_cases c11 : ((rd_T49 l0 0).f2) = 1
     ·
      rw [if_pos c11] at H
      have c11b0 : (((rd_T49 l0 0).f2) == 1) = true := beq_iff_eq.mpr c11
      have c11b1 : (((rd_T49 l0 0).f2) != 1) = false := bne_eq_false_iff_eq.mpr c11
      clear c11
      by_cases c12 : 0 ≤ ((rd_T49 l0 0).f5)
      ·
       rw [if_pos c12] at H
       have c12b0 : decide (0 ≤ ((rd_T49 l0 0).f5)) = true := decide_eq_true c12
       clear c12
       by_cases c13 : ((rd_T49 l0 0).f5) < (l0.length : Int)
       ·
        rw [if_pos c13] at H
        have c13b0 : decide (((rd_T49 l0 0).f5) < (l0.length : Int)) = true := decide_eq_true c13
        clear c13
        replace H := Option.bind_eq_some_iff.mp H
        obtain ⟨t309, A140, H⟩ := H
        replace H : (larchref17_Root.j0 k l0 (!t309) ((rd_T49 l0 0).f0) ((rd_T49 l0 0).f1) ((rd_T49 l0 0).f2) ((rd_T49 l0 0).f3) ((rd_T49 l0 0).f4) ((rd_T49 l0 0).f5)) = some (r1, r2) := H
        have A14 := Aside0.mk A140
        clear A140
        have H' := Aside0.mk H
        clear H
        obtain ⟨hcz15_0, hcz15_1, hcz15_2, hcz15_3, hcz15_4, hcz15_5, hfz15_0, hfz15_1, hfz15_2, hfz15_3, hfz15_4, hfz15_5⟩ := bk6 BK306.out
        go_wp2_with (first | ((with_reducible refine gate_callee (f := 53) rfl ?_); refine goesL_ (some 12) rfl rfl Try.func53 (by kernel_rfl) rfl #[.agg #[.int .i64 ((rd_T49 l0 0).f0), .int .i64 ((rd_T49 l0 0).f1), .int .i64 ((rd_T49 l0 0).f2), .int .i64 ((rd_T49 l0 0).f3), .int .i64 ((rd_T49 l0 0).f4), .int .i64 ((rd_T49 l0 0).f5)]] rfl ags ?_; (with_reducible refine (larchref17_leaf.calls ((rd_T49 l0 0).f0) ((rd_T49 l0 0).f1) ((rd_T49 l0 0).f2) ((rd_T49 l0 0).f3) ((rd_T49 l0 0).f4) ((rd_T49 l0 0).f5) false _ A6.out).mono ?_); rintro e w16 ⟨rfl, hb⟩; refine ⟨_, rfl, ?_⟩; have n0_ := Aside0.mk (blk_below (g := gb306) (o := .cells #[.int .i64 ((rd_T49 l0 0).f0), .int .i64 ((rd_T49 l0 0).f1), .int .i64 ((rd_T49 l0 0).f2), .int .i64 ((rd_T49 l0 0).f3), .int .i64 ((rd_T49 l0 0).f4), .int .i64 ((rd_T49 l0 0).f5)] 49 (0, 0)) (by refine skk ?_; refine blk_put (cs := #[.int .i64 ((rd_T49 l0 0).f0), .int .i64 ((rd_T49 l0 0).f1), .int .i64 ((rd_T49 l0 0).f2), .int .i64 ((rd_T49 l0 0).f3), .int .i64 ((rd_T49 l0 0).f4), .int .i64 0]) ?_ 5 _ rfl; refine skk ?_; refine blk_put (cs := #[.int .i64 ((rd_T49 l0 0).f0), .int .i64 ((rd_T49 l0 0).f1), .int .i64 ((rd_T49 l0 0).f2), .int .i64 ((rd_T49 l0 0).f3), .int .i64 0, .int .i64 0]) ?_ 4 _ rfl; refine skk ?_; refine blk_put (cs := #[.int .i64 ((rd_T49 l0 0).f0), .int .i64 ((rd_T49 l0 0).f1), .int .i64 ((rd_T49 l0 0).f2), .int .i64 0, .int .i64 0, .int .i64 0]) ?_ 3 _ rfl; refine skk ?_; refine blk_put (cs := #[.int .i64 ((rd_T49 l0 0).f0), .int .i64 ((rd_T49 l0 0).f1), .int .i64 0, .int .i64 0, .int .i64 0, .int .i64 0]) ?_ 2 _ rfl; refine skk ?_; refine blk_put (cs := #[.int .i64 ((rd_T49 l0 0).f0), .int .i64 0, .int .i64 0, .int .i64 0, .int .i64 0, .int .i64 0]) ?_ 1 _ rfl; refine skk ?_; refine blk_put (cs := #[.int .i64 0, .int .i64 0, .int .i64 0, .int .i64 0, .int .i64 0, .int .i64 0]) ?_ 0 _ rfl; refine skk ?_; exact BK306.out) hb); have n1_ := Aside0.mk (below_step (by repeat (first | (with_reducible first | exact HB.out | apply below_alloc | apply pw_below_drewN | apply below_drew1 | refine below_set ?_ GE306.out) | exact HB.out)) hb); clear BK306; clear HB; have BK306 := n0_; have HB := n1_; clear n0_ n1_; (try clear hb); (try clear hb2); (try clear hk); (try clear hi); obtain ⟨hcz17_0, hcz17_1, hcz17_2, hcz17_3, hcz17_4, hcz17_5, hfz17_0, hfz17_1, hfz17_2, hfz17_3, hfz17_4, hfz17_5⟩ := bk6 BK306.out; have p308 : 0 ≤ (((rd_T49 l0 0).f5) : Int) := dt; have q308 : ((rd_T49 l0 0).f5) < (l0.length : Int) := dt; obtain ⟨ad308, e308, hx308_0, hx308_1, hx308_2, hx308_3, hx308_4, hx308_5⟩ := at_T49 HR0.out ((rd_T49 l0 0).f5) p308 q308; obtain rfl : ad305 = ad308 := (by injection e308); replace hx308_0 := skc HB.out hx308_0; replace hx308_1 := skc HB.out hx308_1; replace hx308_2 := skc HB.out hx308_2; replace hx308_3 := skc HB.out hx308_3; replace hx308_4 := skc HB.out hx308_4; replace hx308_5 := skc HB.out hx308_5; replace p308 := eq_true p308; replace q308 := eq_true q308) | (go_at_call 54; (with_reducible refine (larchref17_sentinel.calls ((rd_T49 l0 ((rd_T49 l0 0).f5)).f0) ((rd_T49 l0 ((rd_T49 l0 0).f5)).f1) ((rd_T49 l0 ((rd_T49 l0 0).f5)).f2) ((rd_T49 l0 ((rd_T49 l0 0).f5)).f3) ((rd_T49 l0 ((rd_T49 l0 0).f5)).f4) ((rd_T49 l0 ((rd_T49 l0 0).f5)).f5) t309 _ A14.out).mono ?_); rintro e w18 ⟨rfl, hb⟩; have n0_ := Aside0.mk (blk_below (g := gb306) (o := .cells #[.int .i64 ((rd_T49 l0 0).f0), .int .i64 ((rd_T49 l0 0).f1), .int .i64 ((rd_T49 l0 0).f2), .int .i64 ((rd_T49 l0 0).f3), .int .i64 ((rd_T49 l0 0).f4), .int .i64 ((rd_T49 l0 0).f5)] 49 (0, 0)) (skK BK306.out) hb); have n1_ := Aside0.mk (below_step (by repeat (first | (with_reducible first | exact HB.out | apply below_alloc | apply pw_below_drewN | apply below_drew1 | refine below_set ?_ GE306.out) | exact HB.out)) hb); clear BK306; clear HB; have BK306 := n0_; have HB := n1_; clear n0_ n1_; (try clear hb); (try clear hb2); (try clear hk); (try clear hi)))
        go_meet
        case rel => exact ⟨_, (!t309), rs, H', ⟨by first | omega | exact Nat.le_refl _⟩, ⟨skK BK306.out⟩, ⟨by repeat (first | (with_reducible first | exact HB.out | apply below_alloc | apply pw_below_drewN | apply below_drew1 | refine below_set ?_ GE306.out) | exact HB.out)⟩⟩
       ·
        rw [if_neg c13] at H
        exact absurd H (by simp)
      ·
       rw [if_neg c12] at H
       exact absurd H (by simp)
     ·
      rw [if_neg c11] at H
      have c11b0 : (((rd_T49 l0 0).f2) == 1) = false := beq_eq_false_iff_ne.mpr c11
      have c11b1 : (((rd_T49 l0 0).f2) != 1) = true := bne_iff_ne.mpr c11
      have H' := Aside0.mk H
      clear H
      obtain ⟨hcz19_0, hcz19_1, hcz19_2, hcz19_3, hcz19_4, hcz19_5, hfz19_0, hfz19_1, hfz19_2, hfz19_3, hfz19_4, hfz19_5⟩ := bk6 BK306.out
      go_wp2_with (first | ((with_reducible refine gate_callee (f := 53) rfl ?_); refine goesL_ (some 12) rfl rfl Try.func53 (by kernel_rfl) rfl #[.agg #[.int .i64 ((rd_T49 l0 0).f0), .int .i64 ((rd_T49 l0 0).f1), .int .i64 ((rd_T49 l0 0).f2), .int .i64 ((rd_T49 l0 0).f3), .int .i64 ((rd_T49 l0 0).f4), .int .i64 ((rd_T49 l0 0).f5)]] rfl ags ?_; (with_reducible refine (larchref17_leaf.calls ((rd_T49 l0 0).f0) ((rd_T49 l0 0).f1) ((rd_T49 l0 0).f2) ((rd_T49 l0 0).f3) ((rd_T49 l0 0).f4) ((rd_T49 l0 0).f5) false _ A6.out).mono ?_); rintro e w20 ⟨rfl, hb⟩; refine ⟨_, rfl, ?_⟩; have n0_ := Aside0.mk (blk_below (g := gb306) (o := .cells #[.int .i64 ((rd_T49 l0 0).f0), .int .i64 ((rd_T49 l0 0).f1), .int .i64 ((rd_T49 l0 0).f2), .int .i64 ((rd_T49 l0 0).f3), .int .i64 ((rd_T49 l0 0).f4), .int .i64 ((rd_T49 l0 0).f5)] 49 (0, 0)) (by refine skk ?_; refine blk_put (cs := #[.int .i64 ((rd_T49 l0 0).f0), .int .i64 ((rd_T49 l0 0).f1), .int .i64 ((rd_T49 l0 0).f2), .int .i64 ((rd_T49 l0 0).f3), .int .i64 ((rd_T49 l0 0).f4), .int .i64 0]) ?_ 5 _ rfl; refine skk ?_; refine blk_put (cs := #[.int .i64 ((rd_T49 l0 0).f0), .int .i64 ((rd_T49 l0 0).f1), .int .i64 ((rd_T49 l0 0).f2), .int .i64 ((rd_T49 l0 0).f3), .int .i64 0, .int .i64 0]) ?_ 4 _ rfl; refine skk ?_; refine blk_put (cs := #[.int .i64 ((rd_T49 l0 0).f0), .int .i64 ((rd_T49 l0 0).f1), .int .i64 ((rd_T49 l0 0).f2), .int .i64 0, .int .i64 0, .int .i64 0]) ?_ 3 _ rfl; refine skk ?_; refine blk_put (cs := #[.int .i64 ((rd_T49 l0 0).f0), .int .i64 ((rd_T49 l0 0).f1), .int .i64 0, .int .i64 0, .int .i64 0, .int .i64 0]) ?_ 2 _ rfl; refine skk ?_; refine blk_put (cs := #[.int .i64 ((rd_T49 l0 0).f0), .int .i64 0, .int .i64 0, .int .i64 0, .int .i64 0, .int .i64 0]) ?_ 1 _ rfl; refine skk ?_; refine blk_put (cs := #[.int .i64 0, .int .i64 0, .int .i64 0, .int .i64 0, .int .i64 0, .int .i64 0]) ?_ 0 _ rfl; refine skk ?_; exact BK306.out) hb); have n1_ := Aside0.mk (below_step (by repeat (first | (with_reducible first | exact HB.out | apply below_alloc | apply pw_below_drewN | apply below_drew1 | refine below_set ?_ GE306.out) | exact HB.out)) hb); clear BK306; clear HB; have BK306 := n0_; have HB := n1_; clear n0_ n1_; (try clear hb); (try clear hb2); (try clear hk); (try clear hi); obtain ⟨hcz21_0, hcz21_1, hcz21_2, hcz21_3, hcz21_4, hcz21_5, hfz21_0, hfz21_1, hfz21_2, hfz21_3, hfz21_4, hfz21_5⟩ := bk6 BK306.out))
      go_meet
      case rel => exact ⟨_, (true), rs, H', ⟨by first | omega | exact Nat.le_refl _⟩, ⟨skK BK306.out⟩, ⟨by repeat (first | (with_reducible first | exact HB.out | apply below_alloc | apply pw_below_drewN | apply below_drew1 | refine below_set ?_ GE306.out) | exact HB.out)⟩⟩
    ·
     rw [if_neg c10] at H
     have c10b0 : (((rd_T49 l0 0).f1) == 1) = false := beq_eq_false_iff_ne.mpr c10
     have c10b1 : (((rd_T49 l0 0).f1) != 1) = true := bne_iff_ne.mpr c10
     (first | rw [c10b0] | (simp only [i64_w, i32_w]; rw [c10b0]) | skip)
     have H' := Aside0.mk H
     clear H
     obtain ⟨hcz22_0, hcz22_1, hcz22_2, hcz22_3, hcz22_4, hcz22_5, hfz22_0, hfz22_1, hfz22_2, hfz22_3, hfz22_4, hfz22_5⟩ := bk6 BK306.out
     go_wp2_with (first | ((with_reducible refine gate_callee (f := 53) rfl ?_); refine goesL_ (some 12) rfl rfl Try.func53 (by kernel_rfl) rfl #[.agg #[.int .i64 ((rd_T49 l0 0).f0), .int .i64 ((rd_T49 l0 0).f1), .int .i64 ((rd_T49 l0 0).f2), .int .i64 ((rd_T49 l0 0).f3), .int .i64 ((rd_T49 l0 0).f4), .int .i64 ((rd_T49 l0 0).f5)]] rfl ags ?_; (with_reducible refine (larchref17_leaf.calls ((rd_T49 l0 0).f0) ((rd_T49 l0 0).f1) ((rd_T49 l0 0).f2) ((rd_T49 l0 0).f3) ((rd_T49 l0 0).f4) ((rd_T49 l0 0).f5) false _ A6.out).mono ?_); rintro e w23 ⟨rfl, hb⟩; refine ⟨_, rfl, ?_⟩; have n0_ := Aside0.mk (blk_below (g := gb306) (o := .cells #[.int .i64 ((rd_T49 l0 0).f0), .int .i64 ((rd_T49 l0 0).f1), .int .i64 ((rd_T49 l0 0).f2), .int .i64 ((rd_T49 l0 0).f3), .int .i64 ((rd_T49 l0 0).f4), .int .i64 ((rd_T49 l0 0).f5)] 49 (0, 0)) (by refine skk ?_; refine blk_put (cs := #[.int .i64 ((rd_T49 l0 0).f0), .int .i64 ((rd_T49 l0 0).f1), .int .i64 ((rd_T49 l0 0).f2), .int .i64 ((rd_T49 l0 0).f3), .int .i64 ((rd_T49 l0 0).f4), .int .i64 0]) ?_ 5 _ rfl; refine skk ?_; refine blk_put (cs := #[.int .i64 ((rd_T49 l0 0).f0), .int .i64 ((rd_T49 l0 0).f1), .int .i64 ((rd_T49 l0 0).f2), .int .i64 ((rd_T49 l0 0).f3), .int .i64 0, .int .i64 0]) ?_ 4 _ rfl; refine skk ?_; refine blk_put (cs := #[.int .i64 ((rd_T49 l0 0).f0), .int .i64 ((rd_T49 l0 0).f1), .int .i64 ((rd_T49 l0 0).f2), .int .i64 0, .int .i64 0, .int .i64 0]) ?_ 3 _ rfl; refine skk ?_; refine blk_put (cs := #[.int .i64 ((rd_T49 l0 0).f0), .int .i64 ((rd_T49 l0 0).f1), .int .i64 0, .int .i64 0, .int .i64 0, .int .i64 0]) ?_ 2 _ rfl; refine skk ?_; refine blk_put (cs := #[.int .i64 ((rd_T49 l0 0).f0), .int .i64 0, .int .i64 0, .int .i64 0, .int .i64 0, .int .i64 0]) ?_ 1 _ rfl; refine skk ?_; refine blk_put (cs := #[.int .i64 0, .int .i64 0, .int .i64 0, .int .i64 0, .int .i64 0, .int .i64 0]) ?_ 0 _ rfl; refine skk ?_; exact BK306.out) hb); have n1_ := Aside0.mk (below_step (by repeat (first | (with_reducible first | exact HB.out | apply below_alloc | apply pw_below_drewN | apply below_drew1 | refine below_set ?_ GE306.out) | exact HB.out)) hb); clear BK306; clear HB; have BK306 := n0_; have HB := n1_; clear n0_ n1_; (try clear hb); (try clear hb2); (try clear hk); (try clear hi); obtain ⟨hcz24_0, hcz24_1, hcz24_2, hcz24_3, hcz24_4, hcz24_5, hfz24_0, hfz24_1, hfz24_2, hfz24_3, hfz24_4, hfz24_5⟩ := bk6 BK306.out))
     go_meet
     case rel => exact ⟨_, (true), rs, H', ⟨by first | omega | exact Nat.le_refl _⟩, ⟨skK BK306.out⟩, ⟨by repeat (first | (with_reducible first | exact HB.out | apply below_alloc | apply pw_below_drewN | apply below_drew1 | refine below_set ?_ GE306.out) | exact HB.out)⟩⟩
  case rest =>
   clear HC3
   try clear c1
   try clear c2
   try clear c2b0
   try clear c2b1
   try clear p2
   try clear p3
   try clear q3
   try clear hx3
   try clear qi3
   try clear c5
   try clear c7
   try clear c10
   try clear c10b0
   try clear c10b1
   try clear c11
   try clear c11b0
   try clear c11b1
   try clear c12
   try clear c12b0
   try clear c13
   try clear c13b0
   try clear hcz15_0
   try clear hcz15_1
   try clear hcz15_2
   try clear hcz15_3
   try clear hcz15_4
   try clear hcz15_5
   try clear hcz17_0
   try clear hcz17_1
   try clear hcz17_2
   try clear hcz17_3
   try clear hcz17_4
   try clear hcz17_5
   try clear hcz19_0
   try clear hcz19_1
   try clear hcz19_2
   try clear hcz19_3
   try clear hcz19_4
   try clear hcz19_5
   try clear hcz21_0
   try clear hcz21_1
   try clear hcz21_2
   try clear hcz21_3
   try clear hcz21_4
   try clear hcz21_5
   try clear hcz22_0
   try clear hcz22_1
   try clear hcz22_2
   try clear hcz22_3
   try clear hcz22_4
   try clear hcz22_5
   try clear hcz24_0
   try clear hcz24_1
   try clear hcz24_2
   try clear hcz24_3
   try clear hcz24_4
   try clear hcz24_5
   try clear hcz5_0
   try clear hcz5_1
   try clear hcz5_2
   try clear hcz5_3
   try clear hcz5_4
   try clear hcz5_5
   try clear hcz8_0
   try clear hcz8_1
   try clear hcz8_2
   try clear hcz8_3
   try clear hcz8_4
   try clear hcz8_5
   try clear hfz15_0
   try clear hfz15_1
   try clear hfz15_2
   try clear hfz15_3
   try clear hfz15_4
   try clear hfz15_5
   try clear hfz17_0
   try clear hfz17_1
   try clear hfz17_2
   try clear hfz17_3
   try clear hfz17_4
   try clear hfz17_5
   try clear hfz19_0
   try clear hfz19_1
   try clear hfz19_2
   try clear hfz19_3
   try clear hfz19_4
   try clear hfz19_5
   try clear hfz21_0
   try clear hfz21_1
   try clear hfz21_2
   try clear hfz21_3
   try clear hfz21_4
   try clear hfz21_5
   try clear hfz22_0
   try clear hfz22_1
   try clear hfz22_2
   try clear hfz22_3
   try clear hfz22_4
   try clear hfz22_5
   try clear hfz24_0
   try clear hfz24_1
   try clear hfz24_2
   try clear hfz24_3
   try clear hfz24_4
   try clear hfz24_5
   try clear hfz5_0
   try clear hfz5_1
   try clear hfz5_2
   try clear hfz5_3
   try clear hfz5_4
   try clear hfz5_5
   try clear hfz8_0
   try clear hfz8_1
   try clear hfz8_2
   try clear hfz8_3
   try clear hfz8_4
   try clear hfz8_5
   try clear hx305_0
   try clear hx305_1
   try clear hx305_2
   try clear hx305_3
   try clear hx305_4
   try clear hx305_5
   try clear hx308_0
   try clear hx308_1
   try clear hx308_2
   try clear hx308_3
   try clear hx308_4
   try clear hx308_5
   try clear p305
   try clear p308
   try clear q305
   try clear q308
   obtain ⟨kq, x31_2, rfl, HA, HJ2, BK306, HB⟩ := hcut
   cases kq with
   | zero => exact absurd HA.out (by simp [larchref17_Root.j0])
   | succ kj2 =>
    have H := HA.out
    clear HA
    simp only [larchref17_Root.j0] at H
    by_cases c25 : x31_2 = true
    ·
     subst c25
     have H1 : (some ((-1), false)) = some (r1, r2) := by rw [if_pos rfl] at H; exact H
     clear H
     have H := H1
     clear H1
     simp only [Option.some.injEq, Prod.mk.injEq] at H
     obtain ⟨rfl, rfl⟩ := H
     go_wp2
     go_ret2
     exact ⟨re, by repeat (first | (with_reducible first | exact HB.out | apply below_alloc | apply pw_below_drewN | apply below_drew1 | refine below_set ?_ GE306.out) | exact HB.out)⟩
    ·
     replace c25 := Bool.eq_false_iff.mpr c25
     subst c25
     have H1 : (if 0 ≤ ((rd_T49 l0 0).f4) then (if ((rd_T49 l0 0).f4) < (l0.length : Int) then ((larchref17_sentinel.f ((rd_T49 l0 ((rd_T49 l0 0).f4)).f0) ((rd_T49 l0 ((rd_T49 l0 0).f4)).f1) ((rd_T49 l0 ((rd_T49 l0 0).f4)).f2) ((rd_T49 l0 ((rd_T49 l0 0).f4)).f3) ((rd_T49 l0 ((rd_T49 l0 0).f4)).f4) ((rd_T49 l0 ((rd_T49 l0 0).f4)).f5)).bind fun t311 => (if t311 = true then (some ((-1), true)) else ((larchref17_leaf.f ((rd_T49 l0 ((rd_T49 l0 0).f4)).f0) ((rd_T49 l0 ((rd_T49 l0 0).f4)).f1) ((rd_T49 l0 ((rd_T49 l0 0).f4)).f2) ((rd_T49 l0 ((rd_T49 l0 0).f4)).f3) ((rd_T49 l0 ((rd_T49 l0 0).f4)).f4) ((rd_T49 l0 ((rd_T49 l0 0).f4)).f5)).bind fun t314 => (if t314 = true then (larchref17_Root.j1 kj2 l0 true ((rd_T49 l0 ((rd_T49 l0 0).f4)).f0) ((rd_T49 l0 ((rd_T49 l0 0).f4)).f1) ((rd_T49 l0 ((rd_T49 l0 0).f4)).f2) ((rd_T49 l0 ((rd_T49 l0 0).f4)).f3) ((rd_T49 l0 ((rd_T49 l0 0).f4)).f4) ((rd_T49 l0 ((rd_T49 l0 0).f4)).f5)) else (if ((rd_T49 l0 ((rd_T49 l0 0).f4)).f1) = 1 then (if ((rd_T49 l0 ((rd_T49 l0 0).f4)).f2) = 1 then (if 0 ≤ ((rd_T49 l0 ((rd_T49 l0 0).f4)).f5) then (if ((rd_T49 l0 ((rd_T49 l0 0).f4)).f5) < (l0.length : Int) then ((larchref17_sentinel.f ((rd_T49 l0 ((rd_T49 l0 ((rd_T49 l0 0).f4)).f5)).f0) ((rd_T49 l0 ((rd_T49 l0 ((rd_T49 l0 0).f4)).f5)).f1) ((rd_T49 l0 ((rd_T49 l0 ((rd_T49 l0 0).f4)).f5)).f2) ((rd_T49 l0 ((rd_T49 l0 ((rd_T49 l0 0).f4)).f5)).f3) ((rd_T49 l0 ((rd_T49 l0 ((rd_T49 l0 0).f4)).f5)).f4) ((rd_T49 l0 ((rd_T49 l0 ((rd_T49 l0 0).f4)).f5)).f5)).bind fun t316 => (larchref17_Root.j1 kj2 l0 (!t316) ((rd_T49 l0 ((rd_T49 l0 0).f4)).f0) ((rd_T49 l0 ((rd_T49 l0 0).f4)).f1) ((rd_T49 l0 ((rd_T49 l0 0).f4)).f2) ((rd_T49 l0 ((rd_T49 l0 0).f4)).f3) ((rd_T49 l0 ((rd_T49 l0 0).f4)).f4) ((rd_T49 l0 ((rd_T49 l0 0).f4)).f5))) else (none)) else (none)) else (larchref17_Root.j1 kj2 l0 true ((rd_T49 l0 ((rd_T49 l0 0).f4)).f0) ((rd_T49 l0 ((rd_T49 l0 0).f4)).f1) ((rd_T49 l0 ((rd_T49 l0 0).f4)).f2) ((rd_T49 l0 ((rd_T49 l0 0).f4)).f3) ((rd_T49 l0 ((rd_T49 l0 0).f4)).f4) ((rd_T49 l0 ((rd_T49 l0 0).f4)).f5))) else (larchref17_Root.j1 kj2 l0 true ((rd_T49 l0 ((rd_T49 l0 0).f4)).f0) ((rd_T49 l0 ((rd_T49 l0 0).f4)).f1) ((rd_T49 l0 ((rd_T49 l0 0).f4)).f2) ((rd_T49 l0 ((rd_T49 l0 0).f4)).f3) ((rd_T49 l0 ((rd_T49 l0 0).f4)).f4) ((rd_T49 l0 ((rd_T49 l0 0).f4)).f5))))))) else (none)) else (none)) = some (r1, r2) := by rw [if_neg (show ¬ (false = true) by decide)] at H; exact H
     clear H
     have H := H1
     clear H1
     by_cases c26 : 0 ≤ ((rd_T49 l0 0).f4)
     ·
      rw [if_pos c26] at H
      have c26b0 : decide (0 ≤ ((rd_T49 l0 0).f4)) = true := decide_eq_true c26
      clear c26
      by_cases c27 : ((rd_T49 l0 0).f4) < (l0.length : Int)
      ·
       rw [if_pos c27] at H
       have c27b0 : decide (((rd_T49 l0 0).f4) < (l0.length : Int)) = true := decide_eq_true c27
       clear c27
       replace H := Option.bind_eq_some_iff.mp H
       obtain ⟨t311, A280, H⟩ := H
       replace H : (if t311 = true then (some ((-1), true)) else ((larchref17_leaf.f ((rd_T49 l0 ((rd_T49 l0 0).f4)).f0) ((rd_T49 l0 ((rd_T49 l0 0).f4)).f1) ((rd_T49 l0 ((rd_T49 l0 0).f4)).f2) ((rd_T49 l0 ((rd_T49 l0 0).f4)).f3) ((rd_T49 l0 ((rd_T49 l0 0).f4)).f4) ((rd_T49 l0 ((rd_T49 l0 0).f4)).f5)).bind fun t314 => (if t314 = true then (larchref17_Root.j1 kj2 l0 true ((rd_T49 l0 ((rd_T49 l0 0).f4)).f0) ((rd_T49 l0 ((rd_T49 l0 0).f4)).f1) ((rd_T49 l0 ((rd_T49 l0 0).f4)).f2) ((rd_T49 l0 ((rd_T49 l0 0).f4)).f3) ((rd_T49 l0 ((rd_T49 l0 0).f4)).f4) ((rd_T49 l0 ((rd_T49 l0 0).f4)).f5)) else (if ((rd_T49 l0 ((rd_T49 l0 0).f4)).f1) = 1 then (if ((rd_T49 l0 ((rd_T49 l0 0).f4)).f2) = 1 then (if 0 ≤ ((rd_T49 l0 ((rd_T49 l0 0).f4)).f5) then (if ((rd_T49 l0 ((rd_T49 l0 0).f4)).f5) < (l0.length : Int) then ((larchref17_sentinel.f ((rd_T49 l0 ((rd_T49 l0 ((rd_T49 l0 0).f4)).f5)).f0) ((rd_T49 l0 ((rd_T49 l0 ((rd_T49 l0 0).f4)).f5)).f1) ((rd_T49 l0 ((rd_T49 l0 ((rd_T49 l0 0).f4)).f5)).f2) ((rd_T49 l0 ((rd_T49 l0 ((rd_T49 l0 0).f4)).f5)).f3) ((rd_T49 l0 ((rd_T49 l0 ((rd_T49 l0 0).f4)).f5)).f4) ((rd_T49 l0 ((rd_T49 l0 ((rd_T49 l0 0).f4)).f5)).f5)).bind fun t316 => (larchref17_Root.j1 kj2 l0 (!t316) ((rd_T49 l0 ((rd_T49 l0 0).f4)).f0) ((rd_T49 l0 ((rd_T49 l0 0).f4)).f1) ((rd_T49 l0 ((rd_T49 l0 0).f4)).f2) ((rd_T49 l0 ((rd_T49 l0 0).f4)).f3) ((rd_T49 l0 ((rd_T49 l0 0).f4)).f4) ((rd_T49 l0 ((rd_T49 l0 0).f4)).f5))) else (none)) else (none)) else (larchref17_Root.j1 kj2 l0 true ((rd_T49 l0 ((rd_T49 l0 0).f4)).f0) ((rd_T49 l0 ((rd_T49 l0 0).f4)).f1) ((rd_T49 l0 ((rd_T49 l0 0).f4)).f2) ((rd_T49 l0 ((rd_T49 l0 0).f4)).f3) ((rd_T49 l0 ((rd_T49 l0 0).f4)).f4) ((rd_T49 l0 ((rd_T49 l0 0).f4)).f5))) else (larchref17_Root.j1 kj2 l0 true ((rd_T49 l0 ((rd_T49 l0 0).f4)).f0) ((rd_T49 l0 ((rd_T49 l0 0).f4)).f1) ((rd_T49 l0 ((rd_T49 l0 0).f4)).f2) ((rd_T49 l0 ((rd_T49 l0 0).f4)).f3) ((rd_T49 l0 ((rd_T49 l0 0).f4)).f4) ((rd_T49 l0 ((rd_T49 l0 0).f4)).f5)))))) = some (r1, r2) := H
       have A28 := Aside0.mk A280
       clear A280
       by_cases c29 : t311 = true
       ·
        subst c29
        have H1 : (some ((-1), true)) = some (r1, r2) := by rw [if_pos rfl] at H; exact H
        clear H
        have H := H1
        clear H1
        simp only [Option.some.injEq, Prod.mk.injEq] at H
        obtain ⟨rfl, rfl⟩ := H
        obtain ⟨hcz30_0, hcz30_1, hcz30_2, hcz30_3, hcz30_4, hcz30_5, hfz30_0, hfz30_1, hfz30_2, hfz30_3, hfz30_4, hfz30_5⟩ := bk6 BK306.out
        have p310 : 0 ≤ (((rd_T49 l0 0).f4) : Int) := dt
        have q310 : ((rd_T49 l0 0).f4) < (l0.length : Int) := dt
        obtain ⟨ad310, e310, hx310_0, hx310_1, hx310_2, hx310_3, hx310_4, hx310_5⟩ := at_T49 HR0.out ((rd_T49 l0 0).f4) p310 q310
        obtain rfl : ad305 = ad310 := (by injection e310)
        replace hx310_0 := skc HB.out hx310_0
        replace hx310_1 := skc HB.out hx310_1
        replace hx310_2 := skc HB.out hx310_2
        replace hx310_3 := skc HB.out hx310_3
        replace hx310_4 := skc HB.out hx310_4
        replace hx310_5 := skc HB.out hx310_5
        replace p310 := eq_true p310
        replace q310 := eq_true q310
        go_wp2_with (first | ((with_reducible refine gate_callee (f := 54) rfl ?_); refine goesL_ (some 37) rfl rfl Try.func54 (by kernel_rfl) rfl #[.agg #[.int .i64 ((rd_T49 l0 ((rd_T49 l0 0).f4)).f0), .int .i64 ((rd_T49 l0 ((rd_T49 l0 0).f4)).f1), .int .i64 ((rd_T49 l0 ((rd_T49 l0 0).f4)).f2), .int .i64 ((rd_T49 l0 ((rd_T49 l0 0).f4)).f3), .int .i64 ((rd_T49 l0 ((rd_T49 l0 0).f4)).f4), .int .i64 ((rd_T49 l0 ((rd_T49 l0 0).f4)).f5)]] rfl ags ?_; (with_reducible refine (larchref17_sentinel.calls ((rd_T49 l0 ((rd_T49 l0 0).f4)).f0) ((rd_T49 l0 ((rd_T49 l0 0).f4)).f1) ((rd_T49 l0 ((rd_T49 l0 0).f4)).f2) ((rd_T49 l0 ((rd_T49 l0 0).f4)).f3) ((rd_T49 l0 ((rd_T49 l0 0).f4)).f4) ((rd_T49 l0 ((rd_T49 l0 0).f4)).f5) true _ A28.out).mono ?_); rintro e w31 ⟨rfl, hb⟩; refine ⟨_, rfl, ?_⟩; have n0_ := Aside0.mk (blk_below (g := gb306) (o := .cells #[.int .i64 ((rd_T49 l0 0).f0), .int .i64 ((rd_T49 l0 0).f1), .int .i64 ((rd_T49 l0 0).f2), .int .i64 ((rd_T49 l0 0).f3), .int .i64 ((rd_T49 l0 0).f4), .int .i64 ((rd_T49 l0 0).f5)] 49 (0, 0)) (skK BK306.out) hb); have n1_ := Aside0.mk (below_step (by repeat (first | (with_reducible first | exact HB.out | apply below_alloc | apply pw_below_drewN | apply below_drew1 | refine below_set ?_ GE306.out) | exact HB.out)) hb); clear BK306; clear HB; have BK306 := n0_; have HB := n1_; clear n0_ n1_; (try clear hb); (try clear hb2); (try clear hk); (try clear hi)))
        go_ret2
        exact ⟨re, by repeat (first | (with_reducible first | exact HB.out | apply below_alloc | apply pw_below_drewN | apply below_drew1 | refine below_set ?_ GE306.out) | exact HB.out)⟩
       ·
        replace c29 := Bool.eq_false_iff.mpr c29
        subst c29
        have H1 : ((larchref17_leaf.f ((rd_T49 l0 ((rd_T49 l0 0).f4)).f0) ((rd_T49 l0 ((rd_T49 l0 0).f4)).f1) ((rd_T49 l0 ((rd_T49 l0 0).f4)).f2) ((rd_T49 l0 ((rd_T49 l0 0).f4)).f3) ((rd_T49 l0 ((rd_T49 l0 0).f4)).f4) ((rd_T49 l0 ((rd_T49 l0 0).f4)).f5)).bind fun t314 => (if t314 = true then (larchref17_Root.j1 kj2 l0 true ((rd_T49 l0 ((rd_T49 l0 0).f4)).f0) ((rd_T49 l0 ((rd_T49 l0 0).f4)).f1) ((rd_T49 l0 ((rd_T49 l0 0).f4)).f2) ((rd_T49 l0 ((rd_T49 l0 0).f4)).f3) ((rd_T49 l0 ((rd_T49 l0 0).f4)).f4) ((rd_T49 l0 ((rd_T49 l0 0).f4)).f5)) else (if ((rd_T49 l0 ((rd_T49 l0 0).f4)).f1) = 1 then (if ((rd_T49 l0 ((rd_T49 l0 0).f4)).f2) = 1 then (if 0 ≤ ((rd_T49 l0 ((rd_T49 l0 0).f4)).f5) then (if ((rd_T49 l0 ((rd_T49 l0 0).f4)).f5) < (l0.length : Int) then ((larchref17_sentinel.f ((rd_T49 l0 ((rd_T49 l0 ((rd_T49 l0 0).f4)).f5)).f0) ((rd_T49 l0 ((rd_T49 l0 ((rd_T49 l0 0).f4)).f5)).f1) ((rd_T49 l0 ((rd_T49 l0 ((rd_T49 l0 0).f4)).f5)).f2) ((rd_T49 l0 ((rd_T49 l0 ((rd_T49 l0 0).f4)).f5)).f3) ((rd_T49 l0 ((rd_T49 l0 ((rd_T49 l0 0).f4)).f5)).f4) ((rd_T49 l0 ((rd_T49 l0 ((rd_T49 l0 0).f4)).f5)).f5)).bind fun t316 => (larchref17_Root.j1 kj2 l0 (!t316) ((rd_T49 l0 ((rd_T49 l0 0).f4)).f0) ((rd_T49 l0 ((rd_T49 l0 0).f4)).f1) ((rd_T49 l0 ((rd_T49 l0 0).f4)).f2) ((rd_T49 l0 ((rd_T49 l0 0).f4)).f3) ((rd_T49 l0 ((rd_T49 l0 0).f4)).f4) ((rd_T49 l0 ((rd_T49 l0 0).f4)).f5))) else (none)) else (none)) else (larchref17_Root.j1 kj2 l0 true ((rd_T49 l0 ((rd_T49 l0 0).f4)).f0) ((rd_T49 l0 ((rd_T49 l0 0).f4)).f1) ((rd_T49 l0 ((rd_T49 l0 0).f4)).f2) ((rd_T49 l0 ((rd_T49 l0 0).f4)).f3) ((rd_T49 l0 ((rd_T49 l0 0).f4)).f4) ((rd_T49 l0 ((rd_T49 l0 0).f4)).f5))) else (larchref17_Root.j1 kj2 l0 true ((rd_T49 l0 ((rd_T49 l0 0).f4)).f0) ((rd_T49 l0 ((rd_T49 l0 0).f4)).f1) ((rd_T49 l0 ((rd_T49 l0 0).f4)).f2) ((rd_T49 l0 ((rd_T49 l0 0).f4)).f3) ((rd_T49 l0 ((rd_T49 l0 0).f4)).f4) ((rd_T49 l0 ((rd_T49 l0 0).f4)).f5))))) = some (r1, r2) := by rw [if_neg (show ¬ (false = true) by decide)] at H; exact H
        clear H
        have H := H1
        clear H1
        have HC32 := Aside0.mk H
        clear H
        obtain ⟨hcz33_0, hcz33_1, hcz33_2, hcz33_3, hcz33_4, hcz33_5, hfz33_0, hfz33_1, hfz33_2, hfz33_3, hfz33_4, hfz33_5⟩ := bk6 BK306.out
        have p310 : 0 ≤ (((rd_T49 l0 0).f4) : Int) := dt
        have q310 : ((rd_T49 l0 0).f4) < (l0.length : Int) := dt
        obtain ⟨ad310, e310, hx310_0, hx310_1, hx310_2, hx310_3, hx310_4, hx310_5⟩ := at_T49 HR0.out ((rd_T49 l0 0).f4) p310 q310
        obtain rfl : ad305 = ad310 := (by injection e310)
        replace hx310_0 := skc HB.out hx310_0
        replace hx310_1 := skc HB.out hx310_1
        replace hx310_2 := skc HB.out hx310_2
        replace hx310_3 := skc HB.out hx310_3
        replace hx310_4 := skc HB.out hx310_4
        replace hx310_5 := skc HB.out hx310_5
        replace p310 := eq_true p310
        replace q310 := eq_true q310
        go_upto_region 7 with (first | ((with_reducible refine gate_callee (f := 54) rfl ?_); refine goesL_ (some 37) rfl rfl Try.func54 (by kernel_rfl) rfl #[.agg #[.int .i64 ((rd_T49 l0 ((rd_T49 l0 0).f4)).f0), .int .i64 ((rd_T49 l0 ((rd_T49 l0 0).f4)).f1), .int .i64 ((rd_T49 l0 ((rd_T49 l0 0).f4)).f2), .int .i64 ((rd_T49 l0 ((rd_T49 l0 0).f4)).f3), .int .i64 ((rd_T49 l0 ((rd_T49 l0 0).f4)).f4), .int .i64 ((rd_T49 l0 ((rd_T49 l0 0).f4)).f5)]] rfl ags ?_; (with_reducible refine (larchref17_sentinel.calls ((rd_T49 l0 ((rd_T49 l0 0).f4)).f0) ((rd_T49 l0 ((rd_T49 l0 0).f4)).f1) ((rd_T49 l0 ((rd_T49 l0 0).f4)).f2) ((rd_T49 l0 ((rd_T49 l0 0).f4)).f3) ((rd_T49 l0 ((rd_T49 l0 0).f4)).f4) ((rd_T49 l0 ((rd_T49 l0 0).f4)).f5) false _ A28.out).mono ?_); rintro e w34 ⟨rfl, hb⟩; refine ⟨_, rfl, ?_⟩; have n0_ := Aside0.mk (blk_below (g := gb306) (o := .cells #[.int .i64 ((rd_T49 l0 0).f0), .int .i64 ((rd_T49 l0 0).f1), .int .i64 ((rd_T49 l0 0).f2), .int .i64 ((rd_T49 l0 0).f3), .int .i64 ((rd_T49 l0 0).f4), .int .i64 ((rd_T49 l0 0).f5)] 49 (0, 0)) (skK BK306.out) hb); have n1_ := Aside0.mk (below_step (by repeat (first | (with_reducible first | exact HB.out | apply below_alloc | apply pw_below_drewN | apply below_drew1 | refine below_set ?_ GE306.out) | exact HB.out)) hb); clear BK306; clear HB; have BK306 := n0_; have HB := n1_; clear n0_ n1_; (try clear hb); (try clear hb2); (try clear hk); (try clear hi); obtain ⟨hcz35_0, hcz35_1, hcz35_2, hcz35_3, hcz35_4, hcz35_5, hfz35_0, hfz35_1, hfz35_2, hfz35_3, hfz35_4, hfz35_5⟩ := bk6 BK306.out; have p312 : 0 ≤ (((rd_T49 l0 0).f4) : Int) := dt; have q312 : ((rd_T49 l0 0).f4) < (l0.length : Int) := dt; obtain ⟨ad312, e312, hx312_0, hx312_1, hx312_2, hx312_3, hx312_4, hx312_5⟩ := at_T49 HR0.out ((rd_T49 l0 0).f4) p312 q312; obtain rfl : ad305 = ad312 := (by injection e312); replace hx312_0 := skc HB.out hx312_0; replace hx312_1 := skc HB.out hx312_1; replace hx312_2 := skc HB.out hx312_2; replace hx312_3 := skc HB.out hx312_3; replace hx312_4 := skc HB.out hx312_4; replace hx312_5 := skc HB.out hx312_5; replace p312 := eq_true p312; replace q312 := eq_true q312) | ((with_reducible refine gate_dst (N := 5) rfl ?_); refine box_event ?hg (N := 5) ?hd (cs := #[.int .i64 0, .int .i64 0, .int .i64 0, .int .i64 0, .int .i64 0, .int .i64 0]) (t := 49) ?hr ?_; (case hd => rfl); (case hg => rfl); (case hr => first | (go_simp; done) | (go_simp; rfl)); intro gb313 hg w36 hbox hb; have n0_ := Aside0.mk (blk_below (g := gb306) (o := .cells #[.int .i64 ((rd_T49 l0 0).f0), .int .i64 ((rd_T49 l0 0).f1), .int .i64 ((rd_T49 l0 0).f2), .int .i64 ((rd_T49 l0 0).f3), .int .i64 ((rd_T49 l0 0).f4), .int .i64 ((rd_T49 l0 0).f5)] 49 (0, 0)) (skK BK306.out) hb); have n1_ := Aside0.mk (below_step (by repeat (first | (with_reducible first | exact HB.out | apply below_alloc | apply pw_below_drewN | apply below_drew1 | refine below_set ?_ GE306.out) | exact HB.out)) hb); have n2_ := Aside0.mk (hbox); have n3_ := Aside0.mk ((by rw [hg]; exact (below_size (by repeat (first | (with_reducible first | exact HB.out | apply below_alloc | apply pw_below_drewN | apply below_drew1 | refine below_set ?_ GE306.out) | exact HB.out))) : w.heap.size ≤ gb313)); have n4_ := Aside0.mk ((by rw [hg]; exact (below_size (by repeat (first | (with_reducible first | exact HB.out | apply below_alloc | apply pw_below_drewN | apply below_drew1 | refine below_set ?_ GE306.out) | exact HB.out))) : w.heap.size ≤ gb313)); have n5_ := Aside0.mk ((by rw [hg]; exact Nat.ne_of_lt (blk_lt (g := gb306) (o := .cells #[.int .i64 ((rd_T49 l0 0).f0), .int .i64 ((rd_T49 l0 0).f1), .int .i64 ((rd_T49 l0 0).f2), .int .i64 ((rd_T49 l0 0).f3), .int .i64 ((rd_T49 l0 0).f4), .int .i64 ((rd_T49 l0 0).f5)] 49 (0, 0)) (skK BK306.out)) : gb306 ≠ gb313)); have n6_ := Aside0.mk ((by rw [hg]; exact Nat.ne_of_gt (blk_lt (g := gb306) (o := .cells #[.int .i64 ((rd_T49 l0 0).f0), .int .i64 ((rd_T49 l0 0).f1), .int .i64 ((rd_T49 l0 0).f2), .int .i64 ((rd_T49 l0 0).f3), .int .i64 ((rd_T49 l0 0).f4), .int .i64 ((rd_T49 l0 0).f5)] 49 (0, 0)) (skK BK306.out)) : gb313 ≠ gb306)); clear BK306; clear HB; have BK306 := n0_; have HB := n1_; have BK313 := n2_; have GW313 := n3_; have GE313 := n4_; have NB306_313 := n5_; have NB313_306 := n6_; clear n0_ n1_ n2_ n3_ n4_ n5_ n6_; clear hb hbox hg; have hnb37 := NB313_306.out; have hnc37 := NB306_313.out; obtain ⟨hcz38_0, hcz38_1, hcz38_2, hcz38_3, hcz38_4, hcz38_5, hfz38_0, hfz38_1, hfz38_2, hfz38_3, hfz38_4, hfz38_5⟩ := bk6 BK313.out))
        (try simp only [Act.put, List.setIfInBounds_toArray, List.set_cons_zero, List.set_cons_succ])
        go_cut [63] (fun v63 wc => ∃ (kq : Nat) (x63_31 : Bool), v63 = .bool x63_31 ∧ Aside0 (larchref17_Root.j1 kq l0 x63_31 ((rd_T49 l0 ((rd_T49 l0 0).f4)).f0) ((rd_T49 l0 ((rd_T49 l0 0).f4)).f1) ((rd_T49 l0 ((rd_T49 l0 0).f4)).f2) ((rd_T49 l0 ((rd_T49 l0 0).f4)).f3) ((rd_T49 l0 ((rd_T49 l0 0).f4)).f4) ((rd_T49 l0 ((rd_T49 l0 0).f4)).f5) = some (r1, r2)) ∧ Aside0 (kq ≤ kj2) ∧ Aside0 (wc.heap[gb306]? = some (.cells #[.int .i64 ((rd_T49 l0 0).f0), .int .i64 ((rd_T49 l0 0).f1), .int .i64 ((rd_T49 l0 0).f2), .int .i64 ((rd_T49 l0 0).f3), .int .i64 ((rd_T49 l0 0).f4), .int .i64 ((rd_T49 l0 0).f5)] 49 (0, 0))) ∧ Aside0 (wc.heap[gb313]? = some (.cells #[.int .i64 ((rd_T49 l0 ((rd_T49 l0 0).f4)).f0), .int .i64 ((rd_T49 l0 ((rd_T49 l0 0).f4)).f1), .int .i64 ((rd_T49 l0 ((rd_T49 l0 0).f4)).f2), .int .i64 ((rd_T49 l0 ((rd_T49 l0 0).f4)).f3), .int .i64 ((rd_T49 l0 ((rd_T49 l0 0).f4)).f4), .int .i64 ((rd_T49 l0 ((rd_T49 l0 0).f4)).f5)] 49 (0, 0))) ∧ Aside0 (Below w.heap.size w wc))
        case first =>
         have H := HC32.out
         clear HC32
         replace H := Option.bind_eq_some_iff.mp H
         obtain ⟨t314, A390, H⟩ := H
         replace H : (if t314 = true then (larchref17_Root.j1 kj2 l0 true ((rd_T49 l0 ((rd_T49 l0 0).f4)).f0) ((rd_T49 l0 ((rd_T49 l0 0).f4)).f1) ((rd_T49 l0 ((rd_T49 l0 0).f4)).f2) ((rd_T49 l0 ((rd_T49 l0 0).f4)).f3) ((rd_T49 l0 ((rd_T49 l0 0).f4)).f4) ((rd_T49 l0 ((rd_T49 l0 0).f4)).f5)) else (if ((rd_T49 l0 ((rd_T49 l0 0).f4)).f1) = 1 then (if ((rd_T49 l0 ((rd_T49 l0 0).f4)).f2) = 1 then (if 0 ≤ ((rd_T49 l0 ((rd_T49 l0 0).f4)).f5) then (if ((rd_T49 l0 ((rd_T49 l0 0).f4)).f5) < (l0.length : Int) then ((larchref17_sentinel.f ((rd_T49 l0 ((rd_T49 l0 ((rd_T49 l0 0).f4)).f5)).f0) ((rd_T49 l0 ((rd_T49 l0 ((rd_T49 l0 0).f4)).f5)).f1) ((rd_T49 l0 ((rd_T49 l0 ((rd_T49 l0 0).f4)).f5)).f2) ((rd_T49 l0 ((rd_T49 l0 ((rd_T49 l0 0).f4)).f5)).f3) ((rd_T49 l0 ((rd_T49 l0 ((rd_T49 l0 0).f4)).f5)).f4) ((rd_T49 l0 ((rd_T49 l0 ((rd_T49 l0 0).f4)).f5)).f5)).bind fun t316 => (larchref17_Root.j1 kj2 l0 (!t316) ((rd_T49 l0 ((rd_T49 l0 0).f4)).f0) ((rd_T49 l0 ((rd_T49 l0 0).f4)).f1) ((rd_T49 l0 ((rd_T49 l0 0).f4)).f2) ((rd_T49 l0 ((rd_T49 l0 0).f4)).f3) ((rd_T49 l0 ((rd_T49 l0 0).f4)).f4) ((rd_T49 l0 ((rd_T49 l0 0).f4)).f5))) else (none)) else (none)) else (larchref17_Root.j1 kj2 l0 true ((rd_T49 l0 ((rd_T49 l0 0).f4)).f0) ((rd_T49 l0 ((rd_T49 l0 0).f4)).f1) ((rd_T49 l0 ((rd_T49 l0 0).f4)).f2) ((rd_T49 l0 ((rd_T49 l0 0).f4)).f3) ((rd_T49 l0 ((rd_T49 l0 0).f4)).f4) ((rd_T49 l0 ((rd_T49 l0 0).f4)).f5))) else (larchref17_Root.j1 kj2 l0 true ((rd_T49 l0 ((rd_T49 l0 0).f4)).f0) ((rd_T49 l0 ((rd_T49 l0 0).f4)).f1) ((rd_T49 l0 ((rd_T49 l0 0).f4)).f2) ((rd_T49 l0 ((rd_T49 l0 0).f4)).f3) ((rd_T49 l0 ((rd_T49 l0 0).f4)).f4) ((rd_T49 l0 ((rd_T49 l0 0).f4)).f5)))) = some (r1, r2) := H
         have A39 := Aside0.mk A390
         clear A390
         by_cases c40 : t314 = true
         ·
          subst c40
          have H1 : (larchref17_Root.j1 kj2 l0 true ((rd_T49 l0 ((rd_T49 l0 0).f4)).f0) ((rd_T49 l0 ((rd_T49 l0 0).f4)).f1) ((rd_T49 l0 ((rd_T49 l0 0).f4)).f2) ((rd_T49 l0 ((rd_T49 l0 0).f4)).f3) ((rd_T49 l0 ((rd_T49 l0 0).f4)).f4) ((rd_T49 l0 ((rd_T49 l0 0).f4)).f5)) = some (r1, r2) := by rw [if_pos rfl] at H; exact H
          clear H
          have H := H1
          clear H1
          have H' := Aside0.mk H
          clear H
          have hnb41 := NB313_306.out
          have hnc41 := NB306_313.out
          obtain ⟨hcz42_0, hcz42_1, hcz42_2, hcz42_3, hcz42_4, hcz42_5, hfz42_0, hfz42_1, hfz42_2, hfz42_3, hfz42_4, hfz42_5⟩ := bk6 BK313.out
          go_wp2_with (first | ((with_reducible refine gate_callee (f := 53) rfl ?_); refine goesL_ (some 44) rfl rfl Try.func53 (by kernel_rfl) rfl #[.agg #[.int .i64 ((rd_T49 l0 ((rd_T49 l0 0).f4)).f0), .int .i64 ((rd_T49 l0 ((rd_T49 l0 0).f4)).f1), .int .i64 ((rd_T49 l0 ((rd_T49 l0 0).f4)).f2), .int .i64 ((rd_T49 l0 ((rd_T49 l0 0).f4)).f3), .int .i64 ((rd_T49 l0 ((rd_T49 l0 0).f4)).f4), .int .i64 ((rd_T49 l0 ((rd_T49 l0 0).f4)).f5)]] rfl ags ?_; (with_reducible refine (larchref17_leaf.calls ((rd_T49 l0 ((rd_T49 l0 0).f4)).f0) ((rd_T49 l0 ((rd_T49 l0 0).f4)).f1) ((rd_T49 l0 ((rd_T49 l0 0).f4)).f2) ((rd_T49 l0 ((rd_T49 l0 0).f4)).f3) ((rd_T49 l0 ((rd_T49 l0 0).f4)).f4) ((rd_T49 l0 ((rd_T49 l0 0).f4)).f5) true _ A39.out).mono ?_); rintro e w43 ⟨rfl, hb⟩; refine ⟨_, rfl, ?_⟩; have n0_ := Aside0.mk (blk_below (g := gb306) (o := .cells #[.int .i64 ((rd_T49 l0 0).f0), .int .i64 ((rd_T49 l0 0).f1), .int .i64 ((rd_T49 l0 0).f2), .int .i64 ((rd_T49 l0 0).f3), .int .i64 ((rd_T49 l0 0).f4), .int .i64 ((rd_T49 l0 0).f5)] 49 (0, 0)) (by refine skk ?_; refine blk_far ?_ NB306_313.out _; refine skk ?_; refine blk_far ?_ NB306_313.out _; refine skk ?_; refine blk_far ?_ NB306_313.out _; refine skk ?_; refine blk_far ?_ NB306_313.out _; refine skk ?_; refine blk_far ?_ NB306_313.out _; refine skk ?_; refine blk_far ?_ NB306_313.out _; refine skk ?_; exact BK306.out) hb); have n1_ := Aside0.mk (blk_below (g := gb313) (o := .cells #[.int .i64 ((rd_T49 l0 ((rd_T49 l0 0).f4)).f0), .int .i64 ((rd_T49 l0 ((rd_T49 l0 0).f4)).f1), .int .i64 ((rd_T49 l0 ((rd_T49 l0 0).f4)).f2), .int .i64 ((rd_T49 l0 ((rd_T49 l0 0).f4)).f3), .int .i64 ((rd_T49 l0 ((rd_T49 l0 0).f4)).f4), .int .i64 ((rd_T49 l0 ((rd_T49 l0 0).f4)).f5)] 49 (0, 0)) (by refine skk ?_; refine blk_put (cs := #[.int .i64 ((rd_T49 l0 ((rd_T49 l0 0).f4)).f0), .int .i64 ((rd_T49 l0 ((rd_T49 l0 0).f4)).f1), .int .i64 ((rd_T49 l0 ((rd_T49 l0 0).f4)).f2), .int .i64 ((rd_T49 l0 ((rd_T49 l0 0).f4)).f3), .int .i64 ((rd_T49 l0 ((rd_T49 l0 0).f4)).f4), .int .i64 0]) ?_ 5 _ rfl; refine skk ?_; refine blk_put (cs := #[.int .i64 ((rd_T49 l0 ((rd_T49 l0 0).f4)).f0), .int .i64 ((rd_T49 l0 ((rd_T49 l0 0).f4)).f1), .int .i64 ((rd_T49 l0 ((rd_T49 l0 0).f4)).f2), .int .i64 ((rd_T49 l0 ((rd_T49 l0 0).f4)).f3), .int .i64 0, .int .i64 0]) ?_ 4 _ rfl; refine skk ?_; refine blk_put (cs := #[.int .i64 ((rd_T49 l0 ((rd_T49 l0 0).f4)).f0), .int .i64 ((rd_T49 l0 ((rd_T49 l0 0).f4)).f1), .int .i64 ((rd_T49 l0 ((rd_T49 l0 0).f4)).f2), .int .i64 0, .int .i64 0, .int .i64 0]) ?_ 3 _ rfl; refine skk ?_; refine blk_put (cs := #[.int .i64 ((rd_T49 l0 ((rd_T49 l0 0).f4)).f0), .int .i64 ((rd_T49 l0 ((rd_T49 l0 0).f4)).f1), .int .i64 0, .int .i64 0, .int .i64 0, .int .i64 0]) ?_ 2 _ rfl; refine skk ?_; refine blk_put (cs := #[.int .i64 ((rd_T49 l0 ((rd_T49 l0 0).f4)).f0), .int .i64 0, .int .i64 0, .int .i64 0, .int .i64 0, .int .i64 0]) ?_ 1 _ rfl; refine skk ?_; refine blk_put (cs := #[.int .i64 0, .int .i64 0, .int .i64 0, .int .i64 0, .int .i64 0, .int .i64 0]) ?_ 0 _ rfl; refine skk ?_; exact BK313.out) hb); have n2_ := Aside0.mk (below_step (by repeat (first | (with_reducible first | exact HB.out | apply below_alloc | apply pw_below_drewN | apply below_drew1 | refine below_set ?_ GE306.out | refine below_set ?_ GE313.out) | exact HB.out)) hb); clear BK306; clear BK313; clear HB; have BK306 := n0_; have BK313 := n1_; have HB := n2_; clear n0_ n1_ n2_; (try clear hb); (try clear hb2); (try clear hk); (try clear hi)))
          go_meet
          case rel => exact ⟨_, (true), rs, H', ⟨by have := HJ2.out; first | omega | exact Nat.le_refl _⟩, ⟨skK BK306.out⟩, ⟨skK BK313.out⟩, ⟨by repeat (first | (with_reducible first | exact HB.out | apply below_alloc | apply pw_below_drewN | apply below_drew1 | refine below_set ?_ GE306.out | refine below_set ?_ GE313.out) | exact HB.out)⟩⟩
         ·
          replace c40 := Bool.eq_false_iff.mpr c40
          subst c40
          have H1 : (if ((rd_T49 l0 ((rd_T49 l0 0).f4)).f1) = 1 then (if ((rd_T49 l0 ((rd_T49 l0 0).f4)).f2) = 1 then (if 0 ≤ ((rd_T49 l0 ((rd_T49 l0 0).f4)).f5) then (if ((rd_T49 l0 ((rd_T49 l0 0).f4)).f5) < (l0.length : Int) then ((larchref17_sentinel.f ((rd_T49 l0 ((rd_T49 l0 ((rd_T49 l0 0).f4)).f5)).f0) ((rd_T49 l0 ((rd_T49 l0 ((rd_T49 l0 0).f4)).f5)).f1) ((rd_T49 l0 ((rd_T49 l0 ((rd_T49 l0 0).f4)).f5)).f2) ((rd_T49 l0 ((rd_T49 l0 ((rd_T49 l0 0).f4)).f5)).f3) ((rd_T49 l0 ((rd_T49 l0 ((rd_T49 l0 0).f4)).f5)).f4) ((rd_T49 l0 ((rd_T49 l0 ((rd_T49 l0 0).f4)).f5)).f5)).bind fun t316 => (larchref17_Root.j1 kj2 l0 (!t316) ((rd_T49 l0 ((rd_T49 l0 0).f4)).f0) ((rd_T49 l0 ((rd_T49 l0 0).f4)).f1) ((rd_T49 l0 ((rd_T49 l0 0).f4)).f2) ((rd_T49 l0 ((rd_T49 l0 0).f4)).f3) ((rd_T49 l0 ((rd_T49 l0 0).f4)).f4) ((rd_T49 l0 ((rd_T49 l0 0).f4)).f5))) else (none)) else (none)) else (larchref17_Root.j1 kj2 l0 true ((rd_T49 l0 ((rd_T49 l0 0).f4)).f0) ((rd_T49 l0 ((rd_T49 l0 0).f4)).f1) ((rd_T49 l0 ((rd_T49 l0 0).f4)).f2) ((rd_T49 l0 ((rd_T49 l0 0).f4)).f3) ((rd_T49 l0 ((rd_T49 l0 0).f4)).f4) ((rd_T49 l0 ((rd_T49 l0 0).f4)).f5))) else (larchref17_Root.j1 kj2 l0 true ((rd_T49 l0 ((rd_T49 l0 0).f4)).f0) ((rd_T49 l0 ((rd_T49 l0 0).f4)).f1) ((rd_T49 l0 ((rd_T49 l0 0).f4)).f2) ((rd_T49 l0 ((rd_T49 l0 0).f4)).f3) ((rd_T49 l0 ((rd_T49 l0 0).f4)).f4) ((rd_T49 l0 ((rd_T49 l0 0).f4)).f5))) = some (r1, r2) := by rw [if_neg (show ¬ (false = true) by decide)] at H; exact H
          clear H
          have H := H1
          clear H1
          by_cases c44 : ((rd_T49 l0 ((rd_T49 l0 0).f4)).f1) = 1
          ·
           rw [if_pos c44] at H
           have c44b0 : (((rd_T49 l0 ((rd_T49 l0 0).f4)).f1) == 1) = true := beq_iff_eq.mpr c44
           have c44b1 : (((rd_T49 l0 ((rd_T49 l0 0).f4)).f1) != 1) = false := bne_eq_false_iff_eq.mpr c44
           clear c44
           (first | rw [c44b0] | (simp only [i64_w, i32_w]; rw [c44b0]) | skip)
           by_cases c45 : ((rd_T49 l0 ((rd_T49 l0 0).f4)).f2) = 1
           ·
            rw [if_pos c45] at H
            have c45b0 : (((rd_T49 l0 ((rd_T49 l0 0).f4)).f2) == 1) = true := beq_iff_eq.mpr c45
            have c45b1 : (((rd_T49 l0 ((rd_T49 l0 0).f4)).f2) != 1) = false := bne_eq_false_iff_eq.mpr c45
            clear c45
            by_cases c46 : 0 ≤ ((rd_T49 l0 ((rd_T49 l0 0).f4)).f5)
            ·
             rw [if_pos c46] at H
             have c46b0 : decide (0 ≤ ((rd_T49 l0 ((rd_T49 l0 0).f4)).f5)) = true := decide_eq_true c46
             clear c46
             by_cases c47 : ((rd_T49 l0 ((rd_T49 l0 0).f4)).f5) < (l0.length : Int)
             ·
              rw [if_pos c47] at H
              have c47b0 : decide (((rd_T49 l0 ((rd_T49 l0 0).f4)).f5) < (l0.length : Int)) = true := decide_eq_true c47
              clear c47
              replace H := Option.bind_eq_some_iff.mp H
              obtain ⟨t316, A480, H⟩ := H
              replace H : (larchref17_Root.j1 kj2 l0 (!t316) ((rd_T49 l0 ((rd_T49 l0 0).f4)).f0) ((rd_T49 l0 ((rd_T49 l0 0).f4)).f1) ((rd_T49 l0 ((rd_T49 l0 0).f4)).f2) ((rd_T49 l0 ((rd_T49 l0 0).f4)).f3) ((rd_T49 l0 ((rd_T49 l0 0).f4)).f4) ((rd_T49 l0 ((rd_T49 l0 0).f4)).f5)) = some (r1, r2) := H
              have A48 := Aside0.mk A480
              clear A480
              have H' := Aside0.mk H
              clear H
              have hnb49 := NB313_306.out
              have hnc49 := NB306_313.out
              obtain ⟨hcz50_0, hcz50_1, hcz50_2, hcz50_3, hcz50_4, hcz50_5, hfz50_0, hfz50_1, hfz50_2, hfz50_3, hfz50_4, hfz50_5⟩ := bk6 BK313.out
              go_wp2_with (first | ((with_reducible refine gate_callee (f := 53) rfl ?_); refine goesL_ (some 44) rfl rfl Try.func53 (by kernel_rfl) rfl #[.agg #[.int .i64 ((rd_T49 l0 ((rd_T49 l0 0).f4)).f0), .int .i64 ((rd_T49 l0 ((rd_T49 l0 0).f4)).f1), .int .i64 ((rd_T49 l0 ((rd_T49 l0 0).f4)).f2), .int .i64 ((rd_T49 l0 ((rd_T49 l0 0).f4)).f3), .int .i64 ((rd_T49 l0 ((rd_T49 l0 0).f4)).f4), .int .i64 ((rd_T49 l0 ((rd_T49 l0 0).f4)).f5)]] rfl ags ?_; (with_reducible refine (larchref17_leaf.calls ((rd_T49 l0 ((rd_T49 l0 0).f4)).f0) ((rd_T49 l0 ((rd_T49 l0 0).f4)).f1) ((rd_T49 l0 ((rd_T49 l0 0).f4)).f2) ((rd_T49 l0 ((rd_T49 l0 0).f4)).f3) ((rd_T49 l0 ((rd_T49 l0 0).f4)).f4) ((rd_T49 l0 ((rd_T49 l0 0).f4)).f5) false _ A39.out).mono ?_); rintro e w51 ⟨rfl, hb⟩; refine ⟨_, rfl, ?_⟩; have n0_ := Aside0.mk (blk_below (g := gb306) (o := .cells #[.int .i64 ((rd_T49 l0 0).f0), .int .i64 ((rd_T49 l0 0).f1), .int .i64 ((rd_T49 l0 0).f2), .int .i64 ((rd_T49 l0 0).f3), .int .i64 ((rd_T49 l0 0).f4), .int .i64 ((rd_T49 l0 0).f5)] 49 (0, 0)) (by refine skk ?_; refine blk_far ?_ NB306_313.out _; refine skk ?_; refine blk_far ?_ NB306_313.out _; refine skk ?_; refine blk_far ?_ NB306_313.out _; refine skk ?_; refine blk_far ?_ NB306_313.out _; refine skk ?_; refine blk_far ?_ NB306_313.out _; refine skk ?_; refine blk_far ?_ NB306_313.out _; refine skk ?_; exact BK306.out) hb); have n1_ := Aside0.mk (blk_below (g := gb313) (o := .cells #[.int .i64 ((rd_T49 l0 ((rd_T49 l0 0).f4)).f0), .int .i64 ((rd_T49 l0 ((rd_T49 l0 0).f4)).f1), .int .i64 ((rd_T49 l0 ((rd_T49 l0 0).f4)).f2), .int .i64 ((rd_T49 l0 ((rd_T49 l0 0).f4)).f3), .int .i64 ((rd_T49 l0 ((rd_T49 l0 0).f4)).f4), .int .i64 ((rd_T49 l0 ((rd_T49 l0 0).f4)).f5)] 49 (0, 0)) (by refine skk ?_; refine blk_put (cs := #[.int .i64 ((rd_T49 l0 ((rd_T49 l0 0).f4)).f0), .int .i64 ((rd_T49 l0 ((rd_T49 l0 0).f4)).f1), .int .i64 ((rd_T49 l0 ((rd_T49 l0 0).f4)).f2), .int .i64 ((rd_T49 l0 ((rd_T49 l0 0).f4)).f3), .int .i64 ((rd_T49 l0 ((rd_T49 l0 0).f4)).f4), .int .i64 0]) ?_ 5 _ rfl; refine skk ?_; refine blk_put (cs := #[.int .i64 ((rd_T49 l0 ((rd_T49 l0 0).f4)).f0), .int .i64 ((rd_T49 l0 ((rd_T49 l0 0).f4)).f1), .int .i64 ((rd_T49 l0 ((rd_T49 l0 0).f4)).f2), .int .i64 ((rd_T49 l0 ((rd_T49 l0 0).f4)).f3), .int .i64 0, .int .i64 0]) ?_ 4 _ rfl; refine skk ?_; refine blk_put (cs := #[.int .i64 ((rd_T49 l0 ((rd_T49 l0 0).f4)).f0), .int .i64 ((rd_T49 l0 ((rd_T49 l0 0).f4)).f1), .int .i64 ((rd_T49 l0 ((rd_T49 l0 0).f4)).f2), .int .i64 0, .int .i64 0, .int .i64 0]) ?_ 3 _ rfl; refine skk ?_; refine blk_put (cs := #[.int .i64 ((rd_T49 l0 ((rd_T49 l0 0).f4)).f0), .int .i64 ((rd_T49 l0 ((rd_T49 l0 0).f4)).f1), .int .i64 0, .int .i64 0, .int .i64 0, .int .i64 0]) ?_ 2 _ rfl; refine skk ?_; refine blk_put (cs := #[.int .i64 ((rd_T49 l0 ((rd_T49 l0 0).f4)).f0), .int .i64 0, .int .i64 0, .int .i64 0, .int .i64 0, .int .i64 0]) ?_ 1 _ rfl; refine skk ?_; refine blk_put (cs := #[.int .i64 0, .int .i64 0, .int .i64 0, .int .i64 0, .int .i64 0, .int .i64 0]) ?_ 0 _ rfl; refine skk ?_; exact BK313.out) hb); have n2_ := Aside0.mk (below_step (by repeat (first | (with_reducible first | exact HB.out | apply below_alloc | apply pw_below_drewN | apply below_drew1 | refine below_set ?_ GE306.out | refine below_set ?_ GE313.out) | exact HB.out)) hb); clear BK306; clear BK313; clear HB; have BK306 := n0_; have BK313 := n1_; have HB := n2_; clear n0_ n1_ n2_; (try clear hb); (try clear hb2); (try clear hk); (try clear hi); obtain ⟨hcz52_0, hcz52_1, hcz52_2, hcz52_3, hcz52_4, hcz52_5, hfz52_0, hfz52_1, hfz52_2, hfz52_3, hfz52_4, hfz52_5⟩ := bk6 BK313.out; have p315 : 0 ≤ (((rd_T49 l0 ((rd_T49 l0 0).f4)).f5) : Int) := dt; have q315 : ((rd_T49 l0 ((rd_T49 l0 0).f4)).f5) < (l0.length : Int) := dt; obtain ⟨ad315, e315, hx315_0, hx315_1, hx315_2, hx315_3, hx315_4, hx315_5⟩ := at_T49 HR0.out ((rd_T49 l0 ((rd_T49 l0 0).f4)).f5) p315 q315; obtain rfl : ad305 = ad315 := (by injection e315); replace hx315_0 := skc HB.out hx315_0; replace hx315_1 := skc HB.out hx315_1; replace hx315_2 := skc HB.out hx315_2; replace hx315_3 := skc HB.out hx315_3; replace hx315_4 := skc HB.out hx315_4; replace hx315_5 := skc HB.out hx315_5; replace p315 := eq_true p315; replace q315 := eq_true q315) | (go_at_call 54; (with_reducible refine (larchref17_sentinel.calls ((rd_T49 l0 ((rd_T49 l0 ((rd_T49 l0 0).f4)).f5)).f0) ((rd_T49 l0 ((rd_T49 l0 ((rd_T49 l0 0).f4)).f5)).f1) ((rd_T49 l0 ((rd_T49 l0 ((rd_T49 l0 0).f4)).f5)).f2) ((rd_T49 l0 ((rd_T49 l0 ((rd_T49 l0 0).f4)).f5)).f3) ((rd_T49 l0 ((rd_T49 l0 ((rd_T49 l0 0).f4)).f5)).f4) ((rd_T49 l0 ((rd_T49 l0 ((rd_T49 l0 0).f4)).f5)).f5) t316 _ A48.out).mono ?_); rintro e w53 ⟨rfl, hb⟩; have n0_ := Aside0.mk (blk_below (g := gb306) (o := .cells #[.int .i64 ((rd_T49 l0 0).f0), .int .i64 ((rd_T49 l0 0).f1), .int .i64 ((rd_T49 l0 0).f2), .int .i64 ((rd_T49 l0 0).f3), .int .i64 ((rd_T49 l0 0).f4), .int .i64 ((rd_T49 l0 0).f5)] 49 (0, 0)) (skK BK306.out) hb); have n1_ := Aside0.mk (blk_below (g := gb313) (o := .cells #[.int .i64 ((rd_T49 l0 ((rd_T49 l0 0).f4)).f0), .int .i64 ((rd_T49 l0 ((rd_T49 l0 0).f4)).f1), .int .i64 ((rd_T49 l0 ((rd_T49 l0 0).f4)).f2), .int .i64 ((rd_T49 l0 ((rd_T49 l0 0).f4)).f3), .int .i64 ((rd_T49 l0 ((rd_T49 l0 0).f4)).f4), .int .i64 ((rd_T49 l0 ((rd_T49 l0 0).f4)).f5)] 49 (0, 0)) (skK BK313.out) hb); have n2_ := Aside0.mk (below_step (by repeat (first | (with_reducible first | exact HB.out | apply below_alloc | apply pw_below_drewN | apply below_drew1 | refine below_set ?_ GE306.out | refine below_set ?_ GE313.out) | exact HB.out)) hb); clear BK306; clear BK313; clear HB; have BK306 := n0_; have BK313 := n1_; have HB := n2_; clear n0_ n1_ n2_; (try clear hb); (try clear hb2); (try clear hk); (try clear hi)))
              go_meet
              case rel => exact ⟨_, (!t316), rs, H', ⟨by have := HJ2.out; first | omega | exact Nat.le_refl _⟩, ⟨skK BK306.out⟩, ⟨skK BK313.out⟩, ⟨by repeat (first | (with_reducible first | exact HB.out | apply below_alloc | apply pw_below_drewN | apply below_drew1 | refine below_set ?_ GE306.out | refine below_set ?_ GE313.out) | exact HB.out)⟩⟩
             ·
              rw [if_neg c47] at H
              exact absurd H (by simp)
            ·
             rw [if_neg c46] at H
             exact absurd H (by simp)
           ·
            rw [if_neg c45] at H
            have c45b0 : (((rd_T49 l0 ((rd_T49 l0 0).f4)).f2) == 1) = false := beq_eq_false_iff_ne.mpr c45
            have c45b1 : (((rd_T49 l0 ((rd_T49 l0 0).f4)).f2) != 1) = true := bne_iff_ne.mpr c45
            have H' := Aside0.mk H
            clear H
            have hnb54 := NB313_306.out
            have hnc54 := NB306_313.out
            obtain ⟨hcz55_0, hcz55_1, hcz55_2, hcz55_3, hcz55_4, hcz55_5, hfz55_0, hfz55_1, hfz55_2, hfz55_3, hfz55_4, hfz55_5⟩ := bk6 BK313.out
            go_wp2_with (first | ((with_reducible refine gate_callee (f := 53) rfl ?_); refine goesL_ (some 44) rfl rfl Try.func53 (by kernel_rfl) rfl #[.agg #[.int .i64 ((rd_T49 l0 ((rd_T49 l0 0).f4)).f0), .int .i64 ((rd_T49 l0 ((rd_T49 l0 0).f4)).f1), .int .i64 ((rd_T49 l0 ((rd_T49 l0 0).f4)).f2), .int .i64 ((rd_T49 l0 ((rd_T49 l0 0).f4)).f3), .int .i64 ((rd_T49 l0 ((rd_T49 l0 0).f4)).f4), .int .i64 ((rd_T49 l0 ((rd_T49 l0 0).f4)).f5)]] rfl ags ?_; (with_reducible refine (larchref17_leaf.calls ((rd_T49 l0 ((rd_T49 l0 0).f4)).f0) ((rd_T49 l0 ((rd_T49 l0 0).f4)).f1) ((rd_T49 l0 ((rd_T49 l0 0).f4)).f2) ((rd_T49 l0 ((rd_T49 l0 0).f4)).f3) ((rd_T49 l0 ((rd_T49 l0 0).f4)).f4) ((rd_T49 l0 ((rd_T49 l0 0).f4)).f5) false _ A39.out).mono ?_); rintro e w56 ⟨rfl, hb⟩; refine ⟨_, rfl, ?_⟩; have n0_ := Aside0.mk (blk_below (g := gb306) (o := .cells #[.int .i64 ((rd_T49 l0 0).f0), .int .i64 ((rd_T49 l0 0).f1), .int .i64 ((rd_T49 l0 0).f2), .int .i64 ((rd_T49 l0 0).f3), .int .i64 ((rd_T49 l0 0).f4), .int .i64 ((rd_T49 l0 0).f5)] 49 (0, 0)) (by refine skk ?_; refine blk_far ?_ NB306_313.out _; refine skk ?_; refine blk_far ?_ NB306_313.out _; refine skk ?_; refine blk_far ?_ NB306_313.out _; refine skk ?_; refine blk_far ?_ NB306_313.out _; refine skk ?_; refine blk_far ?_ NB306_313.out _; refine skk ?_; refine blk_far ?_ NB306_313.out _; refine skk ?_; exact BK306.out) hb); have n1_ := Aside0.mk (blk_below (g := gb313) (o := .cells #[.int .i64 ((rd_T49 l0 ((rd_T49 l0 0).f4)).f0), .int .i64 ((rd_T49 l0 ((rd_T49 l0 0).f4)).f1), .int .i64 ((rd_T49 l0 ((rd_T49 l0 0).f4)).f2), .int .i64 ((rd_T49 l0 ((rd_T49 l0 0).f4)).f3), .int .i64 ((rd_T49 l0 ((rd_T49 l0 0).f4)).f4), .int .i64 ((rd_T49 l0 ((rd_T49 l0 0).f4)).f5)] 49 (0, 0)) (by refine skk ?_; refine blk_put (cs := #[.int .i64 ((rd_T49 l0 ((rd_T49 l0 0).f4)).f0), .int .i64 ((rd_T49 l0 ((rd_T49 l0 0).f4)).f1), .int .i64 ((rd_T49 l0 ((rd_T49 l0 0).f4)).f2), .int .i64 ((rd_T49 l0 ((rd_T49 l0 0).f4)).f3), .int .i64 ((rd_T49 l0 ((rd_T49 l0 0).f4)).f4), .int .i64 0]) ?_ 5 _ rfl; refine skk ?_; refine blk_put (cs := #[.int .i64 ((rd_T49 l0 ((rd_T49 l0 0).f4)).f0), .int .i64 ((rd_T49 l0 ((rd_T49 l0 0).f4)).f1), .int .i64 ((rd_T49 l0 ((rd_T49 l0 0).f4)).f2), .int .i64 ((rd_T49 l0 ((rd_T49 l0 0).f4)).f3), .int .i64 0, .int .i64 0]) ?_ 4 _ rfl; refine skk ?_; refine blk_put (cs := #[.int .i64 ((rd_T49 l0 ((rd_T49 l0 0).f4)).f0), .int .i64 ((rd_T49 l0 ((rd_T49 l0 0).f4)).f1), .int .i64 ((rd_T49 l0 ((rd_T49 l0 0).f4)).f2), .int .i64 0, .int .i64 0, .int .i64 0]) ?_ 3 _ rfl; refine skk ?_; refine blk_put (cs := #[.int .i64 ((rd_T49 l0 ((rd_T49 l0 0).f4)).f0), .int .i64 ((rd_T49 l0 ((rd_T49 l0 0).f4)).f1), .int .i64 0, .int .i64 0, .int .i64 0, .int .i64 0]) ?_ 2 _ rfl; refine skk ?_; refine blk_put (cs := #[.int .i64 ((rd_T49 l0 ((rd_T49 l0 0).f4)).f0), .int .i64 0, .int .i64 0, .int .i64 0, .int .i64 0, .int .i64 0]) ?_ 1 _ rfl; refine skk ?_; refine blk_put (cs := #[.int .i64 0, .int .i64 0, .int .i64 0, .int .i64 0, .int .i64 0, .int .i64 0]) ?_ 0 _ rfl; refine skk ?_; exact BK313.out) hb); have n2_ := Aside0.mk (below_step (by repeat (first | (with_reducible first | exact HB.out | apply below_alloc | apply pw_below_drewN | apply below_drew1 | refine below_set ?_ GE306.out | refine below_set ?_ GE313.out) | exact HB.out)) hb); clear BK306; clear BK313; clear HB; have BK306 := n0_; have BK313 := n1_; have HB := n2_; clear n0_ n1_ n2_; (try clear hb); (try clear hb2); (try clear hk); (try clear hi); obtain ⟨hcz57_0, hcz57_1, hcz57_2, hcz57_3, hcz57_4, hcz57_5, hfz57_0, hfz57_1, hfz57_2, hfz57_3, hfz57_4, hfz57_5⟩ := bk6 BK313.out))
            go_meet
            case rel => exact ⟨_, (true), rs, H', ⟨by have := HJ2.out; first | omega | exact Nat.le_refl _⟩, ⟨skK BK306.out⟩, ⟨skK BK313.out⟩, ⟨by repeat (first | (with_reducible first | exact HB.out | apply below_alloc | apply pw_below_drewN | apply below_drew1 | refine below_set ?_ GE306.out | refine below_set ?_ GE313.out) | exact HB.out)⟩⟩
          ·
           rw [if_neg c44] at H
           have c44b0 : (((rd_T49 l0 ((rd_T49 l0 0).f4)).f1) == 1) = false := beq_eq_false_iff_ne.mpr c44
           have c44b1 : (((rd_T49 l0 ((rd_T49 l0 0).f4)).f1) != 1) = true := bne_iff_ne.mpr c44
           (first | rw [c44b0] | (simp only [i64_w, i32_w]; rw [c44b0]) | skip)
           have H' := Aside0.mk H
           clear H
           have hnb58 := NB313_306.out
           have hnc58 := NB306_313.out
           obtain ⟨hcz59_0, hcz59_1, hcz59_2, hcz59_3, hcz59_4, hcz59_5, hfz59_0, hfz59_1, hfz59_2, hfz59_3, hfz59_4, hfz59_5⟩ := bk6 BK313.out
           go_wp2_with (first | ((with_reducible refine gate_callee (f := 53) rfl ?_); refine goesL_ (some 44) rfl rfl Try.func53 (by kernel_rfl) rfl #[.agg #[.int .i64 ((rd_T49 l0 ((rd_T49 l0 0).f4)).f0), .int .i64 ((rd_T49 l0 ((rd_T49 l0 0).f4)).f1), .int .i64 ((rd_T49 l0 ((rd_T49 l0 0).f4)).f2), .int .i64 ((rd_T49 l0 ((rd_T49 l0 0).f4)).f3), .int .i64 ((rd_T49 l0 ((rd_T49 l0 0).f4)).f4), .int .i64 ((rd_T49 l0 ((rd_T49 l0 0).f4)).f5)]] rfl ags ?_; (with_reducible refine (larchref17_leaf.calls ((rd_T49 l0 ((rd_T49 l0 0).f4)).f0) ((rd_T49 l0 ((rd_T49 l0 0).f4)).f1) ((rd_T49 l0 ((rd_T49 l0 0).f4)).f2) ((rd_T49 l0 ((rd_T49 l0 0).f4)).f3) ((rd_T49 l0 ((rd_T49 l0 0).f4)).f4) ((rd_T49 l0 ((rd_T49 l0 0).f4)).f5) false _ A39.out).mono ?_); rintro e w60 ⟨rfl, hb⟩; refine ⟨_, rfl, ?_⟩; have n0_ := Aside0.mk (blk_below (g := gb306) (o := .cells #[.int .i64 ((rd_T49 l0 0).f0), .int .i64 ((rd_T49 l0 0).f1), .int .i64 ((rd_T49 l0 0).f2), .int .i64 ((rd_T49 l0 0).f3), .int .i64 ((rd_T49 l0 0).f4), .int .i64 ((rd_T49 l0 0).f5)] 49 (0, 0)) (by refine skk ?_; refine blk_far ?_ NB306_313.out _; refine skk ?_; refine blk_far ?_ NB306_313.out _; refine skk ?_; refine blk_far ?_ NB306_313.out _; refine skk ?_; refine blk_far ?_ NB306_313.out _; refine skk ?_; refine blk_far ?_ NB306_313.out _; refine skk ?_; refine blk_far ?_ NB306_313.out _; refine skk ?_; exact BK306.out) hb); have n1_ := Aside0.mk (blk_below (g := gb313) (o := .cells #[.int .i64 ((rd_T49 l0 ((rd_T49 l0 0).f4)).f0), .int .i64 ((rd_T49 l0 ((rd_T49 l0 0).f4)).f1), .int .i64 ((rd_T49 l0 ((rd_T49 l0 0).f4)).f2), .int .i64 ((rd_T49 l0 ((rd_T49 l0 0).f4)).f3), .int .i64 ((rd_T49 l0 ((rd_T49 l0 0).f4)).f4), .int .i64 ((rd_T49 l0 ((rd_T49 l0 0).f4)).f5)] 49 (0, 0)) (by refine skk ?_; refine blk_put (cs := #[.int .i64 ((rd_T49 l0 ((rd_T49 l0 0).f4)).f0), .int .i64 ((rd_T49 l0 ((rd_T49 l0 0).f4)).f1), .int .i64 ((rd_T49 l0 ((rd_T49 l0 0).f4)).f2), .int .i64 ((rd_T49 l0 ((rd_T49 l0 0).f4)).f3), .int .i64 ((rd_T49 l0 ((rd_T49 l0 0).f4)).f4), .int .i64 0]) ?_ 5 _ rfl; refine skk ?_; refine blk_put (cs := #[.int .i64 ((rd_T49 l0 ((rd_T49 l0 0).f4)).f0), .int .i64 ((rd_T49 l0 ((rd_T49 l0 0).f4)).f1), .int .i64 ((rd_T49 l0 ((rd_T49 l0 0).f4)).f2), .int .i64 ((rd_T49 l0 ((rd_T49 l0 0).f4)).f3), .int .i64 0, .int .i64 0]) ?_ 4 _ rfl; refine skk ?_; refine blk_put (cs := #[.int .i64 ((rd_T49 l0 ((rd_T49 l0 0).f4)).f0), .int .i64 ((rd_T49 l0 ((rd_T49 l0 0).f4)).f1), .int .i64 ((rd_T49 l0 ((rd_T49 l0 0).f4)).f2), .int .i64 0, .int .i64 0, .int .i64 0]) ?_ 3 _ rfl; refine skk ?_; refine blk_put (cs := #[.int .i64 ((rd_T49 l0 ((rd_T49 l0 0).f4)).f0), .int .i64 ((rd_T49 l0 ((rd_T49 l0 0).f4)).f1), .int .i64 0, .int .i64 0, .int .i64 0, .int .i64 0]) ?_ 2 _ rfl; refine skk ?_; refine blk_put (cs := #[.int .i64 ((rd_T49 l0 ((rd_T49 l0 0).f4)).f0), .int .i64 0, .int .i64 0, .int .i64 0, .int .i64 0, .int .i64 0]) ?_ 1 _ rfl; refine skk ?_; refine blk_put (cs := #[.int .i64 0, .int .i64 0, .int .i64 0, .int .i64 0, .int .i64 0, .int .i64 0]) ?_ 0 _ rfl; refine skk ?_; exact BK313.out) hb); have n2_ := Aside0.mk (below_step (by repeat (first | (with_reducible first | exact HB.out | apply below_alloc | apply pw_below_drewN | apply below_drew1 | refine below_set ?_ GE306.out | refine below_set ?_ GE313.out) | exact HB.out)) hb); clear BK306; clear BK313; clear HB; have BK306 := n0_; have BK313 := n1_; have HB := n2_; clear n0_ n1_ n2_; (try clear hb); (try clear hb2); (try clear hk); (try clear hi); obtain ⟨hcz61_0, hcz61_1, hcz61_2, hcz61_3, hcz61_4, hcz61_5, hfz61_0, hfz61_1, hfz61_2, hfz61_3, hfz61_4, hfz61_5⟩ := bk6 BK313.out))
           go_meet
           case rel => exact ⟨_, (true), rs, H', ⟨by have := HJ2.out; first | omega | exact Nat.le_refl _⟩, ⟨skK BK306.out⟩, ⟨skK BK313.out⟩, ⟨by repeat (first | (with_reducible first | exact HB.out | apply below_alloc | apply pw_below_drewN | apply below_drew1 | refine below_set ?_ GE306.out | refine below_set ?_ GE313.out) | exact HB.out)⟩⟩
        case rest =>
         clear HC32
         try clear c1
         try clear c2
         try clear c2b0
         try clear c2b1
         try clear p2
         try clear c3
         try clear p3
         try clear q3
         try clear hx3
         try clear qi3
         try clear c4
         try clear c5
         try clear c7
         try clear c10
         try clear c10b0
         try clear c10b1
         try clear c11
         try clear c11b0
         try clear c11b1
         try clear c12
         try clear c12b0
         try clear c13
         try clear c13b0
         try clear c25
         try clear c26
         try clear c26b0
         try clear c27
         try clear c27b0
         try clear c29
         try clear p30
         try clear q30
         try clear hx30
         try clear qi30
         try clear p31
         try clear q31
         try clear hx31
         try clear c37
         try clear c40
         try clear c41
         try clear c44
         try clear c44b0
         try clear c44b1
         try clear c45
         try clear c45b0
         try clear c45b1
         try clear c46
         try clear c46b0
         try clear c47
         try clear c47b0
         try clear c49
         try clear c53
         try clear c54
         try clear c58
         try clear hcz15_0
         try clear hcz15_1
         try clear hcz15_2
         try clear hcz15_3
         try clear hcz15_4
         try clear hcz15_5
         try clear hcz17_0
         try clear hcz17_1
         try clear hcz17_2
         try clear hcz17_3
         try clear hcz17_4
         try clear hcz17_5
         try clear hcz19_0
         try clear hcz19_1
         try clear hcz19_2
         try clear hcz19_3
         try clear hcz19_4
         try clear hcz19_5
         try clear hcz21_0
         try clear hcz21_1
         try clear hcz21_2
         try clear hcz21_3
         try clear hcz21_4
         try clear hcz21_5
         try clear hcz22_0
         try clear hcz22_1
         try clear hcz22_2
         try clear hcz22_3
         try clear hcz22_4
         try clear hcz22_5
         try clear hcz24_0
         try clear hcz24_1
         try clear hcz24_2
         try clear hcz24_3
         try clear hcz24_4
         try clear hcz24_5
         try clear hcz30_0
         try clear hcz30_1
         try clear hcz30_2
         try clear hcz30_3
         try clear hcz30_4
         try clear hcz30_5
         try clear hcz33_0
         try clear hcz33_1
         try clear hcz33_2
         try clear hcz33_3
         try clear hcz33_4
         try clear hcz33_5
         try clear hcz35_0
         try clear hcz35_1
         try clear hcz35_2
         try clear hcz35_3
         try clear hcz35_4
         try clear hcz35_5
         try clear hcz38_0
         try clear hcz38_1
         try clear hcz38_2
         try clear hcz38_3
         try clear hcz38_4
         try clear hcz38_5
         try clear hcz42_0
         try clear hcz42_1
         try clear hcz42_2
         try clear hcz42_3
         try clear hcz42_4
         try clear hcz42_5
         try clear hcz50_0
         try clear hcz50_1
         try clear hcz50_2
         try clear hcz50_3
         try clear hcz50_4
         try clear hcz50_5
         try clear hcz52_0
         try clear hcz52_1
         try clear hcz52_2
         try clear hcz52_3
         try clear hcz52_4
         try clear hcz52_5
         try clear hcz55_0
         try clear hcz55_1
         try clear hcz55_2
         try clear hcz55_3
         try clear hcz55_4
         try clear hcz55_5
         try clear hcz57_0
         try clear hcz57_1
         try clear hcz57_2
         try clear hcz57_3
         try clear hcz57_4
         try clear hcz57_5
         try clear hcz59_0
         try clear hcz59_1
         try clear hcz59_2
         try clear hcz59_3
         try clear hcz59_4
         try clear hcz59_5
         try clear hcz5_0
         try clear hcz5_1
         try clear hcz5_2
         try clear hcz5_3
         try clear hcz5_4
         try clear hcz5_5
         try clear hcz61_0
         try clear hcz61_1
         try clear hcz61_2
         try clear hcz61_3
         try clear hcz61_4
         try clear hcz61_5
         try clear hcz8_0
         try clear hcz8_1
         try clear hcz8_2
         try clear hcz8_3
         try clear hcz8_4
         try clear hcz8_5
         try clear hfz15_0
         try clear hfz15_1
         try clear hfz15_2
         try clear hfz15_3
         try clear hfz15_4
         try clear hfz15_5
         try clear hfz17_0
         try clear hfz17_1
         try clear hfz17_2
         try clear hfz17_3
         try clear hfz17_4
         try clear hfz17_5
         try clear hfz19_0
         try clear hfz19_1
         try clear hfz19_2
         try clear hfz19_3
         try clear hfz19_4
         try clear hfz19_5
         try clear hfz21_0
         try clear hfz21_1
         try clear hfz21_2
         try clear hfz21_3
         try clear hfz21_4
         try clear hfz21_5
         try clear hfz22_0
         try clear hfz22_1
         try clear hfz22_2
         try clear hfz22_3
         try clear hfz22_4
         try clear hfz22_5
         try clear hfz24_0
         try clear hfz24_1
         try clear hfz24_2
         try clear hfz24_3
         try clear hfz24_4
         try clear hfz24_5
         try clear hfz30_0
         try clear hfz30_1
         try clear hfz30_2
         try clear hfz30_3
         try clear hfz30_4
         try clear hfz30_5
         try clear hfz33_0
         try clear hfz33_1
         try clear hfz33_2
         try clear hfz33_3
         try clear hfz33_4
         try clear hfz33_5
         try clear hfz35_0
         try clear hfz35_1
         try clear hfz35_2
         try clear hfz35_3
         try clear hfz35_4
         try clear hfz35_5
         try clear hfz38_0
         try clear hfz38_1
         try clear hfz38_2
         try clear hfz38_3
         try clear hfz38_4
         try clear hfz38_5
         try clear hfz42_0
         try clear hfz42_1
         try clear hfz42_2
         try clear hfz42_3
         try clear hfz42_4
         try clear hfz42_5
         try clear hfz50_0
         try clear hfz50_1
         try clear hfz50_2
         try clear hfz50_3
         try clear hfz50_4
         try clear hfz50_5
         try clear hfz52_0
         try clear hfz52_1
         try clear hfz52_2
         try clear hfz52_3
         try clear hfz52_4
         try clear hfz52_5
         try clear hfz55_0
         try clear hfz55_1
         try clear hfz55_2
         try clear hfz55_3
         try clear hfz55_4
         try clear hfz55_5
         try clear hfz57_0
         try clear hfz57_1
         try clear hfz57_2
         try clear hfz57_3
         try clear hfz57_4
         try clear hfz57_5
         try clear hfz59_0
         try clear hfz59_1
         try clear hfz59_2
         try clear hfz59_3
         try clear hfz59_4
         try clear hfz59_5
         try clear hfz5_0
         try clear hfz5_1
         try clear hfz5_2
         try clear hfz5_3
         try clear hfz5_4
         try clear hfz5_5
         try clear hfz61_0
         try clear hfz61_1
         try clear hfz61_2
         try clear hfz61_3
         try clear hfz61_4
         try clear hfz61_5
         try clear hfz8_0
         try clear hfz8_1
         try clear hfz8_2
         try clear hfz8_3
         try clear hfz8_4
         try clear hfz8_5
         try clear hx305_0
         try clear hx305_1
         try clear hx305_2
         try clear hx305_3
         try clear hx305_4
         try clear hx305_5
         try clear hx308_0
         try clear hx308_1
         try clear hx308_2
         try clear hx308_3
         try clear hx308_4
         try clear hx308_5
         try clear hx310_0
         try clear hx310_1
         try clear hx310_2
         try clear hx310_3
         try clear hx310_4
         try clear hx310_5
         try clear hx312_0
         try clear hx312_1
         try clear hx312_2
         try clear hx312_3
         try clear hx312_4
         try clear hx312_5
         try clear hx315_0
         try clear hx315_1
         try clear hx315_2
         try clear hx315_3
         try clear hx315_4
         try clear hx315_5
         try clear p2
         try clear p3
         try clear p305
         try clear p308
         try clear p310
         try clear p312
         try clear p315
         try clear q3
         try clear q305
         try clear q308
         try clear q310
         try clear q312
         try clear q315
         obtain ⟨kq, x63_31, rfl, HA, HJ31, BK306, BK313, HB⟩ := hcut
         cases kq with
         | zero => exact absurd HA.out (by simp [larchref17_Root.j1])
         | succ kj31 =>
          have H := HA.out
          clear HA
          simp only [larchref17_Root.j1] at H
          by_cases c62 : x63_31 = true
          ·
           subst c62
           have H1 : (some ((-1), false)) = some (r1, r2) := by rw [if_pos rfl] at H; exact H
           clear H
           have H := H1
           clear H1
           simp only [Option.some.injEq, Prod.mk.injEq] at H
           obtain ⟨rfl, rfl⟩ := H
           go_wp2
           go_ret2
           exact ⟨re, by repeat (first | (with_reducible first | exact HB.out | apply below_alloc | apply pw_below_drewN | apply below_drew1 | refine below_set ?_ GE306.out | refine below_set ?_ GE313.out) | exact HB.out)⟩
          ·
           replace c62 := Bool.eq_false_iff.mpr c62
           subst c62
           have H1 : ((larchref17_Order.f kj31 l0 ((rd_T49 l0 ((rd_T49 l0 0).f4)).f4)).bind fun t317 => (larchref17_Root.l0 kj31 l0 t317 0 ((rd_T49 l0 ((rd_T49 l0 0).f4)).f0) ((rd_T49 l0 ((rd_T49 l0 0).f4)).f1) ((rd_T49 l0 ((rd_T49 l0 0).f4)).f2) ((rd_T49 l0 ((rd_T49 l0 0).f4)).f3) ((rd_T49 l0 ((rd_T49 l0 0).f4)).f4) ((rd_T49 l0 ((rd_T49 l0 0).f4)).f5))) = some (r1, r2) := by rw [if_neg (show ¬ (false = true) by decide)] at H; exact H
           clear H
           have H := H1
           clear H1
           replace H := Option.bind_eq_some_iff.mp H
           obtain ⟨t317, A630, H⟩ := H
           replace H : (larchref17_Root.l0 kj31 l0 t317 0 ((rd_T49 l0 ((rd_T49 l0 0).f4)).f0) ((rd_T49 l0 ((rd_T49 l0 0).f4)).f1) ((rd_T49 l0 ((rd_T49 l0 0).f4)).f2) ((rd_T49 l0 ((rd_T49 l0 0).f4)).f3) ((rd_T49 l0 ((rd_T49 l0 0).f4)).f4) ((rd_T49 l0 ((rd_T49 l0 0).f4)).f5)) = some (r1, r2) := H
           have A63 := Aside0.mk A630
           clear A630
           have H' := Aside0.mk H
           clear H
           have hnb64 := NB313_306.out
           have hnc64 := NB306_313.out
           obtain ⟨hcz65_0, hcz65_1, hcz65_2, hcz65_3, hcz65_4, hcz65_5, hfz65_0, hfz65_1, hfz65_2, hfz65_3, hfz65_4, hfz65_5⟩ := bk6 BK313.out
           go_wp2_with (first | ((with_reducible refine gate_callee (f := 27) rfl ?_); refine goesL_ (some 67) rfl rfl Try.func27 (by kernel_rfl) rfl #[.slice (some ad305) l0.length c0, .int .i64 ((rd_T49 l0 ((rd_T49 l0 0).f4)).f4)] rfl ags ?_; (with_reducible refine (larchref17_Order.calls kj31 _ _ l0 ((rd_T49 l0 ((rd_T49 l0 0).f4)).f4) t317 _ ?side1 ?side2 A63.out).mono ?_); (case side1 => exact skC (Kd.C_below HR0.out HB.out)); (case side2 => exact HC0.out); rintro e w66 ⟨v318, rfl, ho0, hb⟩; refine ⟨_, rfl, ?_⟩; have n0_ := Aside0.mk (Kd.R_lower ho0 (below_size (by repeat (first | (with_reducible first | exact HB.out | apply below_alloc | apply pw_below_drewN | apply below_drew1 | refine below_set ?_ GE306.out | refine below_set ?_ GE313.out) | exact HB.out)))); have n1_ := Aside0.mk (blk_below (g := gb306) (o := .cells #[.int .i64 ((rd_T49 l0 0).f0), .int .i64 ((rd_T49 l0 0).f1), .int .i64 ((rd_T49 l0 0).f2), .int .i64 ((rd_T49 l0 0).f3), .int .i64 ((rd_T49 l0 0).f4), .int .i64 ((rd_T49 l0 0).f5)] 49 (0, 0)) (skK BK306.out) hb); have n2_ := Aside0.mk (blk_below (g := gb313) (o := .cells #[.int .i64 ((rd_T49 l0 ((rd_T49 l0 0).f4)).f0), .int .i64 ((rd_T49 l0 ((rd_T49 l0 0).f4)).f1), .int .i64 ((rd_T49 l0 ((rd_T49 l0 0).f4)).f2), .int .i64 ((rd_T49 l0 ((rd_T49 l0 0).f4)).f3), .int .i64 ((rd_T49 l0 ((rd_T49 l0 0).f4)).f4), .int .i64 ((rd_T49 l0 ((rd_T49 l0 0).f4)).f5)] 49 (0, 0)) (skK BK313.out) hb); have n3_ := Aside0.mk (below_step (by repeat (first | (with_reducible first | exact HB.out | apply below_alloc | apply pw_below_drewN | apply below_drew1 | refine below_set ?_ GE306.out | refine below_set ?_ GE313.out) | exact HB.out)) hb); clear BK306; clear BK313; clear HB; have HO319 := n0_; have BK306 := n1_; have BK313 := n2_; have HB := n3_; clear n0_ n1_ n2_ n3_; (try clear hb); (try clear hb2); (try clear hk); (try clear hi); (try clear ho0)))
           go_loopg [7] kj31 (fun kq v7 w' => ∃ (x7_3 : Int), v7 = .int .i64 x7_3 ∧ Aside0 (larchref17_Root.l0 kq l0 t317 x7_3 ((rd_T49 l0 ((rd_T49 l0 0).f4)).f0) ((rd_T49 l0 ((rd_T49 l0 0).f4)).f1) ((rd_T49 l0 ((rd_T49 l0 0).f4)).f2) ((rd_T49 l0 ((rd_T49 l0 0).f4)).f3) ((rd_T49 l0 ((rd_T49 l0 0).f4)).f4) ((rd_T49 l0 ((rd_T49 l0 0).f4)).f5) = some (r1, r2)) ∧ Aside0 (kq ≤ kj31) ∧ Aside0 (Kd.R (Kd.int .i64) 3 w' w.heap.size (fun _ => True) v318 t317) ∧ Aside0 (w'.heap[gb306]? = some (.cells #[.int .i64 ((rd_T49 l0 0).f0), .int .i64 ((rd_T49 l0 0).f1), .int .i64 ((rd_T49 l0 0).f2), .int .i64 ((rd_T49 l0 0).f3), .int .i64 ((rd_T49 l0 0).f4), .int .i64 ((rd_T49 l0 0).f5)] 49 (0, 0))) ∧ Aside0 (w'.heap[gb313]? = some (.cells #[.int .i64 ((rd_T49 l0 ((rd_T49 l0 0).f4)).f0), .int .i64 ((rd_T49 l0 ((rd_T49 l0 0).f4)).f1), .int .i64 ((rd_T49 l0 ((rd_T49 l0 0).f4)).f2), .int .i64 ((rd_T49 l0 ((rd_T49 l0 0).f4)).f3), .int .i64 ((rd_T49 l0 ((rd_T49 l0 0).f4)).f4), .int .i64 ((rd_T49 l0 ((rd_T49 l0 0).f4)).f5)] 49 (0, 0))) ∧ Aside0 (Below w.heap.size w w'))
           case atStart => exact ⟨(0), rs, H', ⟨Nat.le_refl _⟩, ⟨skR HO319.out⟩, ⟨skK BK306.out⟩, ⟨skK BK313.out⟩, ⟨by repeat (first | (with_reducible first | exact HB.out | apply below_alloc | apply pw_below_drewN | apply below_drew1 | refine below_set ?_ GE306.out | refine below_set ?_ GE313.out) | exact HB.out)⟩⟩
           case round =>
            clear H'
            try clear c1
            try clear c2
            try clear c2b0
            try clear c2b1
            try clear p2
            try clear c3
            try clear p3
            try clear q3
            try clear hx3
            try clear qi3
            try clear c4
            try clear c5
            try clear c6
            try clear c7
            try clear c10
            try clear c10b0
            try clear c10b1
            try clear c11
            try clear c11b0
            try clear c11b1
            try clear c12
            try clear c12b0
            try clear c13
            try clear c13b0
            try clear c25
            try clear c26
            try clear c26b0
            try clear c27
            try clear c27b0
            try clear c29
            try clear p30
            try clear q30
            try clear hx30
            try clear qi30
            try clear p31
            try clear q31
            try clear hx31
            try clear c37
            try clear c40
            try clear c41
            try clear c44
            try clear c44b0
            try clear c44b1
            try clear c45
            try clear c45b0
            try clear c45b1
            try clear c46
            try clear c46b0
            try clear c47
            try clear c47b0
            try clear c49
            try clear c53
            try clear c54
            try clear c58
            try clear c62
            try clear c64
            try clear hcz15_0
            try clear hcz15_1
            try clear hcz15_2
            try clear hcz15_3
            try clear hcz15_4
            try clear hcz15_5
            try clear hcz17_0
            try clear hcz17_1
            try clear hcz17_2
            try clear hcz17_3
            try clear hcz17_4
            try clear hcz17_5
            try clear hcz19_0
            try clear hcz19_1
            try clear hcz19_2
            try clear hcz19_3
            try clear hcz19_4
            try clear hcz19_5
            try clear hcz21_0
            try clear hcz21_1
            try clear hcz21_2
            try clear hcz21_3
            try clear hcz21_4
            try clear hcz21_5
            try clear hcz22_0
            try clear hcz22_1
            try clear hcz22_2
            try clear hcz22_3
            try clear hcz22_4
            try clear hcz22_5
            try clear hcz24_0
            try clear hcz24_1
            try clear hcz24_2
            try clear hcz24_3
            try clear hcz24_4
            try clear hcz24_5
            try clear hcz30_0
            try clear hcz30_1
            try clear hcz30_2
            try clear hcz30_3
            try clear hcz30_4
            try clear hcz30_5
            try clear hcz33_0
            try clear hcz33_1
            try clear hcz33_2
            try clear hcz33_3
            try clear hcz33_4
            try clear hcz33_5
            try clear hcz35_0
            try clear hcz35_1
            try clear hcz35_2
            try clear hcz35_3
            try clear hcz35_4
            try clear hcz35_5
            try clear hcz38_0
            try clear hcz38_1
            try clear hcz38_2
            try clear hcz38_3
            try clear hcz38_4
            try clear hcz38_5
            try clear hcz42_0
            try clear hcz42_1
            try clear hcz42_2
            try clear hcz42_3
            try clear hcz42_4
            try clear hcz42_5
            try clear hcz50_0
            try clear hcz50_1
            try clear hcz50_2
            try clear hcz50_3
            try clear hcz50_4
            try clear hcz50_5
            try clear hcz52_0
            try clear hcz52_1
            try clear hcz52_2
            try clear hcz52_3
            try clear hcz52_4
            try clear hcz52_5
            try clear hcz55_0
            try clear hcz55_1
            try clear hcz55_2
            try clear hcz55_3
            try clear hcz55_4
            try clear hcz55_5
            try clear hcz57_0
            try clear hcz57_1
            try clear hcz57_2
            try clear hcz57_3
            try clear hcz57_4
            try clear hcz57_5
            try clear hcz59_0
            try clear hcz59_1
            try clear hcz59_2
            try clear hcz59_3
            try clear hcz59_4
            try clear hcz59_5
            try clear hcz5_0
            try clear hcz5_1
            try clear hcz5_2
            try clear hcz5_3
            try clear hcz5_4
            try clear hcz5_5
            try clear hcz61_0
            try clear hcz61_1
            try clear hcz61_2
            try clear hcz61_3
            try clear hcz61_4
            try clear hcz61_5
            try clear hcz65_0
            try clear hcz65_1
            try clear hcz65_2
            try clear hcz65_3
            try clear hcz65_4
            try clear hcz65_5
            try clear hcz8_0
            try clear hcz8_1
            try clear hcz8_2
            try clear hcz8_3
            try clear hcz8_4
            try clear hcz8_5
            try clear hfz15_0
            try clear hfz15_1
            try clear hfz15_2
            try clear hfz15_3
            try clear hfz15_4
            try clear hfz15_5
            try clear hfz17_0
            try clear hfz17_1
            try clear hfz17_2
            try clear hfz17_3
            try clear hfz17_4
            try clear hfz17_5
            try clear hfz19_0
            try clear hfz19_1
            try clear hfz19_2
            try clear hfz19_3
            try clear hfz19_4
            try clear hfz19_5
            try clear hfz21_0
            try clear hfz21_1
            try clear hfz21_2
            try clear hfz21_3
            try clear hfz21_4
            try clear hfz21_5
            try clear hfz22_0
            try clear hfz22_1
            try clear hfz22_2
            try clear hfz22_3
            try clear hfz22_4
            try clear hfz22_5
            try clear hfz24_0
            try clear hfz24_1
            try clear hfz24_2
            try clear hfz24_3
            try clear hfz24_4
            try clear hfz24_5
            try clear hfz30_0
            try clear hfz30_1
            try clear hfz30_2
            try clear hfz30_3
            try clear hfz30_4
            try clear hfz30_5
            try clear hfz33_0
            try clear hfz33_1
            try clear hfz33_2
            try clear hfz33_3
            try clear hfz33_4
            try clear hfz33_5
            try clear hfz35_0
            try clear hfz35_1
            try clear hfz35_2
            try clear hfz35_3
            try clear hfz35_4
            try clear hfz35_5
            try clear hfz38_0
            try clear hfz38_1
            try clear hfz38_2
            try clear hfz38_3
            try clear hfz38_4
            try clear hfz38_5
            try clear hfz42_0
            try clear hfz42_1
            try clear hfz42_2
            try clear hfz42_3
            try clear hfz42_4
            try clear hfz42_5
            try clear hfz50_0
            try clear hfz50_1
            try clear hfz50_2
            try clear hfz50_3
            try clear hfz50_4
            try clear hfz50_5
            try clear hfz52_0
            try clear hfz52_1
            try clear hfz52_2
            try clear hfz52_3
            try clear hfz52_4
            try clear hfz52_5
            try clear hfz55_0
            try clear hfz55_1
            try clear hfz55_2
            try clear hfz55_3
            try clear hfz55_4
            try clear hfz55_5
            try clear hfz57_0
            try clear hfz57_1
            try clear hfz57_2
            try clear hfz57_3
            try clear hfz57_4
            try clear hfz57_5
            try clear hfz59_0
            try clear hfz59_1
            try clear hfz59_2
            try clear hfz59_3
            try clear hfz59_4
            try clear hfz59_5
            try clear hfz5_0
            try clear hfz5_1
            try clear hfz5_2
            try clear hfz5_3
            try clear hfz5_4
            try clear hfz5_5
            try clear hfz61_0
            try clear hfz61_1
            try clear hfz61_2
            try clear hfz61_3
            try clear hfz61_4
            try clear hfz61_5
            try clear hfz65_0
            try clear hfz65_1
            try clear hfz65_2
            try clear hfz65_3
            try clear hfz65_4
            try clear hfz65_5
            try clear hfz8_0
            try clear hfz8_1
            try clear hfz8_2
            try clear hfz8_3
            try clear hfz8_4
            try clear hfz8_5
            try clear hx305_0
            try clear hx305_1
            try clear hx305_2
            try clear hx305_3
            try clear hx305_4
            try clear hx305_5
            try clear hx308_0
            try clear hx308_1
            try clear hx308_2
            try clear hx308_3
            try clear hx308_4
            try clear hx308_5
            try clear hx310_0
            try clear hx310_1
            try clear hx310_2
            try clear hx310_3
            try clear hx310_4
            try clear hx310_5
            try clear hx312_0
            try clear hx312_1
            try clear hx312_2
            try clear hx312_3
            try clear hx312_4
            try clear hx312_5
            try clear hx315_0
            try clear hx315_1
            try clear hx315_2
            try clear hx315_3
            try clear hx315_4
            try clear hx315_5
            try clear p2
            try clear p3
            try clear p30
            try clear p305
            try clear p308
            try clear p31
            try clear p310
            try clear p312
            try clear p315
            try clear q3
            try clear q30
            try clear q305
            try clear q308
            try clear q31
            try clear q310
            try clear q312
            try clear q315
            obtain ⟨x7_3, rfl, HA, HK3, HO_6, BK306, BK313, HB⟩ := hrel
            cases gk with
            | zero => exact absurd HA.out (by simp [larchref17_Root.l0])
            | succ k3 =>
             have H := HA.out
             clear HA
             simp only [larchref17_Root.l0] at H
             by_cases c67 : x7_3 < (t317.length : Int)
             ·
              rw [if_pos c67] at H
              have c67b0 : decide (x7_3 < (t317.length : Int)) = true := decide_eq_true c67
              clear c67
              by_cases c68 : 0 ≤ x7_3
              ·
               rw [if_pos c68] at H
               have c68b0 : decide (0 ≤ x7_3) = true := decide_eq_true c68
               clear c68
               by_cases c69 : 0 ≤ (rd t317 x7_3)
               ·
                rw [if_pos c69] at H
                have c69b0 : decide (0 ≤ (rd t317 x7_3)) = true := decide_eq_true c69
                clear c69
                by_cases c70 : (rd t317 x7_3) < (l0.length : Int)
                ·
                 rw [if_pos c70] at H
                 have c70b0 : decide ((rd t317 x7_3) < (l0.length : Int)) = true := decide_eq_true c70
                 clear c70
                 by_cases c71 : ((rd_T49 l0 (rd t317 x7_3)).f1) = 0
                 ·
                  rw [if_pos c71] at H
                  have c71b0 : (((rd_T49 l0 (rd t317 x7_3)).f1) == 0) = true := beq_iff_eq.mpr c71
                  have c71b1 : (((rd_T49 l0 (rd t317 x7_3)).f1) != 0) = false := bne_eq_false_iff_eq.mpr c71
                  clear c71
                  have H' := Aside0.mk H
                  clear H
                  obtain ⟨Ao72, co72, eo72⟩ := Kd.R_slice HO_6.out
                  subst eo72
                  have p320 : 0 ≤ (x7_3 : Int) := dt
                  have q320 : x7_3 < (t317.length : Int) := dt
                  obtain ⟨ad320, e320, hx320_0⟩ := Kd.at_int (Kd.R_reads' HO_6.out).2.2 x7_3 p320 q320
                  cases e320
                  replace p320 := eq_true p320
                  replace q320 := eq_true q320
                  have p321 : 0 ≤ ((rd t317 x7_3) : Int) := dt
                  have q321 : (rd t317 x7_3) < (l0.length : Int) := dt
                  obtain ⟨ad321, e321, hx321_0, hx321_1, hx321_2, hx321_3, hx321_4, hx321_5⟩ := at_T49 HR0.out (rd t317 x7_3) p321 q321
                  obtain rfl : ad305 = ad321 := (by injection e321)
                  replace hx321_0 := skc HB.out hx321_0
                  replace hx321_1 := skc HB.out hx321_1
                  replace hx321_2 := skc HB.out hx321_2
                  replace hx321_3 := skc HB.out hx321_3
                  replace hx321_4 := skc HB.out hx321_4
                  replace hx321_5 := skc HB.out hx321_5
                  replace p321 := eq_true p321
                  replace q321 := eq_true q321
                  go_wp2
                  go_roundg k3
                  case measure => have := HJ2.out; have := HJ31.out; have := HK3.out; omega
                  case rel => exact ⟨(wrap64 (x7_3 + 1)), rs, H', ⟨by have := HJ2.out; have := HJ31.out; have := HK3.out; omega⟩, ⟨skR HO_6.out⟩, ⟨skK BK306.out⟩, ⟨skK BK313.out⟩, ⟨by repeat (first | (with_reducible first | exact HB.out | apply below_alloc | apply pw_below_drewN | apply below_drew1 | refine below_set ?_ GE306.out | refine below_set ?_ GE313.out) | exact HB.out)⟩⟩
                 ·
                  rw [if_neg c71] at H
                  have c71b0 : (((rd_T49 l0 (rd t317 x7_3)).f1) == 0) = false := beq_eq_false_iff_ne.mpr c71
                  have c71b1 : (((rd_T49 l0 (rd t317 x7_3)).f1) != 0) = true := bne_iff_ne.mpr c71
                  simp only [Option.some.injEq, Prod.mk.injEq] at H
                  obtain ⟨rfl, rfl⟩ := H
                  obtain ⟨Ao73, co73, eo73⟩ := Kd.R_slice HO_6.out
                  subst eo73
                  have p320 : 0 ≤ (x7_3 : Int) := dt
                  have q320 : x7_3 < (t317.length : Int) := dt
                  obtain ⟨ad320, e320, hx320_0⟩ := Kd.at_int (Kd.R_reads' HO_6.out).2.2 x7_3 p320 q320
                  cases e320
                  replace p320 := eq_true p320
                  replace q320 := eq_true q320
                  have p321 : 0 ≤ ((rd t317 x7_3) : Int) := dt
                  have q321 : (rd t317 x7_3) < (l0.length : Int) := dt
                  obtain ⟨ad321, e321, hx321_0, hx321_1, hx321_2, hx321_3, hx321_4, hx321_5⟩ := at_T49 HR0.out (rd t317 x7_3) p321 q321
                  obtain rfl : ad305 = ad321 := (by injection e321)
                  replace hx321_0 := skc HB.out hx321_0
                  replace hx321_1 := skc HB.out hx321_1
                  replace hx321_2 := skc HB.out hx321_2
                  replace hx321_3 := skc HB.out hx321_3
                  replace hx321_4 := skc HB.out hx321_4
                  replace hx321_5 := skc HB.out hx321_5
                  replace p321 := eq_true p321
                  replace q321 := eq_true q321
                  go_wp2
                  go_ret2
                  exact ⟨re, by repeat (first | (with_reducible first | exact HB.out | apply below_alloc | apply pw_below_drewN | apply below_drew1 | refine below_set ?_ GE306.out | refine below_set ?_ GE313.out) | exact HB.out)⟩
                ·
                 rw [if_neg c70] at H
                 exact absurd H (by simp)
               ·
                rw [if_neg c69] at H
                exact absurd H (by simp)
              ·
               rw [if_neg c68] at H
               exact absurd H (by simp)
             ·
              rw [if_neg c67] at H
              have c67b0 : decide (x7_3 < (t317.length : Int)) = false := decide_eq_false c67
              clear c67
              simp only [Option.some.injEq, Prod.mk.injEq] at H
              obtain ⟨rfl, rfl⟩ := H
              obtain ⟨Ao74, co74, eo74⟩ := Kd.R_slice HO_6.out
              subst eo74
              have hnb75 := NB313_306.out
              have hnc75 := NB306_313.out
              obtain ⟨hcz76_0, hcz76_1, hcz76_2, hcz76_3, hcz76_4, hcz76_5, hfz76_0, hfz76_1, hfz76_2, hfz76_3, hfz76_4, hfz76_5⟩ := bk6 BK313.out
              go_wp2
              go_ret2
              exact ⟨re, by repeat (first | (with_reducible first | exact HB.out | apply below_alloc | apply pw_below_drewN | apply below_drew1 | refine below_set ?_ GE306.out | refine below_set ?_ GE313.out) | exact HB.out)⟩
      ·
       rw [if_neg c27] at H
       exact absurd H (by simp)
     ·
      rw [if_neg c26] at H
      exact absurd H (by simp)
 ·
  rw [if_neg c2] at H
  exact absurd H (by simp)
end Go.Proofs.Ytmmjkebboonnkaa.P
/- F33 -/
namespace Go.Proofs.Ytmmjkebboonnkaa.P
open Go.RowKit Go.Proofs.YtmmjkebboonnkaaW.PrintWords Go.Proofs.YtmmjkebboonnkaaW.PrintLast Go.Proofs.YtmmjkebboonnkaaW.PrintMore
attribute [local go_sem] max2_int min2_int max_two min_two max_three min_three max_four min_four   -- for this text's walks alone
set_option linter.unusedVariables false
set_option linter.unusedSimpArgs false
def larchref17_keys.f (k : Nat) (l0 : List (S49)) : Option (List Int × Int) := (larchref17_Check.f k l0).bind fun t337 => (if t337 = 0 then ((larchref17_Root.f k l0).bind fun bt338 => (if bt338.2 = true then (if bt338.1 < 0 then (some (([] : List Int), 0)) else ((larchref17_Order.f k l0 bt338.1).bind fun t340 => (some (t340, 0)))) else (some (([] : List Int), 3)))) else (some (([] : List Int), t337)))
set_option maxHeartbeats 8000000 in
set_option maxRecDepth 100000 in
theorem larchref17_keys.calls (k : Nat) (A0 : Option Addr) (c0 : Nat) (l0 : List (S49)) (r1 : List Int) (r2 : Int) (w : World) (hr0 : Kd.C k49 w A0 l0.length l0) (hc0 : l0.length ≤ c0) (h : larchref17_keys.f k l0 = some (r1, r2)) :
  Calls Try.prog 46 #[.slice A0 l0.length c0] w fun e w' => ∃ v0_ : Value, e = .returned (.tuple #[v0_, .int .i64 r2]) ∧ Kd.R (Kd.int .i64) 3 w' w.heap.size (fun _ => True) v0_ r1 ∧ Below w.heap.size w w' := by
 have HR0 := Aside0.mk hr0
 have HC0 := Aside0.mk hc0
 clear hr0 hc0
 have HB := Aside0.mk (Below.refl w.heap.size w)
 have H : ((larchref17_Check.f k l0).bind fun t337 => (if t337 = 0 then ((larchref17_Root.f k l0).bind fun bt338 => (if bt338.2 = true then (if bt338.1 < 0 then (some (([] : List Int), 0)) else ((larchref17_Order.f k l0 bt338.1).bind fun t340 => (some (t340, 0)))) else (some (([] : List Int), 3)))) else (some (([] : List Int), t337)))) = some (r1, r2) := h
 clear h
 replace H := Option.bind_eq_some_iff.mp H
 obtain ⟨t337, A20, H⟩ := H
 replace H : (if t337 = 0 then ((larchref17_Root.f k l0).bind fun bt338 => (if bt338.2 = true then (if bt338.1 < 0 then (some (([] : List Int), 0)) else ((larchref17_Order.f k l0 bt338.1).bind fun t340 => (some (t340, 0)))) else (some (([] : List Int), 3)))) else (some (([] : List Int), t337))) = some (r1, r2) := H
 have A2 := Aside0.mk A20
 clear A20
 by_cases c3 : t337 = 0
 ·
  rw [if_pos c3] at H
  have c3b0 : (t337 == 0) = true := beq_iff_eq.mpr c3
  have c3b1 : (t337 != 0) = false := bne_eq_false_iff_eq.mpr c3
  clear c3
  replace H := Option.bind_eq_some_iff.mp H
  obtain ⟨⟨t338, t339⟩, A40, H⟩ := H
  replace H : (if t339 = true then (if t338 < 0 then (some (([] : List Int), 0)) else ((larchref17_Order.f k l0 t338).bind fun t340 => (some (t340, 0)))) else (some (([] : List Int), 3))) = some (r1, r2) := H
  have A4 := Aside0.mk A40
  clear A40
  by_cases c5 : t339 = true
  ·
   subst c5
   have H1 : (if t338 < 0 then (some (([] : List Int), 0)) else ((larchref17_Order.f k l0 t338).bind fun t340 => (some (t340, 0)))) = some (r1, r2) := by rw [if_pos rfl] at H; exact H
   clear H
   have H := H1
   clear H1
   by_cases c6 : t338 < 0
   ·
    rw [if_pos c6] at H
    have c6b0 : decide (t338 < 0) = true := decide_eq_true c6
    clear c6
    simp only [Option.some.injEq, Prod.mk.injEq] at H
    obtain ⟨rfl, rfl⟩ := H
    go_enter Try.func46, Try.ntmps46
    go_wp2_with (first | ((with_reducible refine gate_callee (f := 59) rfl ?_); refine goesL_ (some 8) rfl rfl Try.func59 (by kernel_rfl) rfl #[.slice A0 l0.length c0] rfl ags ?_; (with_reducible refine (larchref17_Check.calls k _ _ l0 t337 _ ?side1 ?side2 A2.out).mono ?_); (case side1 => exact skC HR0.out); (case side2 => exact HC0.out); rintro e w7 ⟨rfl, hb⟩; refine ⟨_, rfl, ?_⟩; have n0_ := Aside0.mk (below_step (skB HB.out) hb); clear HB; have HB := n0_; clear n0_; (try clear hb); (try clear hb2); (try clear hk); (try clear hi)) | ((with_reducible refine gate_callee (f := 26) rfl ?_); refine goesL_ (some 14) rfl rfl Try.func26 (by kernel_rfl) rfl #[.slice A0 l0.length c0] rfl ags ?_; (with_reducible refine (larchref17_Root.calls k _ _ l0 t338 true _ ?side1 ?side2 A4.out).mono ?_); (case side1 => exact skC (Kd.C_below HR0.out HB.out)); (case side2 => exact HC0.out); rintro e w8 ⟨rfl, hb⟩; refine ⟨_, rfl, ?_⟩; have n0_ := Aside0.mk (below_step (skB HB.out) hb); clear HB; have HB := n0_; clear n0_; (try clear hb); (try clear hb2); (try clear hk); (try clear hi)))
    go_ret2
    exact ⟨_, re, by first | exact Kd.R_nil _ _ _ _ _ | exact Kd.N_nil _ _ _ _ _ | exact Kd.V_nil _ _ _ _ _ | exact Kd.Q_nil _ _ _ _ _ | exact Kd.S_nil _ _ _ _ _, skB HB.out⟩
   ·
    rw [if_neg c6] at H
    have c6b0 : decide (t338 < 0) = false := decide_eq_false c6
    clear c6
    replace H := Option.bind_eq_some_iff.mp H
    obtain ⟨t340, A90, H⟩ := H
    replace H : (some (t340, 0)) = some (r1, r2) := H
    have A9 := Aside0.mk A90
    clear A90
    simp only [Option.some.injEq, Prod.mk.injEq] at H
    obtain ⟨rfl, rfl⟩ := H
    go_enter Try.func46, Try.ntmps46
    go_wp2_with (first | ((with_reducible refine gate_callee (f := 59) rfl ?_); refine goesL_ (some 8) rfl rfl Try.func59 (by kernel_rfl) rfl #[.slice A0 l0.length c0] rfl ags ?_; (with_reducible refine (larchref17_Check.calls k _ _ l0 t337 _ ?side1 ?side2 A2.out).mono ?_); (case side1 => exact skC HR0.out); (case side2 => exact HC0.out); rintro e w10 ⟨rfl, hb⟩; refine ⟨_, rfl, ?_⟩; have n0_ := Aside0.mk (below_step (skB HB.out) hb); clear HB; have HB := n0_; clear n0_; (try clear hb); (try clear hb2); (try clear hk); (try clear hi)) | ((with_reducible refine gate_callee (f := 26) rfl ?_); refine goesL_ (some 14) rfl rfl Try.func26 (by kernel_rfl) rfl #[.slice A0 l0.length c0] rfl ags ?_; (with_reducible refine (larchref17_Root.calls k _ _ l0 t338 true _ ?side1 ?side2 A4.out).mono ?_); (case side1 => exact skC (Kd.C_below HR0.out HB.out)); (case side2 => exact HC0.out); rintro e w11 ⟨rfl, hb⟩; refine ⟨_, rfl, ?_⟩; have n0_ := Aside0.mk (below_step (skB HB.out) hb); clear HB; have HB := n0_; clear n0_; (try clear hb); (try clear hb2); (try clear hk); (try clear hi)) | ((with_reducible refine gate_callee (f := 27) rfl ?_); refine goesL_ (some 23) rfl rfl Try.func27 (by kernel_rfl) rfl #[.slice A0 l0.length c0, .int .i64 t338] rfl ags ?_; (with_reducible refine (larchref17_Order.calls k _ _ l0 t338 t340 _ ?side1 ?side2 A9.out).mono ?_); (case side1 => exact skC (Kd.C_below HR0.out HB.out)); (case side2 => exact HC0.out); rintro e w12 ⟨v341, rfl, ho0, hb⟩; refine ⟨_, rfl, ?_⟩; have n0_ := Aside0.mk (Kd.R_lower ho0 (below_size (skB HB.out))); have n1_ := Aside0.mk (below_step (skB HB.out) hb); clear HB; have HO342 := n0_; have HB := n1_; clear n0_ n1_; (try clear hb); (try clear hb2); (try clear hk); (try clear hi); (try clear ho0)))
    go_ret2
    exact ⟨_, re, skR HO342.out, skB HB.out⟩
  ·
   replace c5 := Bool.eq_false_iff.mpr c5
   subst c5
   have H1 : (some (([] : List Int), 3)) = some (r1, r2) := by rw [if_neg (show ¬ (false = true) by decide)] at H; exact H
   clear H
   have H := H1
   clear H1
   simp only [Option.some.injEq, Prod.mk.injEq] at H
   obtain ⟨rfl, rfl⟩ := H
   go_enter Try.func46, Try.ntmps46
   go_wp2_with (first | ((with_reducible refine gate_callee (f := 59) rfl ?_); refine goesL_ (some 8) rfl rfl Try.func59 (by kernel_rfl) rfl #[.slice A0 l0.length c0] rfl ags ?_; (with_reducible refine (larchref17_Check.calls k _ _ l0 t337 _ ?side1 ?side2 A2.out).mono ?_); (case side1 => exact skC HR0.out); (case side2 => exact HC0.out); rintro e w13 ⟨rfl, hb⟩; refine ⟨_, rfl, ?_⟩; have n0_ := Aside0.mk (below_step (skB HB.out) hb); clear HB; have HB := n0_; clear n0_; (try clear hb); (try clear hb2); (try clear hk); (try clear hi)) | ((with_reducible refine gate_callee (f := 26) rfl ?_); refine goesL_ (some 14) rfl rfl Try.func26 (by kernel_rfl) rfl #[.slice A0 l0.length c0] rfl ags ?_; (with_reducible refine (larchref17_Root.calls k _ _ l0 t338 false _ ?side1 ?side2 A4.out).mono ?_); (case side1 => exact skC (Kd.C_below HR0.out HB.out)); (case side2 => exact HC0.out); rintro e w14 ⟨rfl, hb⟩; refine ⟨_, rfl, ?_⟩; have n0_ := Aside0.mk (below_step (skB HB.out) hb); clear HB; have HB := n0_; clear n0_; (try clear hb); (try clear hb2); (try clear hk); (try clear hi)))
   go_ret2
   exact ⟨_, re, by first | exact Kd.R_nil _ _ _ _ _ | exact Kd.N_nil _ _ _ _ _ | exact Kd.V_nil _ _ _ _ _ | exact Kd.Q_nil _ _ _ _ _ | exact Kd.S_nil _ _ _ _ _, skB HB.out⟩
 ·
  rw [if_neg c3] at H
  have c3b0 : (t337 == 0) = false := beq_eq_false_iff_ne.mpr c3
  have c3b1 : (t337 != 0) = true := bne_iff_ne.mpr c3
  simp only [Option.some.injEq, Prod.mk.injEq] at H
  obtain ⟨rfl, rfl⟩ := H
  go_enter Try.func46, Try.ntmps46
  go_wp2_with (first | ((with_reducible refine gate_callee (f := 59) rfl ?_); refine goesL_ (some 8) rfl rfl Try.func59 (by kernel_rfl) rfl #[.slice A0 l0.length c0] rfl ags ?_; (with_reducible refine (larchref17_Check.calls k _ _ l0 t337 _ ?side1 ?side2 A2.out).mono ?_); (case side1 => exact skC HR0.out); (case side2 => exact HC0.out); rintro e w15 ⟨rfl, hb⟩; refine ⟨_, rfl, ?_⟩; have n0_ := Aside0.mk (below_step (skB HB.out) hb); clear HB; have HB := n0_; clear n0_; (try clear hb); (try clear hb2); (try clear hk); (try clear hi)))
  go_ret2
  exact ⟨_, re, by first | exact Kd.R_nil _ _ _ _ _ | exact Kd.N_nil _ _ _ _ _ | exact Kd.V_nil _ _ _ _ _ | exact Kd.Q_nil _ _ _ _ _ | exact Kd.S_nil _ _ _ _ _, skB HB.out⟩
end Go.Proofs.Ytmmjkebboonnkaa.P
/- F2 -/
namespace Go.Proofs.Ytmmjkebboonnkaa.P
open Go.RowKit Go.Proofs.YtmmjkebboonnkaaW.PrintWords Go.Proofs.YtmmjkebboonnkaaW.PrintLast Go.Proofs.YtmmjkebboonnkaaW.PrintMore
attribute [local go_sem] max2_int min2_int max_two min_two max_three min_three max_four min_four   -- for this text's walks alone
set_option linter.unusedVariables false
set_option linter.unusedSimpArgs false
def larchref17_SameInts.l0 : Nat → List Int → List Int → Int → Option (Bool)
 | 0, _, _, _ => none
 | k + 1, x0, x1, x5 => if x5 < (x0.length : Int) then (if 0 ≤ x5 then (if x5 < (x1.length : Int) then (if (rd x0 x5) = (rd x1 x5) then (larchref17_SameInts.l0 k x0 x1 (wrap64 (x5 + 1))) else (some false)) else (none)) else (none)) else (some true)
def larchref17_SameInts.f (k : Nat) (l0 : List Int) (l1 : List Int) : Option (Bool) := if (l0.length : Int) = (l1.length : Int) then (larchref17_SameInts.l0 k l0 l1 0) else (some false)
theorem larchref17_SameInts.mono_l : ∀ k, (∀ y0 y1 y2, LeO (larchref17_SameInts.l0 k y0 y1 y2) (larchref17_SameInts.l0 (k + 1) y0 y1 y2))
 | 0 => fun _ _ _ r h => by simp [larchref17_SameInts.l0] at h
 | k + 1 => by
  have ih0 := larchref17_SameInts.mono_l k
  ·
   intro y0 y1 y2
   unfold larchref17_SameInts.l0
   repeat' first
   | (with_reducible exact ih0 _ _ _)
   | (with_reducible exact LeO.refl _)
   | (with_reducible exact LeO.none _)
   | (with_reducible refine LeO.ite ?_ ?_)
   | (with_reducible refine LeO.bind ?_ (fun _ => ?_))
   | exact ih0 _ _ _
   | exact LeO.none _
   | refine LeO.ite ?_ ?_
   | refine LeO.bind ?_ (fun _ => ?_)
theorem larchref17_SameInts.mono : ∀ a0 a1 k, LeO (larchref17_SameInts.f k a0 a1) (larchref17_SameInts.f (k + 1) a0 a1) := by
 intro a0 a1 k
 have ih0 := larchref17_SameInts.mono_l k
 unfold larchref17_SameInts.f
 repeat' first
   | (with_reducible exact ih0 _ _ _)
   | (with_reducible exact LeO.refl _)
   | (with_reducible exact LeO.none _)
   | (with_reducible refine LeO.ite ?_ ?_)
   | (with_reducible refine LeO.bind ?_ (fun _ => ?_))
   | exact ih0 _ _ _
   | exact LeO.none _
   | refine LeO.ite ?_ ?_
   | refine LeO.bind ?_ (fun _ => ?_)
set_option maxHeartbeats 8000000 in
set_option maxRecDepth 100000 in
theorem larchref17_SameInts.calls (k : Nat) (A0 : Option Addr) (c0 : Nat) (l0 : List Int) (A1 : Option Addr) (c1 : Nat) (l1 : List Int) (r : Bool) (w : World) (hr0 : Kd.C (Kd.int .i64) w A0 l0.length l0) (hc0 : l0.length ≤ c0) (hr1 : Kd.C (Kd.int .i64) w A1 l1.length l1) (hc1 : l1.length ≤ c1) (h : larchref17_SameInts.f k l0 l1 = some r) :
  Calls Try.prog 12 #[.slice A0 l0.length c0, .slice A1 l1.length c1] w fun e w' => e = .returned (.bool r) ∧ Drawn0 w w' := by
 have HR0 := Aside0.mk hr0
 have HC0 := Aside0.mk hc0
 clear hr0 hc0
 have HR1 := Aside0.mk hr1
 have HC1 := Aside0.mk hc1
 clear hr1 hc1
 have H : (if (l0.length : Int) = (l1.length : Int) then (larchref17_SameInts.l0 k l0 l1 0) else (some false)) = some r := h
 clear h
 by_cases c3 : (l0.length : Int) = (l1.length : Int)
 ·
  rw [if_pos c3] at H
  have c3b0 : ((l0.length : Int) == (l1.length : Int)) = true := beq_iff_eq.mpr c3
  have c3b1 : ((l0.length : Int) != (l1.length : Int)) = false := bne_eq_false_iff_eq.mpr c3
  have c3b2 : (l0.length == l1.length) = true := by first | simpa using c3 | (simp at c3 ⊢; omega)
  clear c3
  have H' := Aside0.mk H
  clear H
  go_enter Try.func12, Try.ntmps12
  go_wp2
  repeat (go_quiet (fail); try go_wp2)
  go_loopg [5] k (fun kq v5 w' => ∃ (x5_1 : Int), v5 = .int .i64 x5_1 ∧ Aside0 (larchref17_SameInts.l0 kq l0 l1 x5_1 = some r) ∧ Aside0 (kq ≤ k) ∧ Drawn0 w w')
  case atStart => exact ⟨(0), rs, H', ⟨Nat.le_refl _⟩, by repeat (first | exact Drawn0.refl _ | apply Drawn0.step)⟩
  case round =>
   clear H'
   try clear c1
   try clear p2
   try clear c3
   try clear c3b0
   try clear c3b1
   try clear c3b2
   obtain ⟨x5_1, rfl, HA, HK1, ⟨m1, rfl⟩⟩ := hrel
   cases gk with
   | zero => exact absurd HA.out (by simp [larchref17_SameInts.l0])
   | succ k1 =>
    have H := HA.out
    clear HA
    simp only [larchref17_SameInts.l0] at H
    by_cases c4 : x5_1 < (l0.length : Int)
    ·
     rw [if_pos c4] at H
     have c4b0 : decide (x5_1 < (l0.length : Int)) = true := decide_eq_true c4
     clear c4
     by_cases c5 : 0 ≤ x5_1
     ·
      rw [if_pos c5] at H
      have c5b0 : decide (0 ≤ x5_1) = true := decide_eq_true c5
      clear c5
      by_cases c6 : x5_1 < (l1.length : Int)
      ·
       rw [if_pos c6] at H
       have c6b0 : decide (x5_1 < (l1.length : Int)) = true := decide_eq_true c6
       clear c6
       by_cases c7 : (rd l0 x5_1) = (rd l1 x5_1)
       ·
        rw [if_pos c7] at H
        have c7b0 : ((rd l0 x5_1) == (rd l1 x5_1)) = true := beq_iff_eq.mpr c7
        have c7b1 : ((rd l0 x5_1) != (rd l1 x5_1)) = false := bne_eq_false_iff_eq.mpr c7
        clear c7
        have H' := Aside0.mk H
        clear H
        have p101 : 0 ≤ (x5_1 : Int) := dt
        have q101 : x5_1 < (l0.length : Int) := dt
        obtain ⟨ad101, e101, hx101_0⟩ := Kd.at_int HR0.out x5_1 p101 q101
        cases e101
        replace p101 := eq_true p101
        replace q101 := eq_true q101
        have p102 : 0 ≤ (x5_1 : Int) := dt
        have q102 : x5_1 < (l1.length : Int) := dt
        obtain ⟨ad102, e102, hx102_0⟩ := Kd.at_int HR1.out x5_1 p102 q102
        cases e102
        replace p102 := eq_true p102
        replace q102 := eq_true q102
        go_wp2
        repeat (go_quiet (fail); try go_wp2)
        go_roundg k1
        case measure => have := HK1.out; omega
        case rel => exact ⟨(wrap64 (x5_1 + 1)), rs, H', ⟨by have := HK1.out; omega⟩, by repeat (first | exact Drawn0.refl _ | apply Drawn0.step)⟩
       ·
        rw [if_neg c7] at H
        have c7b0 : ((rd l0 x5_1) == (rd l1 x5_1)) = false := beq_eq_false_iff_ne.mpr c7
        have c7b1 : ((rd l0 x5_1) != (rd l1 x5_1)) = true := bne_iff_ne.mpr c7
        obtain rfl := Option.some.inj H
        have p101 : 0 ≤ (x5_1 : Int) := dt
        have q101 : x5_1 < (l0.length : Int) := dt
        obtain ⟨ad101, e101, hx101_0⟩ := Kd.at_int HR0.out x5_1 p101 q101
        cases e101
        replace p101 := eq_true p101
        replace q101 := eq_true q101
        have p102 : 0 ≤ (x5_1 : Int) := dt
        have q102 : x5_1 < (l1.length : Int) := dt
        obtain ⟨ad102, e102, hx102_0⟩ := Kd.at_int HR1.out x5_1 p102 q102
        cases e102
        replace p102 := eq_true p102
        replace q102 := eq_true q102
        go_wp2
        repeat (go_quiet (fail); try go_wp2)
        go_ret
        exact ⟨by first | rfl | (simp; done) | (simp [*]; done), by repeat (first | exact Drawn0.refl _ | apply Drawn0.step)⟩
      ·
       rw [if_neg c6] at H
       exact absurd H (by simp)
     ·
      rw [if_neg c5] at H
      exact absurd H (by simp)
    ·
     rw [if_neg c4] at H
     have c4b0 : decide (x5_1 < (l0.length : Int)) = false := decide_eq_false c4
     clear c4
     obtain rfl := Option.some.inj H
     go_wp2
     repeat (go_quiet (fail); try go_wp2)
     go_ret
     exact ⟨by first | rfl | (simp; done) | (simp [*]; done), by repeat (first | exact Drawn0.refl _ | apply Drawn0.step)⟩
 ·
  rw [if_neg c3] at H
  have c3b0 : ((l0.length : Int) == (l1.length : Int)) = false := beq_eq_false_iff_ne.mpr c3
  have c3b1 : ((l0.length : Int) != (l1.length : Int)) = true := bne_iff_ne.mpr c3
  have c3b2 : (l0.length == l1.length) = false := by first | simpa using c3 | (simp at c3 ⊢; omega)
  obtain rfl := Option.some.inj H
  go_enter Try.func12, Try.ntmps12
  go_wp2
  repeat (go_quiet (fail); try go_wp2)
  go_ret
  exact ⟨by first | rfl | (simp; done) | (simp [*]; done), by repeat (first | exact Drawn0.refl _ | apply Drawn0.step)⟩
end Go.Proofs.Ytmmjkebboonnkaa.P
/- F25 -/
namespace Go.Proofs.Ytmmjkebboonnkaa.P
open Go.RowKit Go.Proofs.YtmmjkebboonnkaaW.PrintWords Go.Proofs.YtmmjkebboonnkaaW.PrintLast Go.Proofs.YtmmjkebboonnkaaW.PrintMore
attribute [local go_sem] max2_int min2_int max_two min_two max_three min_three max_four min_four   -- for this text's walks alone
set_option linter.unusedVariables false
set_option linter.unusedSimpArgs false
def larchlaw17_a.f  : Option ((List (S49))) := some (([(⟨0, 1, 1, 0, 1, 6⟩ : S49), (⟨0, 1, 1, 0, 2, 5⟩ : S49), (⟨7, 0, 1, 0, 3, 4⟩ : S49), (⟨5, 0, 1, 0, (-1), (-1)⟩ : S49), (⟨7, 0, 1, 0, (-1), (-1)⟩ : S49), (⟨0, 1, 1, 0, (-1), (-1)⟩ : S49), (⟨0, 1, 1, 0, (-1), (-1)⟩ : S49)] : List (S49)))
set_option maxHeartbeats 8000000 in
set_option maxRecDepth 100000 in
theorem larchlaw17_a.calls  (r : List (S49)) (w : World) (h : larchlaw17_a.f  = some r) :
  Calls Try.prog 43 #[] w fun e w' => ∃ v0_ : Value, e = .returned (v0_) ∧ Kd.R k49 49 w' w.heap.size (fun _ => True) v0_ r ∧ Below w.heap.size w w' := by
 have hu49 := Try.underlying49
 have HB := Aside0.mk (Below.refl w.heap.size w)
 have H : (some (([(⟨0, 1, 1, 0, 1, 6⟩ : S49), (⟨0, 1, 1, 0, 2, 5⟩ : S49), (⟨7, 0, 1, 0, 3, 4⟩ : S49), (⟨5, 0, 1, 0, (-1), (-1)⟩ : S49), (⟨7, 0, 1, 0, (-1), (-1)⟩ : S49), (⟨0, 1, 1, 0, (-1), (-1)⟩ : S49), (⟨0, 1, 1, 0, (-1), (-1)⟩ : S49)] : List (S49)))) = some r := h
 clear h
 obtain ⟨y246, hy246⟩ : ∃ y_ : List (S49), y_ = (([(⟨0, 1, 1, 0, 1, 6⟩ : S49), (⟨0, 1, 1, 0, 2, 5⟩ : S49), (⟨7, 0, 1, 0, 3, 4⟩ : S49), (⟨5, 0, 1, 0, (-1), (-1)⟩ : S49), (⟨7, 0, 1, 0, (-1), (-1)⟩ : S49), (⟨0, 1, 1, 0, (-1), (-1)⟩ : S49), (⟨0, 1, 1, 0, (-1), (-1)⟩ : S49)] : List (S49))) := ⟨_, rfl⟩
 replace H : (some y246) = some r := by first | (rw [hy246]; with_reducible exact H) | (have H2_ := (Option.bind_some _ _).symm.trans H; rw [hy246]; with_reducible exact H2_) | (have H2_ := (Option.bind_some _ _).symm.trans H; with_reducible exact H2_) | with_reducible exact H | (rw [hy246]; exact H) | exact H
 have Ny246 := Aside0.mk hy246
 clear hy246
 obtain rfl := Option.some.inj H
 go_enter Try.func43, Try.ntmps43
 go_wp2_with (first | ((with_reducible refine gate_dst (N := 8) rfl ?_); refine Kd.R_lit k49 _ 49 ?hg (N := 8) ?hd (xs := ([(⟨0, 1, 1, 0, 1, 6⟩ : S49), (⟨0, 1, 1, 0, 2, 5⟩ : S49), (⟨7, 0, 1, 0, 3, 4⟩ : S49), (⟨5, 0, 1, 0, (-1), (-1)⟩ : S49), (⟨7, 0, 1, 0, (-1), (-1)⟩ : S49), (⟨0, 1, 1, 0, (-1), (-1)⟩ : S49), (⟨0, 1, 1, 0, (-1), (-1)⟩ : S49)] : List (S49))) (inner := [.int .i64 0, .int .i64 1, .int .i64 1, .int .i64 0, .int .i64 1, .int .i64 6, .int .i64 0, .int .i64 1, .int .i64 1, .int .i64 0, .int .i64 2, .int .i64 5, .int .i64 7, .int .i64 0, .int .i64 1, .int .i64 0, .int .i64 3, .int .i64 4, .int .i64 5, .int .i64 0, .int .i64 1, .int .i64 0, .int .i64 (-1), .int .i64 (-1), .int .i64 7, .int .i64 0, .int .i64 1, .int .i64 0, .int .i64 (-1), .int .i64 (-1), .int .i64 0, .int .i64 1, .int .i64 1, .int .i64 0, .int .i64 (-1), .int .i64 (-1), .int .i64 0, .int .i64 1, .int .i64 1, .int .i64 0, .int .i64 (-1), .int .i64 (-1)]) (ok := fun _ => True) (okp := fun _ => True) ?hr ?hp (fun _ hk => hk) trivial (Below.refl _ _) (Nat.le_refl _) (by simp) ?_; (case hd => rfl); (case hg => rfl); (case hr => first | (go_simp; done) | (go_simp; rfl)); (case hp => exact (Reps.c6 (show Kd.M k49 _ _ _ (⟨0, 1, 1, 0, 1, 6⟩ : S49) [.int .i64 0, .int .i64 1, .int .i64 1, .int .i64 0, .int .i64 1, .int .i64 6] from (k49_mkM _ _ _ (⟨0, 1, 1, 0, 1, 6⟩ : S49) )) (Reps.c6 (show Kd.M k49 _ _ _ (⟨0, 1, 1, 0, 2, 5⟩ : S49) [.int .i64 0, .int .i64 1, .int .i64 1, .int .i64 0, .int .i64 2, .int .i64 5] from (k49_mkM _ _ _ (⟨0, 1, 1, 0, 2, 5⟩ : S49) )) (Reps.c6 (show Kd.M k49 _ _ _ (⟨7, 0, 1, 0, 3, 4⟩ : S49) [.int .i64 7, .int .i64 0, .int .i64 1, .int .i64 0, .int .i64 3, .int .i64 4] from (k49_mkM _ _ _ (⟨7, 0, 1, 0, 3, 4⟩ : S49) )) (Reps.c6 (show Kd.M k49 _ _ _ (⟨5, 0, 1, 0, (-1), (-1)⟩ : S49) [.int .i64 5, .int .i64 0, .int .i64 1, .int .i64 0, .int .i64 (-1), .int .i64 (-1)] from (k49_mkM _ _ _ (⟨5, 0, 1, 0, (-1), (-1)⟩ : S49) )) (Reps.c6 (show Kd.M k49 _ _ _ (⟨7, 0, 1, 0, (-1), (-1)⟩ : S49) [.int .i64 7, .int .i64 0, .int .i64 1, .int .i64 0, .int .i64 (-1), .int .i64 (-1)] from (k49_mkM _ _ _ (⟨7, 0, 1, 0, (-1), (-1)⟩ : S49) )) (Reps.c6 (show Kd.M k49 _ _ _ (⟨0, 1, 1, 0, (-1), (-1)⟩ : S49) [.int .i64 0, .int .i64 1, .int .i64 1, .int .i64 0, .int .i64 (-1), .int .i64 (-1)] from (k49_mkM _ _ _ (⟨0, 1, 1, 0, (-1), (-1)⟩ : S49) )) (Reps.c6 (show Kd.M k49 _ _ _ (⟨0, 1, 1, 0, (-1), (-1)⟩ : S49) [.int .i64 0, .int .i64 1, .int .i64 1, .int .i64 0, .int .i64 (-1), .int .i64 (-1)] from (k49_mkM _ _ _ (⟨0, 1, 1, 0, (-1), (-1)⟩ : S49) )) (Reps.none _ _))))))))); intro v247 w1 ho2 hb hg_ hnew_; clear hg_ hnew_; (first | rw [← Ny246.out] at ho2 | (simp only [Int.reduceToNat] at ho2; rw [← Ny246.out] at ho2)); have n0_ := Aside0.mk (Kd.R_lower ho2 (below_size (skB HB.out))); have n1_ := Aside0.mk (below_step (skB HB.out) hb); clear HB; have HO248 := n0_; have HB := n1_; clear n0_ n1_; clear hb ho2))
 go_ret
 exact ⟨_, re, skR HO248.out, skB HB.out⟩
end Go.Proofs.Ytmmjkebboonnkaa.P
/- F16 -/
namespace Go.Proofs.Ytmmjkebboonnkaa.P
open Go.RowKit Go.Proofs.YtmmjkebboonnkaaW.PrintWords Go.Proofs.YtmmjkebboonnkaaW.PrintLast Go.Proofs.YtmmjkebboonnkaaW.PrintMore
attribute [local go_sem] max2_int min2_int max_two min_two max_three min_three max_four min_four   -- for this text's walks alone
set_option linter.unusedVariables false
set_option linter.unusedSimpArgs false
def table_path.l0 : Nat → List (S49) → Int → Int → List Int → Option (List Int)
 | 0, _, _, _, _ => none
 | k + 1, x0, x1, x5, x6 => if 0 ≤ x5 then (if x5 < (x0.length : Int) then ((table_isLeaf.f ((rd_T49 x0 x5).f0) ((rd_T49 x0 x5).f1) ((rd_T49 x0 x5).f2) ((rd_T49 x0 x5).f3) ((rd_T49 x0 x5).f4) ((rd_T49 x0 x5).f5)).bind fun t202 => (if t202 = true then (some x6) else (if ((rd_T49 x0 x5).f1) = 1 then (if x6.length < 17592186044416 then (table_path.l0 k x0 x1 ((rd_T49 x0 x5).f4) (x6 ++ [(rd_T49 x0 x5).f4])) else (none)) else (if x1 < ((rd_T49 x0 x5).f0) then (if x6.length < 17592186044416 then (table_path.l0 k x0 x1 ((rd_T49 x0 x5).f4) (x6 ++ [(rd_T49 x0 x5).f4])) else (none)) else (if x6.length < 17592186044416 then (table_path.l0 k x0 x1 ((rd_T49 x0 x5).f5) (x6 ++ [(rd_T49 x0 x5).f5])) else (none)))))) else (none)) else (none)
def table_path.f (k : Nat) (l0 : List (S49)) (a1 : Int) : Option (List Int) := table_path.l0 k l0 a1 0 (([0] : List Int))
theorem table_path.mono_l : ∀ k, (∀ y0 y1 y2 y3, LeO (table_path.l0 k y0 y1 y2 y3) (table_path.l0 (k + 1) y0 y1 y2 y3))
 | 0 => fun _ _ _ _ r h => by simp [table_path.l0] at h
 | k + 1 => by
  have ih0 := table_path.mono_l k
  ·
   intro y0 y1 y2 y3
   unfold table_path.l0
   repeat' first
   | (with_reducible exact ih0 _ _ _ _)
   | (with_reducible exact LeO.refl _)
   | (with_reducible exact LeO.none _)
   | (with_reducible refine LeO.ite ?_ ?_)
   | (with_reducible refine LeO.bind ?_ (fun _ => ?_))
   | exact ih0 _ _ _ _
   | exact LeO.none _
   | refine LeO.ite ?_ ?_
   | refine LeO.bind ?_ (fun _ => ?_)
theorem table_path.mono : ∀ a0 a1 k, LeO (table_path.f k a0 a1) (table_path.f (k + 1) a0 a1) := by
 intro a0 a1 k
 have ih0 := table_path.mono_l k
 unfold table_path.f
 repeat' first
   | (with_reducible exact ih0 _ _ _ _)
   | (with_reducible exact LeO.refl _)
   | (with_reducible exact LeO.none _)
   | (with_reducible refine LeO.ite ?_ ?_)
   | (with_reducible refine LeO.bind ?_ (fun _ => ?_))
   | exact ih0 _ _ _ _
   | exact LeO.none _
   | refine LeO.ite ?_ ?_
   | refine LeO.bind ?_ (fun _ => ?_)
set_option maxHeartbeats 8000000 in
set_option maxRecDepth 100000 in
theorem table_path.calls (k : Nat) (A0 : Option Addr) (c0 : Nat) (l0 : List (S49)) (a1 : Int) (r : List Int) (w : World) (hr0 : Kd.C k49 w A0 l0.length l0) (hc0 : l0.length ≤ c0) (h : table_path.f k l0 a1 = some r) :
  Calls Try.prog 61 #[.slice A0 l0.length c0, .int .i64 a1] w fun e w' => ∃ v0_ : Value, e = .returned (v0_) ∧ Kd.R (Kd.int .i64) 3 w' w.heap.size (fun _ => True) v0_ r ∧ Below w.heap.size w w' := by
 have hu49 := Try.underlying49
 have HR0 := Aside0.mk hr0
 have HC0 := Aside0.mk hc0
 clear hr0 hc0
 have HB := Aside0.mk (Below.refl w.heap.size w)
 have H : (table_path.l0 k l0 a1 0 (([0] : List Int))) = some r := h
 clear h
 obtain ⟨y198, hy198⟩ : ∃ y_ : List Int, y_ = (([0] : List Int)) := ⟨_, rfl⟩
 replace H : (table_path.l0 k l0 a1 0 y198) = some r := by first | (rw [hy198]; with_reducible exact H) | (have H2_ := (Option.bind_some _ _).symm.trans H; rw [hy198]; with_reducible exact H2_) | (have H2_ := (Option.bind_some _ _).symm.trans H; with_reducible exact H2_) | with_reducible exact H | (rw [hy198]; exact H) | exact H
 have Ny198 := Aside0.mk hy198
 clear hy198
 have H' := Aside0.mk H
 clear H
 go_enter Try.func61, Try.ntmps61
 go_wp2_with (first | ((with_reducible refine gate_dst (N := 8) rfl ?_); refine Kd.R_lit (Kd.int .i64) _ 3 ?hg (N := 8) ?hd (xs := ([0] : List Int)) (inner := [.int .i64 0]) (ok := fun _ => True) (okp := fun _ => True) ?hr ?hp (fun _ hk => hk) trivial (Below.refl _ _) (Nat.le_refl _) (by simp) ?_; (case hd => rfl); (case hg => rfl); (case hr => first | (go_simp; done) | (go_simp; rfl)); (case hp => exact (Reps.one (show Kd.M (Kd.int .i64) _ _ _ 0 [.int .i64 0] from rfl) (Reps.none _ _))); intro v199 w3 ho4 hb hg_ hnew_; clear hg_ hnew_; (first | rw [← Ny198.out] at ho4 | (simp only [Int.reduceToNat] at ho4; rw [← Ny198.out] at ho4)); have n0_ := Aside0.mk (Kd.R_lower ho4 (below_size (skB HB.out))); have n1_ := Aside0.mk (below_step (skB HB.out) hb); clear HB; have HO200 := n0_; have HB := n1_; clear n0_ n1_; clear hb ho4))
 go_loopg [5, 6] k (fun kq v5 v6 w' => ∃ (x5_1 : Int) (x6_1 : List Int), v5 = .int .i64 x5_1 ∧ Aside0 (table_path.l0 kq l0 a1 x5_1 x6_1 = some r) ∧ Aside0 (kq ≤ k) ∧ Aside0 (Kd.R (Kd.int .i64) 3 w' w.heap.size (fun _ => True) v6 x6_1) ∧ Aside0 (Below w.heap.size w w'))
 case atStart => exact ⟨(0), (y198), rs, H', ⟨Nat.le_refl _⟩, ⟨skR HO200.out⟩, ⟨skB HB.out⟩⟩
 case round =>
  clear H'
  try clear p2
  obtain ⟨x5_1, x6_1, rfl, HA, HK1, HO_6, HB⟩ := hrel
  cases gk with
  | zero => exact absurd HA.out (by simp [table_path.l0])
  | succ k1 =>
   have H := HA.out
   clear HA
   simp only [table_path.l0] at H
   by_cases c5 : 0 ≤ x5_1
   ·
    rw [if_pos c5] at H
    have c5b0 : decide (0 ≤ x5_1) = true := decide_eq_true c5
    clear c5
    by_cases c6 : x5_1 < (l0.length : Int)
    ·
     rw [if_pos c6] at H
     have c6b0 : decide (x5_1 < (l0.length : Int)) = true := decide_eq_true c6
     clear c6
     replace H := Option.bind_eq_some_iff.mp H
     obtain ⟨t202, A70, H⟩ := H
     replace H : (if t202 = true then (some x6_1) else (if ((rd_T49 l0 x5_1).f1) = 1 then (if x6_1.length < 17592186044416 then (table_path.l0 k1 l0 a1 ((rd_T49 l0 x5_1).f4) (x6_1 ++ [(rd_T49 l0 x5_1).f4])) else (none)) else (if a1 < ((rd_T49 l0 x5_1).f0) then (if x6_1.length < 17592186044416 then (table_path.l0 k1 l0 a1 ((rd_T49 l0 x5_1).f4) (x6_1 ++ [(rd_T49 l0 x5_1).f4])) else (none)) else (if x6_1.length < 17592186044416 then (table_path.l0 k1 l0 a1 ((rd_T49 l0 x5_1).f5) (x6_1 ++ [(rd_T49 l0 x5_1).f5])) else (none))))) = some r := H
     have A7 := Aside0.mk A70
     clear A70
     by_cases c8 : t202 = true
     ·
      subst c8
      have H1 : (some x6_1) = some r := by rw [if_pos rfl] at H; exact H
      clear H
      have H := H1
      clear H1
      obtain rfl := Option.some.inj H
      have p201 : 0 ≤ (x5_1 : Int) := dt
      have q201 : x5_1 < (l0.length : Int) := dt
      obtain ⟨ad201, e201, hx201_0, hx201_1, hx201_2, hx201_3, hx201_4, hx201_5⟩ := at_T49 HR0.out x5_1 p201 q201
      cases e201
      replace hx201_0 := skc HB.out hx201_0
      replace hx201_1 := skc HB.out hx201_1
      replace hx201_2 := skc HB.out hx201_2
      replace hx201_3 := skc HB.out hx201_3
      replace hx201_4 := skc HB.out hx201_4
      replace hx201_5 := skc HB.out hx201_5
      replace p201 := eq_true p201
      replace q201 := eq_true q201
      go_wp2_with (first | ((with_reducible refine gate_callee (f := 66) rfl ?_); refine goesL_ (some 13) rfl rfl Try.func66 (by kernel_rfl) rfl #[.agg #[.int .i64 ((rd_T49 l0 x5_1).f0), .int .i64 ((rd_T49 l0 x5_1).f1), .int .i64 ((rd_T49 l0 x5_1).f2), .int .i64 ((rd_T49 l0 x5_1).f3), .int .i64 ((rd_T49 l0 x5_1).f4), .int .i64 ((rd_T49 l0 x5_1).f5)]] rfl ags ?_; (with_reducible refine (table_isLeaf.calls ((rd_T49 l0 x5_1).f0) ((rd_T49 l0 x5_1).f1) ((rd_T49 l0 x5_1).f2) ((rd_T49 l0 x5_1).f3) ((rd_T49 l0 x5_1).f4) ((rd_T49 l0 x5_1).f5) true _ A7.out).mono ?_); rintro e w9 ⟨rfl, hb⟩; refine ⟨_, rfl, ?_⟩; have n0_ := Aside0.mk (Kd.R_below (skR HO_6.out) hb); have n1_ := Aside0.mk (below_step (skB HB.out) hb); clear HO_6; clear HB; have HO_6 := n0_; have HB := n1_; clear n0_ n1_; (try clear hb); (try clear hb2); (try clear hk); (try clear hi)))
      go_ret
      exact ⟨_, re, skR HO_6.out, skB HB.out⟩
     ·
      replace c8 := Bool.eq_false_iff.mpr c8
      subst c8
      have H1 : (if ((rd_T49 l0 x5_1).f1) = 1 then (if x6_1.length < 17592186044416 then (table_path.l0 k1 l0 a1 ((rd_T49 l0 x5_1).f4) (x6_1 ++ [(rd_T49 l0 x5_1).f4])) else (none)) else (if a1 < ((rd_T49 l0 x5_1).f0) then (if x6_1.length < 17592186044416 then (table_path.l0 k1 l0 a1 ((rd_T49 l0 x5_1).f4) (x6_1 ++ [(rd_T49 l0 x5_1).f4])) else (none)) else (if x6_1.length < 17592186044416 then (table_path.l0 k1 l0 a1 ((rd_T49 l0 x5_1).f5) (x6_1 ++ [(rd_T49 l0 x5_1).f5])) else (none)))) = some r := by rw [if_neg (show ¬ (false = true) by decide)] at H; exact H
      clear H
      have H := H1
      clear H1
      by_cases c10 : ((rd_T49 l0 x5_1).f1) = 1
      ·
       rw [if_pos c10] at H
       have c10b0 : (((rd_T49 l0 x5_1).f1) == 1) = true := beq_iff_eq.mpr c10
       have c10b1 : (((rd_T49 l0 x5_1).f1) != 1) = false := bne_eq_false_iff_eq.mpr c10
       clear c10
       by_cases c11 : x6_1.length < 17592186044416
       ·
        rw [if_pos c11] at H
        have LMc11 := Aside0.mk c11
        clear c11
        obtain ⟨y205, hy205⟩ : ∃ y_ : List Int, y_ = (x6_1 ++ [(rd_T49 l0 x5_1).f4]) := ⟨_, rfl⟩
        replace H : (table_path.l0 k1 l0 a1 ((rd_T49 l0 x5_1).f4) y205) = some r := by first | (rw [hy205]; with_reducible exact H) | (have H2_ := (Option.bind_some _ _).symm.trans H; rw [hy205]; with_reducible exact H2_) | (have H2_ := (Option.bind_some _ _).symm.trans H; with_reducible exact H2_) | with_reducible exact H | (rw [hy205]; exact H) | exact H
        have Ny205 := Aside0.mk hy205
        clear hy205
        have H' := Aside0.mk H
        clear H
        have p201 : 0 ≤ (x5_1 : Int) := dt
        have q201 : x5_1 < (l0.length : Int) := dt
        obtain ⟨ad201, e201, hx201_0, hx201_1, hx201_2, hx201_3, hx201_4, hx201_5⟩ := at_T49 HR0.out x5_1 p201 q201
        cases e201
        replace hx201_0 := skc HB.out hx201_0
        replace hx201_1 := skc HB.out hx201_1
        replace hx201_2 := skc HB.out hx201_2
        replace hx201_3 := skc HB.out hx201_3
        replace hx201_4 := skc HB.out hx201_4
        replace hx201_5 := skc HB.out hx201_5
        replace p201 := eq_true p201
        replace q201 := eq_true q201
        go_wp2_with (first | ((with_reducible refine gate_callee (f := 66) rfl ?_); refine goesL_ (some 13) rfl rfl Try.func66 (by kernel_rfl) rfl #[.agg #[.int .i64 ((rd_T49 l0 x5_1).f0), .int .i64 ((rd_T49 l0 x5_1).f1), .int .i64 ((rd_T49 l0 x5_1).f2), .int .i64 ((rd_T49 l0 x5_1).f3), .int .i64 ((rd_T49 l0 x5_1).f4), .int .i64 ((rd_T49 l0 x5_1).f5)]] rfl ags ?_; (with_reducible refine (table_isLeaf.calls ((rd_T49 l0 x5_1).f0) ((rd_T49 l0 x5_1).f1) ((rd_T49 l0 x5_1).f2) ((rd_T49 l0 x5_1).f3) ((rd_T49 l0 x5_1).f4) ((rd_T49 l0 x5_1).f5) false _ A7.out).mono ?_); rintro e w12 ⟨rfl, hb⟩; refine ⟨_, rfl, ?_⟩; have n0_ := Aside0.mk (Kd.R_below (skR HO_6.out) hb); have n1_ := Aside0.mk (below_step (skB HB.out) hb); clear HO_6; clear HB; have HO_6 := n0_; have HB := n1_; clear n0_ n1_; (try clear hb); (try clear hb2); (try clear hk); (try clear hi); have p203 : 0 ≤ (x5_1 : Int) := dt; have q203 : x5_1 < (l0.length : Int) := dt; obtain ⟨ad203, e203, hx203_0, hx203_1, hx203_2, hx203_3, hx203_4, hx203_5⟩ := at_T49 HR0.out x5_1 p203 q203; obtain rfl : ad201 = ad203 := (by injection e203); replace hx203_0 := skc HB.out hx203_0; replace hx203_1 := skc HB.out hx203_1; replace hx203_2 := skc HB.out hx203_2; replace hx203_3 := skc HB.out hx203_3; replace hx203_4 := skc HB.out hx203_4; replace hx203_5 := skc HB.out hx203_5; replace p203 := eq_true p203; replace q203 := eq_true q203; have p204 : 0 ≤ (x5_1 : Int) := dt; have q204 : x5_1 < (l0.length : Int) := dt; obtain ⟨ad204, e204, hx204_0, hx204_1, hx204_2, hx204_3, hx204_4, hx204_5⟩ := at_T49 HR0.out x5_1 p204 q204; obtain rfl : ad201 = ad204 := (by injection e204); replace hx204_0 := skc HB.out hx204_0; replace hx204_1 := skc HB.out hx204_1; replace hx204_2 := skc HB.out hx204_2; replace hx204_3 := skc HB.out hx204_3; replace hx204_4 := skc HB.out hx204_4; replace hx204_5 := skc HB.out hx204_5; replace p204 := eq_true p204; replace q204 := eq_true q204) | ((with_reducible refine gate_builtin (b := .append) (xs := #[.tmp 40, .tmp 42]) rfl ?_); at_builtin; refine Kd.R_append (Kd.int .i64) (w0 := w) w.heap.size rfl (.tmp 40) (.tmp 42) 23 3 (.int .i64 0) 8 rfl Try.underlying23 info3 rfl (by decide) (by omega) u6 x6_1 ((rd_T49 l0 x5_1).f4) [.int .i64 ((rd_T49 l0 x5_1).f4)] (fun _ => True) (fun _ => False) rfl rfl ?aP (fun _ hk => hk.elim) ?aF ?aO ?aB ?aS ?aL ?_; (case aP => exact rfl); (case aB => exact (skB HB.out)); (case aF => exact (fun _ _ => trivial)); (case aO => exact (skR HO_6.out)); (case aS => exact (below_size (skB HB.out))); (case aL => have := LMc11.out; omega); intro v206 w13 ho hb hg hat; rw [← Ny205.out] at ho; have n0_ := Aside0.mk (hb); have n1_ := Aside0.mk (ho); clear HB; clear HO_6; have HB := n0_; have HO207 := n1_; clear n0_ n1_; clear ho hb hg hat))
        go_roundg k1
        case measure => have := HK1.out; omega
        case rel => exact ⟨((rd_T49 l0 x5_1).f4), (y205), rs, H', ⟨by have := HK1.out; omega⟩, ⟨skR HO207.out⟩, ⟨skB HB.out⟩⟩
       ·
        rw [if_neg c11] at H
        exact absurd H (by simp)
      ·
       rw [if_neg c10] at H
       have c10b0 : (((rd_T49 l0 x5_1).f1) == 1) = false := beq_eq_false_iff_ne.mpr c10
       have c10b1 : (((rd_T49 l0 x5_1).f1) != 1) = true := bne_iff_ne.mpr c10
       by_cases c14 : a1 < ((rd_T49 l0 x5_1).f0)
       ·
        rw [if_pos c14] at H
        have c14b0 : decide (a1 < ((rd_T49 l0 x5_1).f0)) = true := decide_eq_true c14
        clear c14
        by_cases c15 : x6_1.length < 17592186044416
        ·
         rw [if_pos c15] at H
         have LMc15 := Aside0.mk c15
         clear c15
         obtain ⟨y210, hy210⟩ : ∃ y_ : List Int, y_ = (x6_1 ++ [(rd_T49 l0 x5_1).f4]) := ⟨_, rfl⟩
         replace H : (table_path.l0 k1 l0 a1 ((rd_T49 l0 x5_1).f4) y210) = some r := by first | (rw [hy210]; with_reducible exact H) | (have H2_ := (Option.bind_some _ _).symm.trans H; rw [hy210]; with_reducible exact H2_) | (have H2_ := (Option.bind_some _ _).symm.trans H; with_reducible exact H2_) | with_reducible exact H | (rw [hy210]; exact H) | exact H
         have Ny210 := Aside0.mk hy210
         clear hy210
         have H' := Aside0.mk H
         clear H
         have p201 : 0 ≤ (x5_1 : Int) := dt
         have q201 : x5_1 < (l0.length : Int) := dt
         obtain ⟨ad201, e201, hx201_0, hx201_1, hx201_2, hx201_3, hx201_4, hx201_5⟩ := at_T49 HR0.out x5_1 p201 q201
         cases e201
         replace hx201_0 := skc HB.out hx201_0
         replace hx201_1 := skc HB.out hx201_1
         replace hx201_2 := skc HB.out hx201_2
         replace hx201_3 := skc HB.out hx201_3
         replace hx201_4 := skc HB.out hx201_4
         replace hx201_5 := skc HB.out hx201_5
         replace p201 := eq_true p201
         replace q201 := eq_true q201
         go_wp2_with (first | ((with_reducible refine gate_callee (f := 66) rfl ?_); refine goesL_ (some 13) rfl rfl Try.func66 (by kernel_rfl) rfl #[.agg #[.int .i64 ((rd_T49 l0 x5_1).f0), .int .i64 ((rd_T49 l0 x5_1).f1), .int .i64 ((rd_T49 l0 x5_1).f2), .int .i64 ((rd_T49 l0 x5_1).f3), .int .i64 ((rd_T49 l0 x5_1).f4), .int .i64 ((rd_T49 l0 x5_1).f5)]] rfl ags ?_; (with_reducible refine (table_isLeaf.calls ((rd_T49 l0 x5_1).f0) ((rd_T49 l0 x5_1).f1) ((rd_T49 l0 x5_1).f2) ((rd_T49 l0 x5_1).f3) ((rd_T49 l0 x5_1).f4) ((rd_T49 l0 x5_1).f5) false _ A7.out).mono ?_); rintro e w16 ⟨rfl, hb⟩; refine ⟨_, rfl, ?_⟩; have n0_ := Aside0.mk (Kd.R_below (skR HO_6.out) hb); have n1_ := Aside0.mk (below_step (skB HB.out) hb); clear HO_6; clear HB; have HO_6 := n0_; have HB := n1_; clear n0_ n1_; (try clear hb); (try clear hb2); (try clear hk); (try clear hi); have p203 : 0 ≤ (x5_1 : Int) := dt; have q203 : x5_1 < (l0.length : Int) := dt; obtain ⟨ad203, e203, hx203_0, hx203_1, hx203_2, hx203_3, hx203_4, hx203_5⟩ := at_T49 HR0.out x5_1 p203 q203; obtain rfl : ad201 = ad203 := (by injection e203); replace hx203_0 := skc HB.out hx203_0; replace hx203_1 := skc HB.out hx203_1; replace hx203_2 := skc HB.out hx203_2; replace hx203_3 := skc HB.out hx203_3; replace hx203_4 := skc HB.out hx203_4; replace hx203_5 := skc HB.out hx203_5; replace p203 := eq_true p203; replace q203 := eq_true q203; have p208 : 0 ≤ (x5_1 : Int) := dt; have q208 : x5_1 < (l0.length : Int) := dt; obtain ⟨ad208, e208, hx208_0, hx208_1, hx208_2, hx208_3, hx208_4, hx208_5⟩ := at_T49 HR0.out x5_1 p208 q208; obtain rfl : ad201 = ad208 := (by injection e208); replace hx208_0 := skc HB.out hx208_0; replace hx208_1 := skc HB.out hx208_1; replace hx208_2 := skc HB.out hx208_2; replace hx208_3 := skc HB.out hx208_3; replace hx208_4 := skc HB.out hx208_4; replace hx208_5 := skc HB.out hx208_5; replace p208 := eq_true p208; replace q208 := eq_true q208; have p209 : 0 ≤ (x5_1 : Int) := dt; have q209 : x5_1 < (l0.length : Int) := dt; obtain ⟨ad209, e209, hx209_0, hx209_1, hx209_2, hx209_3, hx209_4, hx209_5⟩ := at_T49 HR0.out x5_1 p209 q209; obtain rfl : ad201 = ad209 := (by injection e209); replace hx209_0 := skc HB.out hx209_0; replace hx209_1 := skc HB.out hx209_1; replace hx209_2 := skc HB.out hx209_2; replace hx209_3 := skc HB.out hx209_3; replace hx209_4 := skc HB.out hx209_4; replace hx209_5 := skc HB.out hx209_5; replace p209 := eq_true p209; replace q209 := eq_true q209) | ((with_reducible refine gate_builtin (b := .append) (xs := #[.tmp 40, .tmp 42]) rfl ?_); at_builtin; refine Kd.R_append (Kd.int .i64) (w0 := w) w.heap.size rfl (.tmp 40) (.tmp 42) 23 3 (.int .i64 0) 8 rfl Try.underlying23 info3 rfl (by decide) (by omega) u6 x6_1 ((rd_T49 l0 x5_1).f4) [.int .i64 ((rd_T49 l0 x5_1).f4)] (fun _ => True) (fun _ => False) rfl rfl ?aP (fun _ hk => hk.elim) ?aF ?aO ?aB ?aS ?aL ?_; (case aP => exact rfl); (case aB => exact (skB HB.out)); (case aF => exact (fun _ _ => trivial)); (case aO => exact (skR HO_6.out)); (case aS => exact (below_size (skB HB.out))); (case aL => have := LMc15.out; omega); intro v211 w17 ho hb hg hat; rw [← Ny210.out] at ho; have n0_ := Aside0.mk (hb); have n1_ := Aside0.mk (ho); clear HB; clear HO_6; have HB := n0_; have HO212 := n1_; clear n0_ n1_; clear ho hb hg hat))
         go_roundg k1
         case measure => have := HK1.out; omega
         case rel => exact ⟨((rd_T49 l0 x5_1).f4), (y210), rs, H', ⟨by have := HK1.out; omega⟩, ⟨skR HO212.out⟩, ⟨skB HB.out⟩⟩
        ·
         rw [if_neg c15] at H
         exact absurd H (by simp)
       ·
        rw [if_neg c14] at H
        have c14b0 : decide (a1 < ((rd_T49 l0 x5_1).f0)) = false := decide_eq_false c14
        clear c14
        by_cases c18 : x6_1.length < 17592186044416
        ·
         rw [if_pos c18] at H
         have LMc18 := Aside0.mk c18
         clear c18
         obtain ⟨y214, hy214⟩ : ∃ y_ : List Int, y_ = (x6_1 ++ [(rd_T49 l0 x5_1).f5]) := ⟨_, rfl⟩
         replace H : (table_path.l0 k1 l0 a1 ((rd_T49 l0 x5_1).f5) y214) = some r := by first | (rw [hy214]; with_reducible exact H) | (have H2_ := (Option.bind_some _ _).symm.trans H; rw [hy214]; with_reducible exact H2_) | (have H2_ := (Option.bind_some _ _).symm.trans H; with_reducible exact H2_) | with_reducible exact H | (rw [hy214]; exact H) | exact H
         have Ny214 := Aside0.mk hy214
         clear hy214
         have H' := Aside0.mk H
         clear H
         have p201 : 0 ≤ (x5_1 : Int) := dt
         have q201 : x5_1 < (l0.length : Int) := dt
         obtain ⟨ad201, e201, hx201_0, hx201_1, hx201_2, hx201_3, hx201_4, hx201_5⟩ := at_T49 HR0.out x5_1 p201 q201
         cases e201
         replace hx201_0 := skc HB.out hx201_0
         replace hx201_1 := skc HB.out hx201_1
         replace hx201_2 := skc HB.out hx201_2
         replace hx201_3 := skc HB.out hx201_3
         replace hx201_4 := skc HB.out hx201_4
         replace hx201_5 := skc HB.out hx201_5
         replace p201 := eq_true p201
         replace q201 := eq_true q201
         go_wp2_with (first | ((with_reducible refine gate_callee (f := 66) rfl ?_); refine goesL_ (some 13) rfl rfl Try.func66 (by kernel_rfl) rfl #[.agg #[.int .i64 ((rd_T49 l0 x5_1).f0), .int .i64 ((rd_T49 l0 x5_1).f1), .int .i64 ((rd_T49 l0 x5_1).f2), .int .i64 ((rd_T49 l0 x5_1).f3), .int .i64 ((rd_T49 l0 x5_1).f4), .int .i64 ((rd_T49 l0 x5_1).f5)]] rfl ags ?_; (with_reducible refine (table_isLeaf.calls ((rd_T49 l0 x5_1).f0) ((rd_T49 l0 x5_1).f1) ((rd_T49 l0 x5_1).f2) ((rd_T49 l0 x5_1).f3) ((rd_T49 l0 x5_1).f4) ((rd_T49 l0 x5_1).f5) false _ A7.out).mono ?_); rintro e w19 ⟨rfl, hb⟩; refine ⟨_, rfl, ?_⟩; have n0_ := Aside0.mk (Kd.R_below (skR HO_6.out) hb); have n1_ := Aside0.mk (below_step (skB HB.out) hb); clear HO_6; clear HB; have HO_6 := n0_; have HB := n1_; clear n0_ n1_; (try clear hb); (try clear hb2); (try clear hk); (try clear hi); have p203 : 0 ≤ (x5_1 : Int) := dt; have q203 : x5_1 < (l0.length : Int) := dt; obtain ⟨ad203, e203, hx203_0, hx203_1, hx203_2, hx203_3, hx203_4, hx203_5⟩ := at_T49 HR0.out x5_1 p203 q203; obtain rfl : ad201 = ad203 := (by injection e203); replace hx203_0 := skc HB.out hx203_0; replace hx203_1 := skc HB.out hx203_1; replace hx203_2 := skc HB.out hx203_2; replace hx203_3 := skc HB.out hx203_3; replace hx203_4 := skc HB.out hx203_4; replace hx203_5 := skc HB.out hx203_5; replace p203 := eq_true p203; replace q203 := eq_true q203; have p208 : 0 ≤ (x5_1 : Int) := dt; have q208 : x5_1 < (l0.length : Int) := dt; obtain ⟨ad208, e208, hx208_0, hx208_1, hx208_2, hx208_3, hx208_4, hx208_5⟩ := at_T49 HR0.out x5_1 p208 q208; obtain rfl : ad201 = ad208 := (by injection e208); replace hx208_0 := skc HB.out hx208_0; replace hx208_1 := skc HB.out hx208_1; replace hx208_2 := skc HB.out hx208_2; replace hx208_3 := skc HB.out hx208_3; replace hx208_4 := skc HB.out hx208_4; replace hx208_5 := skc HB.out hx208_5; replace p208 := eq_true p208; replace q208 := eq_true q208; have p213 : 0 ≤ (x5_1 : Int) := dt; have q213 : x5_1 < (l0.length : Int) := dt; obtain ⟨ad213, e213, hx213_0, hx213_1, hx213_2, hx213_3, hx213_4, hx213_5⟩ := at_T49 HR0.out x5_1 p213 q213; obtain rfl : ad201 = ad213 := (by injection e213); replace hx213_0 := skc HB.out hx213_0; replace hx213_1 := skc HB.out hx213_1; replace hx213_2 := skc HB.out hx213_2; replace hx213_3 := skc HB.out hx213_3; replace hx213_4 := skc HB.out hx213_4; replace hx213_5 := skc HB.out hx213_5; replace p213 := eq_true p213; replace q213 := eq_true q213) | ((with_reducible refine gate_builtin (b := .append) (xs := #[.tmp 40, .tmp 42]) rfl ?_); at_builtin; refine Kd.R_append (Kd.int .i64) (w0 := w) w.heap.size rfl (.tmp 40) (.tmp 42) 23 3 (.int .i64 0) 8 rfl Try.underlying23 info3 rfl (by decide) (by omega) u6 x6_1 ((rd_T49 l0 x5_1).f5) [.int .i64 ((rd_T49 l0 x5_1).f5)] (fun _ => True) (fun _ => False) rfl rfl ?aP (fun _ hk => hk.elim) ?aF ?aO ?aB ?aS ?aL ?_; (case aP => exact rfl); (case aB => exact (skB HB.out)); (case aF => exact (fun _ _ => trivial)); (case aO => exact (skR HO_6.out)); (case aS => exact (below_size (skB HB.out))); (case aL => have := LMc18.out; omega); intro v215 w20 ho hb hg hat; rw [← Ny214.out] at ho; have n0_ := Aside0.mk (hb); have n1_ := Aside0.mk (ho); clear HB; clear HO_6; have HB := n0_; have HO216 := n1_; clear n0_ n1_; clear ho hb hg hat))
         go_roundg k1
         case measure => have := HK1.out; omega
         case rel => exact ⟨((rd_T49 l0 x5_1).f5), (y214), rs, H', ⟨by have := HK1.out; omega⟩, ⟨skR HO216.out⟩, ⟨skB HB.out⟩⟩
        ·
         rw [if_neg c18] at H
         exact absurd H (by simp)
    ·
     rw [if_neg c6] at H
     exact absurd H (by simp)
   ·
    rw [if_neg c5] at H
    exact absurd H (by simp)
end Go.Proofs.Ytmmjkebboonnkaa.P
/- F27 -/
namespace Go.Proofs.Ytmmjkebboonnkaa.P
open Go.RowKit Go.Proofs.YtmmjkebboonnkaaW.PrintWords Go.Proofs.YtmmjkebboonnkaaW.PrintLast Go.Proofs.YtmmjkebboonnkaaW.PrintMore
attribute [local go_sem] max2_int min2_int max_two min_two max_three min_three max_four min_four   -- for this text's walks alone
set_option linter.unusedVariables false
set_option linter.unusedSimpArgs false
def larchlaw17_copied.f (l0 : List (S49)) : Option ((List (S49))) := (some (([] : List (S49)) : List (S49))).bind fun y276 => (if y276.length + l0.length < 2932031007402 then (some (y276 ++ l0)) else (none))
set_option maxHeartbeats 8000000 in
set_option maxRecDepth 100000 in
theorem larchlaw17_copied.calls (A0 : Option Addr) (c0 : Nat) (l0 : List (S49)) (r : List (S49)) (w : World) (hr0 : Kd.C k49 w A0 l0.length l0) (hc0 : l0.length ≤ c0) (h : larchlaw17_copied.f l0 = some r) :
  Calls Try.prog 10 #[.slice A0 l0.length c0] w fun e w' => ∃ v0_ : Value, e = .returned (v0_) ∧ Kd.R k49 49 w' w.heap.size (fun _ => True) v0_ r ∧ Below w.heap.size w w' := by
 have HR0 := Aside0.mk hr0
 have HC0 := Aside0.mk hc0
 clear hr0 hc0
 have HB := Aside0.mk (Below.refl w.heap.size w)
 have H : ((some (([] : List (S49)) : List (S49))).bind fun y276 => (if y276.length + l0.length < 2932031007402 then (some (y276 ++ l0)) else (none))) = some r := h
 clear h
 obtain ⟨y276, hy276⟩ : ∃ y_ : List (S49), y_ = (([] : List (S49))) := ⟨_, rfl⟩
 replace H : (if y276.length + l0.length < 2932031007402 then (some (y276 ++ l0)) else (none)) = some r := by first | (rw [hy276]; with_reducible exact H) | (have H2_ := (Option.bind_some _ _).symm.trans H; rw [hy276]; with_reducible exact H2_) | (have H2_ := (Option.bind_some _ _).symm.trans H; with_reducible exact H2_) | with_reducible exact H | (rw [hy276]; exact H) | exact H
 have Ny276 := Aside0.mk hy276
 clear hy276
 by_cases c2 : y276.length + l0.length < 2932031007402
 ·
  rw [if_pos c2] at H
  have LMc2 := Aside0.mk c2
  clear c2
  obtain ⟨y279, hy279⟩ : ∃ y_ : List (S49), y_ = (y276 ++ l0) := ⟨_, rfl⟩
  replace H : (some y279) = some r := by first | (rw [hy279]; with_reducible exact H) | (have H2_ := (Option.bind_some _ _).symm.trans H; rw [hy279]; with_reducible exact H2_) | (have H2_ := (Option.bind_some _ _).symm.trans H; with_reducible exact H2_) | with_reducible exact H | (rw [hy279]; exact H) | exact H
  have Ny279 := Aside0.mk hy279
  clear hy279
  obtain rfl := Option.some.inj H
  go_enter Try.func10, Try.ntmps10
  go_wp2_with (first | ((with_reducible refine gate_dst (N := 3) rfl ?_); refine Kd.R_lit k49 _ 49 ?hg (N := 3) ?hd (xs := ([] : List (S49))) (inner := []) (ok := fun _ => True) (okp := fun _ => True) ?hr ?hp (fun _ hk => hk) trivial (Below.refl _ _) (Nat.le_refl _) (by simp) ?_; (case hd => rfl); (case hg => rfl); (case hr => first | (go_simp; done) | (go_simp; rfl)); (case hp => exact (Reps.none _ _)); intro v277 w3 ho4 hb hg_ hnew_; clear hg_ hnew_; (first | rw [← Ny276.out] at ho4 | (simp only [Int.reduceToNat] at ho4; rw [← Ny276.out] at ho4)); have n0_ := Aside0.mk (Kd.R_lower ho4 (below_size (skB HB.out))); have n1_ := Aside0.mk (below_step (skB HB.out) hb); clear HB; have HO278 := n0_; have HB := n1_; clear n0_ n1_; clear hb ho4) | ((with_reducible refine gate_builtin (b := .append) (xs := #[.tmp 3, .tmp 4]) rfl ?_); at_builtin; refine Kd.R_append_rows k49 (w0 := w) w.heap.size rfl (.tmp 3) (.tmp 4) 22 49 (.agg #[(.int .i64 0), (.int .i64 0), (.int .i64 0), (.int .i64 0), (.int .i64 0), (.int .i64 0)]) 48 rfl Try.underlying22 info49 rfl (by decide) (by omega) v277 y276 l0 _ _ _ (fun _ => True) (fun _ => False) rfl rfl ?aO ?aR (fun _ _ h => h) (fun _ h => h.elim) ?aF ?aB ?aS ?aL ?_; (case aR => exact skC (Kd.C_below HR0.out HB.out)); (case aB => exact (skB HB.out)); (case aF => exact (fun _ _ => trivial)); (case aO => exact (skR HO278.out)); (case aS => exact (below_size (skB HB.out))); (case aL => have := LMc2.out; omega); intro v280 w5 ho hb hg hat; rw [← Ny279.out] at ho; have n0_ := Aside0.mk (hb); have n1_ := Aside0.mk (ho); clear HB; clear HO278; have HB := n0_; have HO281 := n1_; clear n0_ n1_; clear ho hb hg hat))
  go_ret
  exact ⟨_, re, skR HO281.out, skB HB.out⟩
 ·
  rw [if_neg c2] at H
  exact absurd H (by simp)
end Go.Proofs.Ytmmjkebboonnkaa.P
/- F44 -/
namespace Go.Proofs.Ytmmjkebboonnkaa.P
open Go.RowKit Go.Proofs.YtmmjkebboonnkaaW.PrintWords Go.Proofs.YtmmjkebboonnkaaW.PrintLast Go.Proofs.YtmmjkebboonnkaaW.PrintMore
attribute [local go_sem] max2_int min2_int max_two min_two max_three min_three max_four min_four   -- for this text's walks alone
set_option linter.unusedVariables false
set_option linter.unusedSimpArgs false
end Go.Proofs.Ytmmjkebboonnkaa.P
/- F48 -/
namespace Go.Proofs.Ytmmjkebboonnkaa.P
open Go.RowKit Go.Proofs.YtmmjkebboonnkaaW.PrintWords Go.Proofs.YtmmjkebboonnkaaW.PrintLast Go.Proofs.YtmmjkebboonnkaaW.PrintMore
attribute [local go_sem] max2_int min2_int max_two min_two max_three min_three max_four min_four   -- for this text's walks alone
set_option linter.unusedVariables false
set_option linter.unusedSimpArgs false
attribute [local go_sem high] eqA49
end Go.Proofs.Ytmmjkebboonnkaa.P
