/- P.weighFaults_holds, part 5 of 23: the contracts of the Go functions that the law calls, its own walk, and its plain law, for every input that the statement speaks of. -/
import Derived.Test.YtmmjkebboonnkaaMFaults2
import Derived.Test.YtmmjkebboonnkaaMFaults1
import Derived.Test.YtmmjkebboonnkaaMFaults3
set_option linter.unusedVariables false
set_option linter.unusedSimpArgs false
/- F34 -/
namespace Go.Proofs.Ytmmjkebboonnkaa.P
open Go.RowKit Go.Proofs.YtmmjkebboonnkaaW.PrintWords Go.Proofs.YtmmjkebboonnkaaW.PrintLast Go.Proofs.YtmmjkebboonnkaaW.PrintMore
attribute [local go_sem] max2_int min2_int max_two min_two max_three min_three max_four min_four   -- for this text's walks alone
set_option linter.unusedVariables false
set_option linter.unusedSimpArgs false
def larchref17_reds.l0 : Nat → List (S49) → List Int → List Bool → Int → Option (List Bool)
 | 0, _, _, _, _ => none
 | k + 1, x0, x1, x5, x6 => if x6 < (x1.length : Int) then (if 0 ≤ x6 then (if 0 ≤ (rd x1 x6) then (if (rd x1 x6) < (x0.length : Int) then ((larchref17_leaf.f ((rd_T49 x0 (rd x1 x6)).f0) ((rd_T49 x0 (rd x1 x6)).f1) ((rd_T49 x0 (rd x1 x6)).f2) ((rd_T49 x0 (rd x1 x6)).f3) ((rd_T49 x0 (rd x1 x6)).f4) ((rd_T49 x0 (rd x1 x6)).f5)).bind fun t349 => (if t349 = true then (larchref17_reds.l0 k x0 x1 x5 (wrap64 (x6 + 1))) else (if ((rd_T49 x0 (rd x1 x6)).f2) = 0 then (if 0 ≤ ((rd_T49 x0 (rd x1 x6)).f4) then (if ((rd_T49 x0 (rd x1 x6)).f4) < (x0.length : Int) then (if ((rd_T49 x0 (rd x1 x6)).f4) < (x5.length : Int) then (if 0 ≤ ((rd_T49 x0 (rd x1 x6)).f5) then (if ((rd_T49 x0 (rd x1 x6)).f5) < (x0.length : Int) then (if ((rd_T49 x0 (rd x1 x6)).f5) < (x5.length : Int) then (larchref17_reds.l0 k x0 x1 ((x5.set (((rd_T49 x0 (rd x1 x6)).f4) : Int).toNat (((rd_T49 x0 ((rd_T49 x0 (rd x1 x6)).f4)).f2) == 0)).set (((rd_T49 x0 (rd x1 x6)).f5) : Int).toNat (((rd_T49 x0 ((rd_T49 x0 (rd x1 x6)).f5)).f2) == 0)) (wrap64 (x6 + 1))) else (none)) else (none)) else (none)) else (none)) else (none)) else (none)) else (larchref17_reds.l0 k x0 x1 x5 (wrap64 (x6 + 1)))))) else (none)) else (none)) else (none)) else (some x5)
def larchref17_reds.f (k : Nat) (l0 : List (S49)) (l1 : List Int) : Option (List Bool) := if 0 ≤ (l0.length : Int) then (if ((l0.length : Int) : Int).toNat ≤ 281474976710656 then (larchref17_reds.l0 k l0 l1 (List.replicate ((l0.length : Int) : Int).toNat false) 0) else (none)) else (none)
def larchref17_reds.T7 : Bool × List (List Nat × List Nat) := (true, [([], []), ([], []), ([1], [1]), ([], []), ([], []), ([4], [4]), ([3, 5], [3, 5]), ([6], [6]), ([7], [7]), ([8], [8]), ([0, 2, 0, 1, 2, 3, 4, 5, 6, 7, 8, 9], [0, 2]), ([10, 9, 0, 1, 2, 3, 4, 5, 6, 7, 8, 9], [9, 10])])
def larchref17_reds.B7 : List Nat := [0, 0, 2, 0, 0, 16, 56, 120, 248, 504, 1023, 2047]
theorem larchref17_reds.tab7 : rtab .any (opsOf Try.f47 7) = larchref17_reds.T7 := by kernel_rfl
theorem larchref17_reds.bits7 : waitsOk larchref17_reds.T7.2 larchref17_reds.B7 = true := by kernel_rfl
def larchref17_reds.T8 : Bool × List (List Nat × List Nat) := (true, [([], []), ([], []), ([1], [1]), ([], []), ([], []), ([4], [4]), ([3, 5], [3, 5]), ([6], [6]), ([7], [7]), ([8], [8]), ([0, 2, 0, 1, 2, 3, 4, 5, 6, 7, 8, 9], [0, 2]), ([10, 9, 0, 1, 2, 3, 4, 5, 6, 7, 8, 9], [9, 10])])
def larchref17_reds.B8 : List Nat := [0, 0, 2, 0, 0, 16, 56, 120, 248, 504, 1023, 2047]
theorem larchref17_reds.tab8 : rtab .any (opsOf Try.f47 8) = larchref17_reds.T8 := by kernel_rfl
theorem larchref17_reds.bits8 : waitsOk larchref17_reds.T8.2 larchref17_reds.B8 = true := by kernel_rfl
set_option maxHeartbeats 8000000 in
set_option maxRecDepth 100000 in
theorem larchref17_reds.calls (k : Nat) (A0 : Option Addr) (c0 : Nat) (l0 : List (S49)) (A1 : Option Addr) (c1 : Nat) (l1 : List Int) (r : List Bool) (w : World) (hr0 : Kd.C k49 w A0 l0.length l0) (hc0 : l0.length ≤ c0) (hr1 : Kd.C (Kd.int .i64) w A1 l1.length l1) (hc1 : l1.length ≤ c1) (h : larchref17_reds.f k l0 l1 = some r) :
  Calls Try.prog 47 #[.slice A0 l0.length c0, .slice A1 l1.length c1] w fun e w' => ∃ v0_ : Value, e = .returned (v0_) ∧ Kd.R Kd.bool 4 w' w.heap.size (fun _ => True) v0_ r ∧ Below w.heap.size w w' := by
 have hu49 := Try.underlying49
 have HR0 := Aside0.mk hr0
 have HC0 := Aside0.mk hc0
 clear hr0 hc0
 have HR1 := Aside0.mk hr1
 have HC1 := Aside0.mk hc1
 clear hr1 hc1
 have HB := Aside0.mk (Below.refl w.heap.size w)
 have H : (if 0 ≤ (l0.length : Int) then (if ((l0.length : Int) : Int).toNat ≤ 281474976710656 then (larchref17_reds.l0 k l0 l1 (List.replicate ((l0.length : Int) : Int).toNat false) 0) else (none)) else (none)) = some r := h
 clear h
 by_cases c3 : 0 ≤ (l0.length : Int)
 ·
  rw [if_pos c3] at H
  have c3b0 := eq_true c3
  have c3b1 : decide (0 ≤ (l0.length : Int)) = true := decide_eq_true c3
  clear c3
  by_cases c4 : ((l0.length : Int) : Int).toNat ≤ 281474976710656
  ·
   rw [if_pos c4] at H
   have c4b0 := eq_true c4
   have c4b1 : decide (((l0.length : Int) : Int).toNat ≤ 281474976710656) = true := decide_eq_true c4
   clear c4
   obtain ⟨y343, hy343⟩ : ∃ y_ : List Bool, y_ = (List.replicate ((l0.length : Int) : Int).toNat false) := ⟨_, rfl⟩
   replace H : (larchref17_reds.l0 k l0 l1 y343 0) = some r := by first | (rw [hy343]; with_reducible exact H) | (have H2_ := (Option.bind_some _ _).symm.trans H; rw [hy343]; with_reducible exact H2_) | (have H2_ := (Option.bind_some _ _).symm.trans H; with_reducible exact H2_) | with_reducible exact H | (rw [hy343]; exact H) | exact H
   have Ny343 := Aside0.mk hy343
   clear hy343
   have H' := Aside0.mk H
   clear H
   go_enter Try.func47, Try.ntmps47
   go_wp2_with (first | ((with_reducible refine gate_dst (N := 10) rfl ?_); refine Kd.R_make Kd.bool _ 4 rfl (N := 10) rfl 60 _ _ rfl (l0.length : Int) rfl rfl Try.underlying60 (.bool false) 1 info4 rfl (by decide) (by omega) false (ok := fun _ => True) (okp := fun _ => True) rfl (fun _ hk => hk) trivial dt (Nat.le_trans (Nat.mul_le_mul_right _ (dt : (l0.length : Int).toNat ≤ 281474976710656)) (by omega)) (Below.refl _ _) (Nat.le_refl _) ?_; intro v344 w5 ho6 hb hg_ hnew_; clear hg_ hnew_; (first | rw [← Ny343.out] at ho6 | (simp only [Int.reduceToNat] at ho6; rw [← Ny343.out] at ho6)); have n0_ := Aside0.mk (Kd.R_lower ho6 (below_size (skB HB.out))); have n1_ := Aside0.mk (below_step (skB HB.out) hb); clear HB; have HO345 := n0_; have HB := n1_; clear n0_ n1_; clear hb ho6))
   go_loopg [6] k (fun kq v6 w' => ∃ (x5_1 : List Bool) (x6_1 : Int), v6 = .int .i64 x6_1 ∧ Aside0 (larchref17_reds.l0 kq l0 l1 x5_1 x6_1 = some r) ∧ Aside0 (kq ≤ k) ∧ Aside0 (Kd.R Kd.bool 4 w' w.heap.size (fun _ => True) v344 x5_1) ∧ Aside0 (Below w.heap.size w w'))
   case atStart => exact ⟨(y343), (0), rs, H', ⟨Nat.le_refl _⟩, ⟨skR HO345.out⟩, ⟨skB HB.out⟩⟩
   case round =>
    clear H'
    try clear c1
    try clear p2
    try clear c3
    try clear c3b0
    try clear c3b1
    try clear c4
    try clear c4b0
    try clear c4b1
    obtain ⟨x5_1, x6_1, rfl, HA, HK1, HO_5, HB⟩ := hrel
    cases gk with
    | zero => exact absurd HA.out (by simp [larchref17_reds.l0])
    | succ k1 =>
     have H := HA.out
     clear HA
     simp only [larchref17_reds.l0] at H
     by_cases c7 : x6_1 < (l1.length : Int)
     ·
      rw [if_pos c7] at H
      have c7b0 : decide (x6_1 < (l1.length : Int)) = true := decide_eq_true c7
      clear c7
      by_cases c8 : 0 ≤ x6_1
      ·
       rw [if_pos c8] at H
       have c8b0 : decide (0 ≤ x6_1) = true := decide_eq_true c8
       clear c8
       by_cases c9 : 0 ≤ (rd l1 x6_1)
       ·
        rw [if_pos c9] at H
        have c9b0 : decide (0 ≤ (rd l1 x6_1)) = true := decide_eq_true c9
        clear c9
        by_cases c10 : (rd l1 x6_1) < (l0.length : Int)
        ·
         rw [if_pos c10] at H
         have c10b0 : decide ((rd l1 x6_1) < (l0.length : Int)) = true := decide_eq_true c10
         clear c10
         replace H := Option.bind_eq_some_iff.mp H
         obtain ⟨t349, A110, H⟩ := H
         replace H : (if t349 = true then (larchref17_reds.l0 k1 l0 l1 x5_1 (wrap64 (x6_1 + 1))) else (if ((rd_T49 l0 (rd l1 x6_1)).f2) = 0 then (if 0 ≤ ((rd_T49 l0 (rd l1 x6_1)).f4) then (if ((rd_T49 l0 (rd l1 x6_1)).f4) < (l0.length : Int) then (if ((rd_T49 l0 (rd l1 x6_1)).f4) < (x5_1.length : Int) then (if 0 ≤ ((rd_T49 l0 (rd l1 x6_1)).f5) then (if ((rd_T49 l0 (rd l1 x6_1)).f5) < (l0.length : Int) then (if ((rd_T49 l0 (rd l1 x6_1)).f5) < (x5_1.length : Int) then (larchref17_reds.l0 k1 l0 l1 ((x5_1.set (((rd_T49 l0 (rd l1 x6_1)).f4) : Int).toNat (((rd_T49 l0 ((rd_T49 l0 (rd l1 x6_1)).f4)).f2) == 0)).set (((rd_T49 l0 (rd l1 x6_1)).f5) : Int).toNat (((rd_T49 l0 ((rd_T49 l0 (rd l1 x6_1)).f5)).f2) == 0)) (wrap64 (x6_1 + 1))) else (none)) else (none)) else (none)) else (none)) else (none)) else (none)) else (larchref17_reds.l0 k1 l0 l1 x5_1 (wrap64 (x6_1 + 1))))) = some r := H
         have A11 := Aside0.mk A110
         clear A110
         by_cases c12 : t349 = true
         ·
          subst c12
          have H1 : (larchref17_reds.l0 k1 l0 l1 x5_1 (wrap64 (x6_1 + 1))) = some r := by rw [if_pos rfl] at H; exact H
          clear H
          have H := H1
          clear H1
          have H' := Aside0.mk H
          clear H
          have p346 : 0 ≤ (x6_1 : Int) := dt
          have q346 : x6_1 < (l1.length : Int) := dt
          obtain ⟨ad346, e346, hx346_0⟩ := Kd.at_int HR1.out x6_1 p346 q346
          cases e346
          replace hx346_0 := skc HB.out hx346_0
          replace p346 := eq_true p346
          replace q346 := eq_true q346
          have p347 : 0 ≤ ((rd l1 x6_1) : Int) := dt
          have q347 : (rd l1 x6_1) < (l0.length : Int) := dt
          obtain ⟨ad347, e347, hx347_0, hx347_1, hx347_2, hx347_3, hx347_4, hx347_5⟩ := at_T49 HR0.out (rd l1 x6_1) p347 q347
          cases e347
          replace hx347_0 := skc HB.out hx347_0
          replace hx347_1 := skc HB.out hx347_1
          replace hx347_2 := skc HB.out hx347_2
          replace hx347_3 := skc HB.out hx347_3
          replace hx347_4 := skc HB.out hx347_4
          replace hx347_5 := skc HB.out hx347_5
          replace p347 := eq_true p347
          replace q347 := eq_true q347
          go_wp2_with (first | ((with_reducible refine gate_dst (N := 7) rfl ?_); refine box_event ?hg (N := 7) ?hd (cs := #[.int .i64 0, .int .i64 0, .int .i64 0, .int .i64 0, .int .i64 0, .int .i64 0]) (t := 49) ?hr ?_; (case hd => rfl); (case hg => rfl); (case hr => first | (go_simp; done) | (go_simp; rfl)); intro gb348 hg w13 hbox hb; have n0_ := Aside0.mk (Kd.R_below (skR HO_5.out) hb); have n1_ := Aside0.mk (below_step (skB HB.out) hb); have n2_ := Aside0.mk (hbox); have n3_ := Aside0.mk ((by rw [hg]; exact (below_size (skB HB.out)) : w.heap.size ≤ gb348)); have n4_ := Aside0.mk ((by rw [hg]; exact (below_size (skB HB.out)) : w.heap.size ≤ gb348)); clear HO_5; clear HB; have HO_5 := n0_; have HB := n1_; have BK348 := n2_; have GW348 := n3_; have GE348 := n4_; clear n0_ n1_ n2_ n3_ n4_; clear hb hbox hg; obtain ⟨hcz14_0, hcz14_1, hcz14_2, hcz14_3, hcz14_4, hcz14_5, hfz14_0, hfz14_1, hfz14_2, hfz14_3, hfz14_4, hfz14_5⟩ := bk6 BK348.out) | ((with_reducible refine gate_callee (f := 53) rfl ?_); refine goesL_ (some 25) rfl rfl Try.func53 (by kernel_rfl) rfl #[.agg #[.int .i64 ((rd_T49 l0 (rd l1 x6_1)).f0), .int .i64 ((rd_T49 l0 (rd l1 x6_1)).f1), .int .i64 ((rd_T49 l0 (rd l1 x6_1)).f2), .int .i64 ((rd_T49 l0 (rd l1 x6_1)).f3), .int .i64 ((rd_T49 l0 (rd l1 x6_1)).f4), .int .i64 ((rd_T49 l0 (rd l1 x6_1)).f5)]] rfl ags ?_; (with_reducible refine (larchref17_leaf.calls ((rd_T49 l0 (rd l1 x6_1)).f0) ((rd_T49 l0 (rd l1 x6_1)).f1) ((rd_T49 l0 (rd l1 x6_1)).f2) ((rd_T49 l0 (rd l1 x6_1)).f3) ((rd_T49 l0 (rd l1 x6_1)).f4) ((rd_T49 l0 (rd l1 x6_1)).f5) true _ A11.out).mono ?_); rintro e w15 ⟨rfl, hb⟩; refine ⟨_, rfl, ?_⟩; have n0_ := Aside0.mk (Kd.R_below (skR (Kd.R_mono (Kd.R_far (p := ⟨gb348, 5, none⟩) (Kd.R_far (p := ⟨gb348, 4, none⟩) (Kd.R_far (p := ⟨gb348, 3, none⟩) (Kd.R_far (p := ⟨gb348, 2, none⟩) (Kd.R_far (p := ⟨gb348, 1, none⟩) (Kd.R_far (p := ⟨gb348, 0, none⟩) (Kd.R_types HO_5.out BK348.out (by decide)) (fun _ hk => hk.2) (.int .i64 ((rd_T49 l0 (rd l1 x6_1)).f0))) (fun _ hk => hk.2) (.int .i64 ((rd_T49 l0 (rd l1 x6_1)).f1))) (fun _ hk => hk.2) (.int .i64 ((rd_T49 l0 (rd l1 x6_1)).f2))) (fun _ hk => hk.2) (.int .i64 ((rd_T49 l0 (rd l1 x6_1)).f3))) (fun _ hk => hk.2) (.int .i64 ((rd_T49 l0 (rd l1 x6_1)).f4))) (fun _ hk => hk.2) (.int .i64 ((rd_T49 l0 (rd l1 x6_1)).f5))) (fun _ h_ => h_.1))) hb); have n1_ := Aside0.mk (blk_below (g := gb348) (o := .cells #[.int .i64 ((rd_T49 l0 (rd l1 x6_1)).f0), .int .i64 ((rd_T49 l0 (rd l1 x6_1)).f1), .int .i64 ((rd_T49 l0 (rd l1 x6_1)).f2), .int .i64 ((rd_T49 l0 (rd l1 x6_1)).f3), .int .i64 ((rd_T49 l0 (rd l1 x6_1)).f4), .int .i64 ((rd_T49 l0 (rd l1 x6_1)).f5)] 49 (0, 0)) (by refine skk ?_; refine blk_put (cs := #[.int .i64 ((rd_T49 l0 (rd l1 x6_1)).f0), .int .i64 ((rd_T49 l0 (rd l1 x6_1)).f1), .int .i64 ((rd_T49 l0 (rd l1 x6_1)).f2), .int .i64 ((rd_T49 l0 (rd l1 x6_1)).f3), .int .i64 ((rd_T49 l0 (rd l1 x6_1)).f4), .int .i64 0]) ?_ 5 _ rfl; refine skk ?_; refine blk_put (cs := #[.int .i64 ((rd_T49 l0 (rd l1 x6_1)).f0), .int .i64 ((rd_T49 l0 (rd l1 x6_1)).f1), .int .i64 ((rd_T49 l0 (rd l1 x6_1)).f2), .int .i64 ((rd_T49 l0 (rd l1 x6_1)).f3), .int .i64 0, .int .i64 0]) ?_ 4 _ rfl; refine skk ?_; refine blk_put (cs := #[.int .i64 ((rd_T49 l0 (rd l1 x6_1)).f0), .int .i64 ((rd_T49 l0 (rd l1 x6_1)).f1), .int .i64 ((rd_T49 l0 (rd l1 x6_1)).f2), .int .i64 0, .int .i64 0, .int .i64 0]) ?_ 3 _ rfl; refine skk ?_; refine blk_put (cs := #[.int .i64 ((rd_T49 l0 (rd l1 x6_1)).f0), .int .i64 ((rd_T49 l0 (rd l1 x6_1)).f1), .int .i64 0, .int .i64 0, .int .i64 0, .int .i64 0]) ?_ 2 _ rfl; refine skk ?_; refine blk_put (cs := #[.int .i64 ((rd_T49 l0 (rd l1 x6_1)).f0), .int .i64 0, .int .i64 0, .int .i64 0, .int .i64 0, .int .i64 0]) ?_ 1 _ rfl; refine skk ?_; refine blk_put (cs := #[.int .i64 0, .int .i64 0, .int .i64 0, .int .i64 0, .int .i64 0, .int .i64 0]) ?_ 0 _ rfl; refine skk ?_; exact BK348.out) hb); have n2_ := Aside0.mk (below_step (by repeat (first | (with_reducible first | exact HB.out | apply below_alloc | apply pw_below_drewN | apply below_drew1 | refine below_set ?_ GE348.out) | exact HB.out)) hb); clear HO_5; clear BK348; clear HB; have HO_5 := n0_; have BK348 := n1_; have HB := n2_; clear n0_ n1_ n2_; (try clear hb); (try clear hb2); (try clear hk); (try clear hi)))
          go_roundg k1
          case measure => have := HK1.out; omega
          case rel => exact ⟨(x5_1), (wrap64 (x6_1 + 1)), rs, H', ⟨by have := HK1.out; omega⟩, ⟨skR HO_5.out⟩, ⟨by repeat (first | (with_reducible first | exact HB.out | apply below_alloc | apply pw_below_drewN | apply below_drew1 | refine below_set ?_ GE348.out) | exact HB.out)⟩⟩
         ·
          replace c12 := Bool.eq_false_iff.mpr c12
          subst c12
          have H1 : (if ((rd_T49 l0 (rd l1 x6_1)).f2) = 0 then (if 0 ≤ ((rd_T49 l0 (rd l1 x6_1)).f4) then (if ((rd_T49 l0 (rd l1 x6_1)).f4) < (l0.length : Int) then (if ((rd_T49 l0 (rd l1 x6_1)).f4) < (x5_1.length : Int) then (if 0 ≤ ((rd_T49 l0 (rd l1 x6_1)).f5) then (if ((rd_T49 l0 (rd l1 x6_1)).f5) < (l0.length : Int) then (if ((rd_T49 l0 (rd l1 x6_1)).f5) < (x5_1.length : Int) then (larchref17_reds.l0 k1 l0 l1 ((x5_1.set (((rd_T49 l0 (rd l1 x6_1)).f4) : Int).toNat (((rd_T49 l0 ((rd_T49 l0 (rd l1 x6_1)).f4)).f2) == 0)).set (((rd_T49 l0 (rd l1 x6_1)).f5) : Int).toNat (((rd_T49 l0 ((rd_T49 l0 (rd l1 x6_1)).f5)).f2) == 0)) (wrap64 (x6_1 + 1))) else (none)) else (none)) else (none)) else (none)) else (none)) else (none)) else (larchref17_reds.l0 k1 l0 l1 x5_1 (wrap64 (x6_1 + 1)))) = some r := by rw [if_neg (show ¬ (false = true) by decide)] at H; exact H
          clear H
          have H := H1
          clear H1
          by_cases c16 : ((rd_T49 l0 (rd l1 x6_1)).f2) = 0
          ·
           rw [if_pos c16] at H
           have c16b0 : (((rd_T49 l0 (rd l1 x6_1)).f2) == 0) = true := beq_iff_eq.mpr c16
           have c16b1 : (((rd_T49 l0 (rd l1 x6_1)).f2) != 0) = false := bne_eq_false_iff_eq.mpr c16
           clear c16
           by_cases c17 : 0 ≤ ((rd_T49 l0 (rd l1 x6_1)).f4)
           ·
            rw [if_pos c17] at H
            have c17b0 : decide (0 ≤ ((rd_T49 l0 (rd l1 x6_1)).f4)) = true := decide_eq_true c17
            clear c17
            by_cases c18 : ((rd_T49 l0 (rd l1 x6_1)).f4) < (l0.length : Int)
            ·
             rw [if_pos c18] at H
             have c18b0 : decide (((rd_T49 l0 (rd l1 x6_1)).f4) < (l0.length : Int)) = true := decide_eq_true c18
             clear c18
             by_cases c19 : ((rd_T49 l0 (rd l1 x6_1)).f4) < (x5_1.length : Int)
             ·
              rw [if_pos c19] at H
              have c19b0 : decide (((rd_T49 l0 (rd l1 x6_1)).f4) < (x5_1.length : Int)) = true := decide_eq_true c19
              clear c19
              obtain ⟨y351, hy351⟩ : ∃ y_ : List Bool, y_ = (x5_1.set (((rd_T49 l0 (rd l1 x6_1)).f4) : Int).toNat (((rd_T49 l0 ((rd_T49 l0 (rd l1 x6_1)).f4)).f2) == 0)) := ⟨_, rfl⟩
              replace H : (if 0 ≤ ((rd_T49 l0 (rd l1 x6_1)).f5) then (if ((rd_T49 l0 (rd l1 x6_1)).f5) < (l0.length : Int) then (if ((rd_T49 l0 (rd l1 x6_1)).f5) < (x5_1.length : Int) then (larchref17_reds.l0 k1 l0 l1 (y351.set (((rd_T49 l0 (rd l1 x6_1)).f5) : Int).toNat (((rd_T49 l0 ((rd_T49 l0 (rd l1 x6_1)).f5)).f2) == 0)) (wrap64 (x6_1 + 1))) else (none)) else (none)) else (none)) = some r := by first | (rw [hy351]; with_reducible exact H) | (have H2_ := (Option.bind_some _ _).symm.trans H; rw [hy351]; with_reducible exact H2_) | (have H2_ := (Option.bind_some _ _).symm.trans H; with_reducible exact H2_) | with_reducible exact H | (rw [hy351]; exact H) | exact H
              have Ny351 := Aside0.mk hy351
              clear hy351
              by_cases c21 : 0 ≤ ((rd_T49 l0 (rd l1 x6_1)).f5)
              ·
               rw [if_pos c21] at H
               have c21b0 : decide (0 ≤ ((rd_T49 l0 (rd l1 x6_1)).f5)) = true := decide_eq_true c21
               clear c21
               by_cases c22 : ((rd_T49 l0 (rd l1 x6_1)).f5) < (l0.length : Int)
               ·
                rw [if_pos c22] at H
                have c22b0 : decide (((rd_T49 l0 (rd l1 x6_1)).f5) < (l0.length : Int)) = true := decide_eq_true c22
                clear c22
                by_cases c23 : ((rd_T49 l0 (rd l1 x6_1)).f5) < (x5_1.length : Int)
                ·
                 rw [if_pos c23] at H
                 have c23b0 : decide (((rd_T49 l0 (rd l1 x6_1)).f5) < (x5_1.length : Int)) = true := decide_eq_true c23
                 clear c23
                 obtain ⟨y353, hy353⟩ : ∃ y_ : List Bool, y_ = (y351.set (((rd_T49 l0 (rd l1 x6_1)).f5) : Int).toNat (((rd_T49 l0 ((rd_T49 l0 (rd l1 x6_1)).f5)).f2) == 0)) := ⟨_, rfl⟩
                 replace H : (larchref17_reds.l0 k1 l0 l1 y353 (wrap64 (x6_1 + 1))) = some r := by first | (rw [hy353]; with_reducible exact H) | (have H2_ := (Option.bind_some _ _).symm.trans H; rw [hy353]; with_reducible exact H2_) | (have H2_ := (Option.bind_some _ _).symm.trans H; with_reducible exact H2_) | with_reducible exact H | (rw [hy353]; exact H) | exact H
                 have Ny353 := Aside0.mk hy353
                 clear hy353
                 have H' := Aside0.mk H
                 clear H
                 have p346 : 0 ≤ (x6_1 : Int) := dt
                 have q346 : x6_1 < (l1.length : Int) := dt
                 obtain ⟨ad346, e346, hx346_0⟩ := Kd.at_int HR1.out x6_1 p346 q346
                 cases e346
                 replace hx346_0 := skc HB.out hx346_0
                 replace p346 := eq_true p346
                 replace q346 := eq_true q346
                 have p347 : 0 ≤ ((rd l1 x6_1) : Int) := dt
                 have q347 : (rd l1 x6_1) < (l0.length : Int) := dt
                 obtain ⟨ad347, e347, hx347_0, hx347_1, hx347_2, hx347_3, hx347_4, hx347_5⟩ := at_T49 HR0.out (rd l1 x6_1) p347 q347
                 cases e347
                 replace hx347_0 := skc HB.out hx347_0
                 replace hx347_1 := skc HB.out hx347_1
                 replace hx347_2 := skc HB.out hx347_2
                 replace hx347_3 := skc HB.out hx347_3
                 replace hx347_4 := skc HB.out hx347_4
                 replace hx347_5 := skc HB.out hx347_5
                 replace p347 := eq_true p347
                 replace q347 := eq_true q347
                 try go_wp2_with (first | ((with_reducible refine gate_dst (N := 7) rfl ?_); refine box_event ?hg (N := 7) ?hd (cs := #[.int .i64 0, .int .i64 0, .int .i64 0, .int .i64 0, .int .i64 0, .int .i64 0]) (t := 49) ?hr ?_; (case hd => rfl); (case hg => rfl); (case hr => first | (go_simp; done) | (go_simp; rfl)); intro gb348 hg w25 hbox hb; have n0_ := Aside0.mk (Kd.R_below (skR HO_5.out) hb); have n1_ := Aside0.mk (below_step (skB HB.out) hb); have n2_ := Aside0.mk (hbox); have n3_ := Aside0.mk ((by rw [hg]; exact (below_size (skB HB.out)) : w.heap.size ≤ gb348)); have n4_ := Aside0.mk ((by rw [hg]; exact (below_size (skB HB.out)) : w.heap.size ≤ gb348)); clear HO_5; clear HB; have HO_5 := n0_; have HB := n1_; have BK348 := n2_; have GW348 := n3_; have GE348 := n4_; clear n0_ n1_ n2_ n3_ n4_; clear hb hbox hg; obtain ⟨hcz26_0, hcz26_1, hcz26_2, hcz26_3, hcz26_4, hcz26_5, hfz26_0, hfz26_1, hfz26_2, hfz26_3, hfz26_4, hfz26_5⟩ := bk6 BK348.out) | ((with_reducible refine gate_callee (f := 53) rfl ?_); refine goesL_ (some 25) rfl rfl Try.func53 (by kernel_rfl) rfl #[.agg #[.int .i64 ((rd_T49 l0 (rd l1 x6_1)).f0), .int .i64 ((rd_T49 l0 (rd l1 x6_1)).f1), .int .i64 ((rd_T49 l0 (rd l1 x6_1)).f2), .int .i64 ((rd_T49 l0 (rd l1 x6_1)).f3), .int .i64 ((rd_T49 l0 (rd l1 x6_1)).f4), .int .i64 ((rd_T49 l0 (rd l1 x6_1)).f5)]] rfl ags ?_; (with_reducible refine (larchref17_leaf.calls ((rd_T49 l0 (rd l1 x6_1)).f0) ((rd_T49 l0 (rd l1 x6_1)).f1) ((rd_T49 l0 (rd l1 x6_1)).f2) ((rd_T49 l0 (rd l1 x6_1)).f3) ((rd_T49 l0 (rd l1 x6_1)).f4) ((rd_T49 l0 (rd l1 x6_1)).f5) false _ A11.out).mono ?_); rintro e w27 ⟨rfl, hb⟩; refine ⟨_, rfl, ?_⟩; have n0_ := Aside0.mk (Kd.R_below (skR (Kd.R_mono (Kd.R_far (p := ⟨gb348, 5, none⟩) (Kd.R_far (p := ⟨gb348, 4, none⟩) (Kd.R_far (p := ⟨gb348, 3, none⟩) (Kd.R_far (p := ⟨gb348, 2, none⟩) (Kd.R_far (p := ⟨gb348, 1, none⟩) (Kd.R_far (p := ⟨gb348, 0, none⟩) (Kd.R_types HO_5.out BK348.out (by decide)) (fun _ hk => hk.2) (.int .i64 ((rd_T49 l0 (rd l1 x6_1)).f0))) (fun _ hk => hk.2) (.int .i64 ((rd_T49 l0 (rd l1 x6_1)).f1))) (fun _ hk => hk.2) (.int .i64 ((rd_T49 l0 (rd l1 x6_1)).f2))) (fun _ hk => hk.2) (.int .i64 ((rd_T49 l0 (rd l1 x6_1)).f3))) (fun _ hk => hk.2) (.int .i64 ((rd_T49 l0 (rd l1 x6_1)).f4))) (fun _ hk => hk.2) (.int .i64 ((rd_T49 l0 (rd l1 x6_1)).f5))) (fun _ h_ => h_.1))) hb); have n1_ := Aside0.mk (blk_below (g := gb348) (o := .cells #[.int .i64 ((rd_T49 l0 (rd l1 x6_1)).f0), .int .i64 ((rd_T49 l0 (rd l1 x6_1)).f1), .int .i64 ((rd_T49 l0 (rd l1 x6_1)).f2), .int .i64 ((rd_T49 l0 (rd l1 x6_1)).f3), .int .i64 ((rd_T49 l0 (rd l1 x6_1)).f4), .int .i64 ((rd_T49 l0 (rd l1 x6_1)).f5)] 49 (0, 0)) (by refine skk ?_; refine blk_put (cs := #[.int .i64 ((rd_T49 l0 (rd l1 x6_1)).f0), .int .i64 ((rd_T49 l0 (rd l1 x6_1)).f1), .int .i64 ((rd_T49 l0 (rd l1 x6_1)).f2), .int .i64 ((rd_T49 l0 (rd l1 x6_1)).f3), .int .i64 ((rd_T49 l0 (rd l1 x6_1)).f4), .int .i64 0]) ?_ 5 _ rfl; refine skk ?_; refine blk_put (cs := #[.int .i64 ((rd_T49 l0 (rd l1 x6_1)).f0), .int .i64 ((rd_T49 l0 (rd l1 x6_1)).f1), .int .i64 ((rd_T49 l0 (rd l1 x6_1)).f2), .int .i64 ((rd_T49 l0 (rd l1 x6_1)).f3), .int .i64 0, .int .i64 0]) ?_ 4 _ rfl; refine skk ?_; refine blk_put (cs := #[.int .i64 ((rd_T49 l0 (rd l1 x6_1)).f0), .int .i64 ((rd_T49 l0 (rd l1 x6_1)).f1), .int .i64 ((rd_T49 l0 (rd l1 x6_1)).f2), .int .i64 0, .int .i64 0, .int .i64 0]) ?_ 3 _ rfl; refine skk ?_; refine blk_put (cs := #[.int .i64 ((rd_T49 l0 (rd l1 x6_1)).f0), .int .i64 ((rd_T49 l0 (rd l1 x6_1)).f1), .int .i64 0, .int .i64 0, .int .i64 0, .int .i64 0]) ?_ 2 _ rfl; refine skk ?_; refine blk_put (cs := #[.int .i64 ((rd_T49 l0 (rd l1 x6_1)).f0), .int .i64 0, .int .i64 0, .int .i64 0, .int .i64 0, .int .i64 0]) ?_ 1 _ rfl; refine skk ?_; refine blk_put (cs := #[.int .i64 0, .int .i64 0, .int .i64 0, .int .i64 0, .int .i64 0, .int .i64 0]) ?_ 0 _ rfl; refine skk ?_; exact BK348.out) hb); have n2_ := Aside0.mk (below_step (by repeat (first | (with_reducible first | exact HB.out | apply below_alloc | apply pw_below_drewN | apply below_drew1 | refine below_set ?_ GE348.out) | exact HB.out)) hb); clear HO_5; clear BK348; clear HB; have HO_5 := n0_; have BK348 := n1_; have HB := n2_; clear n0_ n1_ n2_; (try clear hb); (try clear hb2); (try clear hk); (try clear hi); obtain ⟨hcz28_0, hcz28_1, hcz28_2, hcz28_3, hcz28_4, hcz28_5, hfz28_0, hfz28_1, hfz28_2, hfz28_3, hfz28_4, hfz28_5⟩ := bk6 BK348.out))
                 have n0_ := Aside0.mk (Kd.R_drew HO_5.out)
                 have n1_ := Aside0.mk (blk_drew BK348.out)
                 have n2_ := Aside0.mk (below_drew1 HB.out)
                 clear HO_5
                 clear BK348
                 clear HB
                 have HO_5 := n0_
                 have BK348 := n1_
                 have HB := n2_
                 clear n0_ n1_ n2_
                 have p350 : 0 ≤ (((rd_T49 l0 (rd l1 x6_1)).f4) : Int) := dt
                 have q350 : ((rd_T49 l0 (rd l1 x6_1)).f4) < (l0.length : Int) := dt
                 obtain ⟨ad350, e350, hx350_0, hx350_1, hx350_2, hx350_3, hx350_4, hx350_5⟩ := at_T49 HR0.out ((rd_T49 l0 (rd l1 x6_1)).f4) p350 q350
                 have hw350_5 := hx350_5
                 have hw350_4 := hx350_4
                 have hw350_3 := hx350_3
                 have hw350_2 := hx350_2
                 have hw350_1 := hx350_1
                 have hw350_0 := hx350_0
                 obtain rfl : ad347 = ad350 := (by injection e350)
                 replace hx350_0 := skc HB.out hx350_0
                 replace hx350_1 := skc HB.out hx350_1
                 replace hx350_2 := skc HB.out hx350_2
                 replace hx350_3 := skc HB.out hx350_3
                 replace hx350_4 := skc HB.out hx350_4
                 replace hx350_5 := skc HB.out hx350_5
                 replace p350 := eq_true p350
                 replace q350 := eq_true q350
                 have p20 : 0 ≤ (((rd_T49 l0 (rd l1 x6_1)).f4) : Int) := dt
                 have q20 : (((rd_T49 l0 (rd l1 x6_1)).f4) : Int) < ((x5_1.length : Int) : Int) := dt
                 obtain ⟨go20, co20, eo20, gb20, gl20, cl20, HG20⟩ := Kd.R_form HO_5.out (by omega)
                 (first | cases eo20 | (injection eo20 with ea_ en_ ec_; (first | subst ea_ | (injection ea_ with ea_; subst ea_)); subst ec_; clear en_))
                 have GB20 := Aside0.mk gb20
                 have GG20 := Aside0.mk HG20
                 clear gb20 gl20 HG20
                 obtain ⟨hx20_0, hf20_0⟩ := Kd.R_celln false HO_5.out (((rd_T49 l0 (rd l1 x6_1)).f4) : Int) p20 q20
                 replace p20 := eq_true p20
                 replace q20 := eq_true q20
                 have HP30 := Kd.R_putn HO_5.out (((rd_T49 l0 (rd l1 x6_1)).f4) : Int) (((rd_T49 l0 ((rd_T49 l0 (rd l1 x6_1)).f4)).f2) == 0)
                 rw [← Ny351.out] at HP30
                 have HQ30 := Aside0.mk HP30
                 clear HP30
                 refine start_ (n := 12) (S := fun w' => w'.cell? ⟨gb348, 0, none⟩ = some (.int .i64 ((rd_T49 l0 (rd l1 x6_1)).f0)) ∧ w'.cell? ⟨gb348, 1, none⟩ = some (.int .i64 ((rd_T49 l0 (rd l1 x6_1)).f1)) ∧ w'.cell? ⟨gb348, 2, none⟩ = some (.int .i64 ((rd_T49 l0 (rd l1 x6_1)).f2)) ∧ w'.cell? ⟨gb348, 3, none⟩ = some (.int .i64 ((rd_T49 l0 (rd l1 x6_1)).f3)) ∧ w'.cell? ⟨gb348, 4, none⟩ = some (.int .i64 ((rd_T49 l0 (rd l1 x6_1)).f4)) ∧ w'.cell? ⟨gb348, 5, none⟩ = some (.int .i64 ((rd_T49 l0 (rd l1 x6_1)).f5)) ∧ w'.cell? (ad347.add ((((rd_T49 l0 (rd l1 x6_1)).f4)).toNat * 6)) = some (.int .i64 ((rd_T49 l0 ((rd_T49 l0 (rd l1 x6_1)).f4)).f0)) ∧ w'.cell? ⟨(ad347.add ((((rd_T49 l0 (rd l1 x6_1)).f4)).toNat * 6)).block, (ad347.add ((((rd_T49 l0 (rd l1 x6_1)).f4)).toNat * 6)).off + 1, none⟩ = some (.int .i64 ((rd_T49 l0 ((rd_T49 l0 (rd l1 x6_1)).f4)).f1)) ∧ w'.cell? ⟨(ad347.add ((((rd_T49 l0 (rd l1 x6_1)).f4)).toNat * 6)).block, (ad347.add ((((rd_T49 l0 (rd l1 x6_1)).f4)).toNat * 6)).off + 2, none⟩ = some (.int .i64 ((rd_T49 l0 ((rd_T49 l0 (rd l1 x6_1)).f4)).f2)) ∧ w'.cell? ⟨(ad347.add ((((rd_T49 l0 (rd l1 x6_1)).f4)).toNat * 6)).block, (ad347.add ((((rd_T49 l0 (rd l1 x6_1)).f4)).toNat * 6)).off + 3, none⟩ = some (.int .i64 ((rd_T49 l0 ((rd_T49 l0 (rd l1 x6_1)).f4)).f3)) ∧ w'.cell? ⟨(ad347.add ((((rd_T49 l0 (rd l1 x6_1)).f4)).toNat * 6)).block, (ad347.add ((((rd_T49 l0 (rd l1 x6_1)).f4)).toNat * 6)).off + 4, none⟩ = some (.int .i64 ((rd_T49 l0 ((rd_T49 l0 (rd l1 x6_1)).f4)).f4)) ∧ w'.cell? ⟨(ad347.add ((((rd_T49 l0 (rd l1 x6_1)).f4)).toNat * 6)).block, (ad347.add ((((rd_T49 l0 (rd l1 x6_1)).f4)).toNat * 6)).off + 5, none⟩ = some (.int .i64 ((rd_T49 l0 ((rd_T49 l0 (rd l1 x6_1)).f4)).f5))) (ds := [11]) #[false, false, false, false, false, false, false, false, false, false, false, false] (by kernel_rfl) rfl rfl ⟨(blk_cell BK348.out 0).trans rfl, (blk_cell BK348.out 1).trans rfl, (blk_cell BK348.out 2).trans rfl, (blk_cell BK348.out 3).trans rfl, (blk_cell BK348.out 4).trans rfl, (blk_cell BK348.out 5).trans rfl, (skc HB.out hw350_0), (skc HB.out hw350_1), (skc HB.out hw350_2), (skc HB.out hw350_3), (skc HB.out hw350_4), (skc HB.out hw350_5)⟩ (fun hHeld => ?_); refine with_tabW larchref17_reds.tab7 larchref17_reds.bits7 (fun HT_ HW_ => ?_)
                 generalize w27.drew = w29 at HO_5 BK348 HB GG20 HQ30 hf20_0 hx20_0 hx350_0 hx350_1 hx350_2 hx350_3 hx350_4 hx350_5 hHeld ⊢
                 refine pure_ (i := 0) (N := some 32) (v := ?_) (a' := ?_) #[true, false, false, false, false, false, false, false, false, false, false, false] rfl rfl (any_of HT_.out (by kernel_rfl)) (fun _ _ _ h => h) (Or.inl ⟨by rfl, ?_⟩) ?_ ?_
                 rotate_left
                 ·
                  intro w'
                  go_simp
                  with_reducible rfl
                 rotate_left
                 ·
                  simp only [Act.put, List.setIfInBounds_toArray, List.set_cons_zero, List.set_cons_succ, i64_w, i32_w]
                  rfl
                 refine pure_ (i := 1) (N := some 33) (v := ?_) (a' := ?_) #[true, true, false, false, false, false, false, false, false, false, false, false] rfl rfl (any_of HT_.out (by kernel_rfl)) (fun _ _ _ h => h) (Or.inl ⟨by rfl, ?_⟩) ?_ ?_
                 rotate_left
                 ·
                  intro w'
                  go_simp
                  with_reducible rfl
                 rotate_left
                 ·
                  simp only [Act.put, List.setIfInBounds_toArray, List.set_cons_zero, List.set_cons_succ, i64_w, i32_w]
                  rfl
                 refine pure_ (i := 3) (N := some 35) (v := ?_) (a' := ?_) #[true, true, false, true, false, false, false, false, false, false, false, false] rfl rfl (any_of HT_.out (by kernel_rfl)) (fun _ _ _ h => h) (Or.inl ⟨by rfl, ?_⟩) ?_ ?_
                 rotate_left
                 ·
                  intro w'
                  go_simp
                  with_reducible rfl
                 rotate_left
                 ·
                  simp only [Act.put, List.setIfInBounds_toArray, List.set_cons_zero, List.set_cons_succ, i64_w, i32_w]
                  rfl
                 refine pure_ (i := 4) (N := some 36) (v := ?_) (a' := ?_) #[true, true, false, true, true, false, false, false, false, false, false, false] rfl rfl (any_of HT_.out (by kernel_rfl)) (fun _ _ _ h => h) (Or.inl ⟨by rfl, ?_⟩) ?_ ?_
                 rotate_left
                 ·
                  intro w'
                  go_simp
                  with_reducible rfl
                 rotate_left
                 ·
                  simp only [Act.put, List.setIfInBounds_toArray, List.set_cons_zero, List.set_cons_succ, i64_w, i32_w]
                  rfl
                 refine take_ (i := 2) (N := some 34) (v := ?_) (a' := ?_) #[true, true, true, true, true, false, false, false, false, false, false, false] rfl rfl (take_ofW HT_.out HW_.out (by kernel_rfl)) (fun _ _ _ h => h) (Or.inl ⟨by rfl, ?_⟩) hHeld ?_ ?_
                 rotate_left
                 ·
                  rintro w' ⟨s0, s1, s2, s3, s4, s5, s6, s7, s8, s9, s10, s11⟩
                  go_simp
                  with_reducible rfl
                 rotate_left
                 ·
                  simp only [Act.put, List.setIfInBounds_toArray, List.set_cons_zero, List.set_cons_succ, i64_w, i32_w]
                  rfl
                 refine take_ (i := 5) (N := some 37) (v := ?_) (a' := ?_) #[true, true, true, true, true, true, false, false, false, false, false, false] rfl rfl (take_ofW HT_.out HW_.out (by kernel_rfl)) (fun _ _ _ h => h) (Or.inl ⟨by rfl, ?_⟩) hHeld ?_ ?_
                 rotate_left
                 ·
                  rintro w' ⟨s0, s1, s2, s3, s4, s5, s6, s7, s8, s9, s10, s11⟩
                  go_simp
                  with_reducible rfl
                 rotate_left
                 ·
                  simp only [Act.put, List.setIfInBounds_toArray, List.set_cons_zero, List.set_cons_succ, i64_w, i32_w]
                  rfl
                 refine pure_ (i := 6) (N := some 38) (v := ?_) (a' := ?_) #[true, true, true, true, true, true, true, false, false, false, false, false] rfl rfl (any_of HT_.out (by kernel_rfl)) (fun _ _ _ h => h) (Or.inl ⟨by rfl, ?_⟩) ?_ ?_
                 rotate_left
                 ·
                  intro w'
                  go_simp
                  with_reducible rfl
                 rotate_left
                 ·
                  simp only [Act.put, List.setIfInBounds_toArray, List.set_cons_zero, List.set_cons_succ, i64_w, i32_w]
                  rfl
                 refine pure_ (i := 7) (N := some 39) (v := ?_) (a' := ?_) #[true, true, true, true, true, true, true, true, false, false, false, false] rfl rfl (any_of HT_.out (by kernel_rfl)) (fun _ _ _ h => h) (Or.inl ⟨by rfl, ?_⟩) ?_ ?_
                 rotate_left
                 ·
                  intro w'
                  go_simp
                  with_reducible rfl
                 rotate_left
                 ·
                  simp only [Act.put, List.setIfInBounds_toArray, List.set_cons_zero, List.set_cons_succ, i64_w, i32_w]
                  rfl
                 refine take_ (i := 8) (N := some 40) (v := ?_) (a' := ?_) #[true, true, true, true, true, true, true, true, true, false, false, false] rfl rfl (take_ofW HT_.out HW_.out (by kernel_rfl)) (fun _ _ _ h => h) (Or.inl ⟨by rfl, ?_⟩) hHeld ?_ ?_
                 rotate_left
                 ·
                  rintro w' ⟨s0, s1, s2, s3, s4, s5, s6, s7, s8, s9, s10, s11⟩
                  go_simp
                  with_reducible rfl
                 rotate_left
                 ·
                  simp only [Act.put, List.setIfInBounds_toArray, List.set_cons_zero, List.set_cons_succ, i64_w, i32_w]
                  rfl
                 refine pure_ (i := 9) (N := some 41) (v := ?_) (a' := ?_) #[true, true, true, true, true, true, true, true, true, true, false, false] rfl rfl (any_of HT_.out (by kernel_rfl)) (fun _ _ _ h => h) (Or.inl ⟨by rfl, ?_⟩) ?_ ?_
                 rotate_left
                 ·
                  intro w'
                  go_simp
                  with_reducible rfl
                 rotate_left
                 ·
                  simp only [Act.put, List.setIfInBounds_toArray, List.set_cons_zero, List.set_cons_succ, i64_w, i32_w]
                  rfl
                 refine pure_ (i := 10) (N := some 42) (v := ?_) (a' := ?_) #[true, true, true, true, true, true, true, true, true, true, true, false] rfl rfl (any_of HT_.out (by kernel_rfl)) (fun _ _ _ h => h) (Or.inl ⟨by rfl, ?_⟩) ?_ ?_
                 rotate_left
                 ·
                  intro w'
                  go_simp
                  with_reducible rfl
                 rotate_left
                 ·
                  simp only [Act.put, List.setIfInBounds_toArray, List.set_cons_zero, List.set_cons_succ, i64_w, i32_w]
                  rfl
                 refine last_ (i := 11) (N := none) #[true, true, true, true, true, true, true, true, true, true, true, true] rfl rfl (one_of HT_.out (by kernel_rfl)) (by decide) (fun K hK => ?_)
                 refine skip_ (w1 := ?_) (by rfl) rfl ?_ ?_
                 rotate_left
                 ·
                  go_simp
                  rfl
                 refine hK.out _ _ ?_
                 clear hK K
                 refine done_ (done_of HT_.out (by kernel_rfl)) ?_
                 try go_wp2
                 have n0_ : Aside0 (Kd.R Kd.bool 4 (w29.setCell ⟨go20, (((rd_T49 l0 (rd l1 x6_1)).f4) : Int).toNat, none⟩ (.bool (((rd_T49 l0 ((rd_T49 l0 (rd l1 x6_1)).f4)).f2) == 0))) w.heap.size (fun _ => True) (.slice (some ⟨go20, 0, none⟩) x5_1.length co20) y351) := ⟨skR HQ30.out⟩
                 have n1_ : Aside0 ((w29.setCell ⟨go20, (((rd_T49 l0 (rd l1 x6_1)).f4) : Int).toNat, none⟩ (.bool (((rd_T49 l0 ((rd_T49 l0 (rd l1 x6_1)).f4)).f2) == 0))).heap[gb348]? = some (.cells #[.int .i64 ((rd_T49 l0 (rd l1 x6_1)).f0), .int .i64 ((rd_T49 l0 (rd l1 x6_1)).f1), .int .i64 ((rd_T49 l0 (rd l1 x6_1)).f2), .int .i64 ((rd_T49 l0 (rd l1 x6_1)).f3), .int .i64 ((rd_T49 l0 (rd l1 x6_1)).f4), .int .i64 ((rd_T49 l0 (rd l1 x6_1)).f5)] 49 (0, 0))) := ⟨by refine skk ?_; refine blk_far ?_ (by have h_ := Kd.R_ne HO_5.out BK348.out (by decide); intro e_; exact h_ (by rw [e_]; rfl)) _; refine skk ?_; exact BK348.out⟩
                 have n2_ : Aside0 (Below w.heap.size w (w29.setCell ⟨go20, (((rd_T49 l0 (rd l1 x6_1)).f4) : Int).toNat, none⟩ (.bool (((rd_T49 l0 ((rd_T49 l0 (rd l1 x6_1)).f4)).f2) == 0)))) := ⟨by repeat (first | (with_reducible first | exact HB.out | apply below_alloc | apply pw_below_drewN | apply below_drew1 | refine below_set ?_ GB20.out | refine below_set ?_ GE348.out) | exact HB.out)⟩
                 (try clear HO_5)
                 (try clear BK348)
                 (try clear HB)
                 generalize (w29.setCell ⟨go20, (((rd_T49 l0 (rd l1 x6_1)).f4) : Int).toNat, none⟩ (.bool (((rd_T49 l0 ((rd_T49 l0 (rd l1 x6_1)).f4)).f2) == 0))) = w31 at n0_ n1_ n2_ ⊢
                 have HO_5 := n0_
                 have BK348 := n1_
                 have HB := n2_
                 clear n0_ n1_ n2_
                 have n0_ := Aside0.mk (Kd.R_drew HO_5.out)
                 have n1_ := Aside0.mk (blk_drew BK348.out)
                 have n2_ := Aside0.mk (below_drew1 HB.out)
                 clear HO_5
                 clear BK348
                 clear HB
                 have HO_5 := n0_
                 have BK348 := n1_
                 have HB := n2_
                 clear n0_ n1_ n2_
                 have p352 : 0 ≤ (((rd_T49 l0 (rd l1 x6_1)).f5) : Int) := dt
                 have q352 : ((rd_T49 l0 (rd l1 x6_1)).f5) < (l0.length : Int) := dt
                 obtain ⟨ad352, e352, hx352_0, hx352_1, hx352_2, hx352_3, hx352_4, hx352_5⟩ := at_T49 HR0.out ((rd_T49 l0 (rd l1 x6_1)).f5) p352 q352
                 have hw352_5 := hx352_5
                 have hw352_4 := hx352_4
                 have hw352_3 := hx352_3
                 have hw352_2 := hx352_2
                 have hw352_1 := hx352_1
                 have hw352_0 := hx352_0
                 obtain rfl : ad347 = ad352 := (by injection e352)
                 replace hx352_0 := skc HB.out hx352_0
                 replace hx352_1 := skc HB.out hx352_1
                 replace hx352_2 := skc HB.out hx352_2
                 replace hx352_3 := skc HB.out hx352_3
                 replace hx352_4 := skc HB.out hx352_4
                 replace hx352_5 := skc HB.out hx352_5
                 replace p352 := eq_true p352
                 replace q352 := eq_true q352
                 have p24 : 0 ≤ (((rd_T49 l0 (rd l1 x6_1)).f5) : Int) := dt
                 have q24 : (((rd_T49 l0 (rd l1 x6_1)).f5) : Int) < ((x5_1.length : Int) : Int) := dt
                 obtain ⟨hx24_0, hf24_0⟩ := Kd.R_celln false HO_5.out (((rd_T49 l0 (rd l1 x6_1)).f5) : Int) p24 q24
                 replace p24 := eq_true p24
                 replace q24 := eq_true q24
                 have HP33 := Kd.R_putn HO_5.out (((rd_T49 l0 (rd l1 x6_1)).f5) : Int) (((rd_T49 l0 ((rd_T49 l0 (rd l1 x6_1)).f5)).f2) == 0)
                 rw [← Ny353.out] at HP33
                 have HQ33 := Aside0.mk HP33
                 clear HP33
                 refine start_ (n := 12) (S := fun w' => w'.cell? ⟨gb348, 0, none⟩ = some (.int .i64 ((rd_T49 l0 (rd l1 x6_1)).f0)) ∧ w'.cell? ⟨gb348, 1, none⟩ = some (.int .i64 ((rd_T49 l0 (rd l1 x6_1)).f1)) ∧ w'.cell? ⟨gb348, 2, none⟩ = some (.int .i64 ((rd_T49 l0 (rd l1 x6_1)).f2)) ∧ w'.cell? ⟨gb348, 3, none⟩ = some (.int .i64 ((rd_T49 l0 (rd l1 x6_1)).f3)) ∧ w'.cell? ⟨gb348, 4, none⟩ = some (.int .i64 ((rd_T49 l0 (rd l1 x6_1)).f4)) ∧ w'.cell? ⟨gb348, 5, none⟩ = some (.int .i64 ((rd_T49 l0 (rd l1 x6_1)).f5)) ∧ w'.cell? (ad347.add ((((rd_T49 l0 (rd l1 x6_1)).f5)).toNat * 6)) = some (.int .i64 ((rd_T49 l0 ((rd_T49 l0 (rd l1 x6_1)).f5)).f0)) ∧ w'.cell? ⟨(ad347.add ((((rd_T49 l0 (rd l1 x6_1)).f5)).toNat * 6)).block, (ad347.add ((((rd_T49 l0 (rd l1 x6_1)).f5)).toNat * 6)).off + 1, none⟩ = some (.int .i64 ((rd_T49 l0 ((rd_T49 l0 (rd l1 x6_1)).f5)).f1)) ∧ w'.cell? ⟨(ad347.add ((((rd_T49 l0 (rd l1 x6_1)).f5)).toNat * 6)).block, (ad347.add ((((rd_T49 l0 (rd l1 x6_1)).f5)).toNat * 6)).off + 2, none⟩ = some (.int .i64 ((rd_T49 l0 ((rd_T49 l0 (rd l1 x6_1)).f5)).f2)) ∧ w'.cell? ⟨(ad347.add ((((rd_T49 l0 (rd l1 x6_1)).f5)).toNat * 6)).block, (ad347.add ((((rd_T49 l0 (rd l1 x6_1)).f5)).toNat * 6)).off + 3, none⟩ = some (.int .i64 ((rd_T49 l0 ((rd_T49 l0 (rd l1 x6_1)).f5)).f3)) ∧ w'.cell? ⟨(ad347.add ((((rd_T49 l0 (rd l1 x6_1)).f5)).toNat * 6)).block, (ad347.add ((((rd_T49 l0 (rd l1 x6_1)).f5)).toNat * 6)).off + 4, none⟩ = some (.int .i64 ((rd_T49 l0 ((rd_T49 l0 (rd l1 x6_1)).f5)).f4)) ∧ w'.cell? ⟨(ad347.add ((((rd_T49 l0 (rd l1 x6_1)).f5)).toNat * 6)).block, (ad347.add ((((rd_T49 l0 (rd l1 x6_1)).f5)).toNat * 6)).off + 5, none⟩ = some (.int .i64 ((rd_T49 l0 ((rd_T49 l0 (rd l1 x6_1)).f5)).f5))) (ds := [11]) #[false, false, false, false, false, false, false, false, false, false, false, false] (by kernel_rfl) rfl rfl ⟨(blk_cell BK348.out 0).trans rfl, (blk_cell BK348.out 1).trans rfl, (blk_cell BK348.out 2).trans rfl, (blk_cell BK348.out 3).trans rfl, (blk_cell BK348.out 4).trans rfl, (blk_cell BK348.out 5).trans rfl, (skc HB.out hw352_0), (skc HB.out hw352_1), (skc HB.out hw352_2), (skc HB.out hw352_3), (skc HB.out hw352_4), (skc HB.out hw352_5)⟩ (fun hHeld => ?_); refine with_tabW larchref17_reds.tab8 larchref17_reds.bits8 (fun HT_ HW_ => ?_)
                 generalize w31.drew = w32 at HO_5 BK348 HB HQ30 HQ33 hf24_0 hx24_0 hx352_0 hx352_1 hx352_2 hx352_3 hx352_4 hx352_5 hHeld ⊢
                 refine pure_ (i := 0) (N := some 43) (v := ?_) (a' := ?_) #[true, false, false, false, false, false, false, false, false, false, false, false] rfl rfl (any_of HT_.out (by kernel_rfl)) (fun _ _ _ h => h) (Or.inl ⟨by rfl, ?_⟩) ?_ ?_
                 rotate_left
                 ·
                  intro w'
                  go_simp
                  with_reducible rfl
                 rotate_left
                 ·
                  simp only [Act.put, List.setIfInBounds_toArray, List.set_cons_zero, List.set_cons_succ, i64_w, i32_w]
                  rfl
                 refine pure_ (i := 1) (N := some 44) (v := ?_) (a' := ?_) #[true, true, false, false, false, false, false, false, false, false, false, false] rfl rfl (any_of HT_.out (by kernel_rfl)) (fun _ _ _ h => h) (Or.inl ⟨by rfl, ?_⟩) ?_ ?_
                 rotate_left
                 ·
                  intro w'
                  go_simp
                  with_reducible rfl
                 rotate_left
                 ·
                  simp only [Act.put, List.setIfInBounds_toArray, List.set_cons_zero, List.set_cons_succ, i64_w, i32_w]
                  rfl
                 refine pure_ (i := 3) (N := some 46) (v := ?_) (a' := ?_) #[true, true, false, true, false, false, false, false, false, false, false, false] rfl rfl (any_of HT_.out (by kernel_rfl)) (fun _ _ _ h => h) (Or.inl ⟨by rfl, ?_⟩) ?_ ?_
                 rotate_left
                 ·
                  intro w'
                  go_simp
                  with_reducible rfl
                 rotate_left
                 ·
                  simp only [Act.put, List.setIfInBounds_toArray, List.set_cons_zero, List.set_cons_succ, i64_w, i32_w]
                  rfl
                 refine pure_ (i := 4) (N := some 47) (v := ?_) (a' := ?_) #[true, true, false, true, true, false, false, false, false, false, false, false] rfl rfl (any_of HT_.out (by kernel_rfl)) (fun _ _ _ h => h) (Or.inl ⟨by rfl, ?_⟩) ?_ ?_
                 rotate_left
                 ·
                  intro w'
                  go_simp
                  with_reducible rfl
                 rotate_left
                 ·
                  simp only [Act.put, List.setIfInBounds_toArray, List.set_cons_zero, List.set_cons_succ, i64_w, i32_w]
                  rfl
                 refine take_ (i := 2) (N := some 45) (v := ?_) (a' := ?_) #[true, true, true, true, true, false, false, false, false, false, false, false] rfl rfl (take_ofW HT_.out HW_.out (by kernel_rfl)) (fun _ _ _ h => h) (Or.inl ⟨by rfl, ?_⟩) hHeld ?_ ?_
                 rotate_left
                 ·
                  rintro w' ⟨s0, s1, s2, s3, s4, s5, s6, s7, s8, s9, s10, s11⟩
                  go_simp
                  with_reducible rfl
                 rotate_left
                 ·
                  simp only [Act.put, List.setIfInBounds_toArray, List.set_cons_zero, List.set_cons_succ, i64_w, i32_w]
                  rfl
                 refine take_ (i := 5) (N := some 48) (v := ?_) (a' := ?_) #[true, true, true, true, true, true, false, false, false, false, false, false] rfl rfl (take_ofW HT_.out HW_.out (by kernel_rfl)) (fun _ _ _ h => h) (Or.inl ⟨by rfl, ?_⟩) hHeld ?_ ?_
                 rotate_left
                 ·
                  rintro w' ⟨s0, s1, s2, s3, s4, s5, s6, s7, s8, s9, s10, s11⟩
                  go_simp
                  with_reducible rfl
                 rotate_left
                 ·
                  simp only [Act.put, List.setIfInBounds_toArray, List.set_cons_zero, List.set_cons_succ, i64_w, i32_w]
                  rfl
                 refine pure_ (i := 6) (N := some 49) (v := ?_) (a' := ?_) #[true, true, true, true, true, true, true, false, false, false, false, false] rfl rfl (any_of HT_.out (by kernel_rfl)) (fun _ _ _ h => h) (Or.inl ⟨by rfl, ?_⟩) ?_ ?_
                 rotate_left
                 ·
                  intro w'
                  go_simp
                  with_reducible rfl
                 rotate_left
                 ·
                  simp only [Act.put, List.setIfInBounds_toArray, List.set_cons_zero, List.set_cons_succ, i64_w, i32_w]
                  rfl
                 refine pure_ (i := 7) (N := some 50) (v := ?_) (a' := ?_) #[true, true, true, true, true, true, true, true, false, false, false, false] rfl rfl (any_of HT_.out (by kernel_rfl)) (fun _ _ _ h => h) (Or.inl ⟨by rfl, ?_⟩) ?_ ?_
                 rotate_left
                 ·
                  intro w'
                  go_simp
                  with_reducible rfl
                 rotate_left
                 ·
                  simp only [Act.put, List.setIfInBounds_toArray, List.set_cons_zero, List.set_cons_succ, i64_w, i32_w]
                  rfl
                 refine take_ (i := 8) (N := some 51) (v := ?_) (a' := ?_) #[true, true, true, true, true, true, true, true, true, false, false, false] rfl rfl (take_ofW HT_.out HW_.out (by kernel_rfl)) (fun _ _ _ h => h) (Or.inl ⟨by rfl, ?_⟩) hHeld ?_ ?_
                 rotate_left
                 ·
                  rintro w' ⟨s0, s1, s2, s3, s4, s5, s6, s7, s8, s9, s10, s11⟩
                  go_simp
                  with_reducible rfl
                 rotate_left
                 ·
                  simp only [Act.put, List.setIfInBounds_toArray, List.set_cons_zero, List.set_cons_succ, i64_w, i32_w]
                  rfl
                 refine pure_ (i := 9) (N := some 52) (v := ?_) (a' := ?_) #[true, true, true, true, true, true, true, true, true, true, false, false] rfl rfl (any_of HT_.out (by kernel_rfl)) (fun _ _ _ h => h) (Or.inl ⟨by rfl, ?_⟩) ?_ ?_
                 rotate_left
                 ·
                  intro w'
                  go_simp
                  with_reducible rfl
                 rotate_left
                 ·
                  simp only [Act.put, List.setIfInBounds_toArray, List.set_cons_zero, List.set_cons_succ, i64_w, i32_w]
                  rfl
                 refine pure_ (i := 10) (N := some 53) (v := ?_) (a' := ?_) #[true, true, true, true, true, true, true, true, true, true, true, false] rfl rfl (any_of HT_.out (by kernel_rfl)) (fun _ _ _ h => h) (Or.inl ⟨by rfl, ?_⟩) ?_ ?_
                 rotate_left
                 ·
                  intro w'
                  go_simp
                  with_reducible rfl
                 rotate_left
                 ·
                  simp only [Act.put, List.setIfInBounds_toArray, List.set_cons_zero, List.set_cons_succ, i64_w, i32_w]
                  rfl
                 refine last_ (i := 11) (N := none) #[true, true, true, true, true, true, true, true, true, true, true, true] rfl rfl (one_of HT_.out (by kernel_rfl)) (by decide) (fun K hK => ?_)
                 refine skip_ (w1 := ?_) (by rfl) rfl ?_ ?_
                 rotate_left
                 ·
                  go_simp
                  rfl
                 refine hK.out _ _ ?_
                 clear hK K
                 refine done_ (done_of HT_.out (by kernel_rfl)) ?_
                 try go_wp2
                 go_roundg k1
                 case measure => have := HK1.out; omega
                 case rel => exact ⟨(y353), (wrap64 (x6_1 + 1)), rs, H', ⟨by have := HK1.out; omega⟩, ⟨skR HQ33.out⟩, ⟨by repeat (first | (with_reducible first | exact HB.out | apply below_alloc | apply pw_below_drewN | apply below_drew1 | refine below_set ?_ GB20.out | refine below_set ?_ GE348.out) | exact HB.out)⟩⟩
                ·
                 rw [if_neg c23] at H
                 exact absurd H (by simp)
               ·
                rw [if_neg c22] at H
                exact absurd H (by simp)
              ·
               rw [if_neg c21] at H
               exact absurd H (by simp)
             ·
              rw [if_neg c19] at H
              exact absurd H (by simp)
            ·
             rw [if_neg c18] at H
             exact absurd H (by simp)
           ·
            rw [if_neg c17] at H
            exact absurd H (by simp)
          ·
           rw [if_neg c16] at H
           have c16b0 : (((rd_T49 l0 (rd l1 x6_1)).f2) == 0) = false := beq_eq_false_iff_ne.mpr c16
           have c16b1 : (((rd_T49 l0 (rd l1 x6_1)).f2) != 0) = true := bne_iff_ne.mpr c16
           have H' := Aside0.mk H
           clear H
           have p346 : 0 ≤ (x6_1 : Int) := dt
           have q346 : x6_1 < (l1.length : Int) := dt
           obtain ⟨ad346, e346, hx346_0⟩ := Kd.at_int HR1.out x6_1 p346 q346
           cases e346
           replace hx346_0 := skc HB.out hx346_0
           replace p346 := eq_true p346
           replace q346 := eq_true q346
           have p347 : 0 ≤ ((rd l1 x6_1) : Int) := dt
           have q347 : (rd l1 x6_1) < (l0.length : Int) := dt
           obtain ⟨ad347, e347, hx347_0, hx347_1, hx347_2, hx347_3, hx347_4, hx347_5⟩ := at_T49 HR0.out (rd l1 x6_1) p347 q347
           cases e347
           replace hx347_0 := skc HB.out hx347_0
           replace hx347_1 := skc HB.out hx347_1
           replace hx347_2 := skc HB.out hx347_2
           replace hx347_3 := skc HB.out hx347_3
           replace hx347_4 := skc HB.out hx347_4
           replace hx347_5 := skc HB.out hx347_5
           replace p347 := eq_true p347
           replace q347 := eq_true q347
           go_wp2_with (first | ((with_reducible refine gate_dst (N := 7) rfl ?_); refine box_event ?hg (N := 7) ?hd (cs := #[.int .i64 0, .int .i64 0, .int .i64 0, .int .i64 0, .int .i64 0, .int .i64 0]) (t := 49) ?hr ?_; (case hd => rfl); (case hg => rfl); (case hr => first | (go_simp; done) | (go_simp; rfl)); intro gb348 hg w34 hbox hb; have n0_ := Aside0.mk (Kd.R_below (skR HO_5.out) hb); have n1_ := Aside0.mk (below_step (skB HB.out) hb); have n2_ := Aside0.mk (hbox); have n3_ := Aside0.mk ((by rw [hg]; exact (below_size (skB HB.out)) : w.heap.size ≤ gb348)); have n4_ := Aside0.mk ((by rw [hg]; exact (below_size (skB HB.out)) : w.heap.size ≤ gb348)); clear HO_5; clear HB; have HO_5 := n0_; have HB := n1_; have BK348 := n2_; have GW348 := n3_; have GE348 := n4_; clear n0_ n1_ n2_ n3_ n4_; clear hb hbox hg; obtain ⟨hcz35_0, hcz35_1, hcz35_2, hcz35_3, hcz35_4, hcz35_5, hfz35_0, hfz35_1, hfz35_2, hfz35_3, hfz35_4, hfz35_5⟩ := bk6 BK348.out) | ((with_reducible refine gate_callee (f := 53) rfl ?_); refine goesL_ (some 25) rfl rfl Try.func53 (by kernel_rfl) rfl #[.agg #[.int .i64 ((rd_T49 l0 (rd l1 x6_1)).f0), .int .i64 ((rd_T49 l0 (rd l1 x6_1)).f1), .int .i64 ((rd_T49 l0 (rd l1 x6_1)).f2), .int .i64 ((rd_T49 l0 (rd l1 x6_1)).f3), .int .i64 ((rd_T49 l0 (rd l1 x6_1)).f4), .int .i64 ((rd_T49 l0 (rd l1 x6_1)).f5)]] rfl ags ?_; (with_reducible refine (larchref17_leaf.calls ((rd_T49 l0 (rd l1 x6_1)).f0) ((rd_T49 l0 (rd l1 x6_1)).f1) ((rd_T49 l0 (rd l1 x6_1)).f2) ((rd_T49 l0 (rd l1 x6_1)).f3) ((rd_T49 l0 (rd l1 x6_1)).f4) ((rd_T49 l0 (rd l1 x6_1)).f5) false _ A11.out).mono ?_); rintro e w36 ⟨rfl, hb⟩; refine ⟨_, rfl, ?_⟩; have n0_ := Aside0.mk (Kd.R_below (skR (Kd.R_mono (Kd.R_far (p := ⟨gb348, 5, none⟩) (Kd.R_far (p := ⟨gb348, 4, none⟩) (Kd.R_far (p := ⟨gb348, 3, none⟩) (Kd.R_far (p := ⟨gb348, 2, none⟩) (Kd.R_far (p := ⟨gb348, 1, none⟩) (Kd.R_far (p := ⟨gb348, 0, none⟩) (Kd.R_types HO_5.out BK348.out (by decide)) (fun _ hk => hk.2) (.int .i64 ((rd_T49 l0 (rd l1 x6_1)).f0))) (fun _ hk => hk.2) (.int .i64 ((rd_T49 l0 (rd l1 x6_1)).f1))) (fun _ hk => hk.2) (.int .i64 ((rd_T49 l0 (rd l1 x6_1)).f2))) (fun _ hk => hk.2) (.int .i64 ((rd_T49 l0 (rd l1 x6_1)).f3))) (fun _ hk => hk.2) (.int .i64 ((rd_T49 l0 (rd l1 x6_1)).f4))) (fun _ hk => hk.2) (.int .i64 ((rd_T49 l0 (rd l1 x6_1)).f5))) (fun _ h_ => h_.1))) hb); have n1_ := Aside0.mk (blk_below (g := gb348) (o := .cells #[.int .i64 ((rd_T49 l0 (rd l1 x6_1)).f0), .int .i64 ((rd_T49 l0 (rd l1 x6_1)).f1), .int .i64 ((rd_T49 l0 (rd l1 x6_1)).f2), .int .i64 ((rd_T49 l0 (rd l1 x6_1)).f3), .int .i64 ((rd_T49 l0 (rd l1 x6_1)).f4), .int .i64 ((rd_T49 l0 (rd l1 x6_1)).f5)] 49 (0, 0)) (by refine skk ?_; refine blk_put (cs := #[.int .i64 ((rd_T49 l0 (rd l1 x6_1)).f0), .int .i64 ((rd_T49 l0 (rd l1 x6_1)).f1), .int .i64 ((rd_T49 l0 (rd l1 x6_1)).f2), .int .i64 ((rd_T49 l0 (rd l1 x6_1)).f3), .int .i64 ((rd_T49 l0 (rd l1 x6_1)).f4), .int .i64 0]) ?_ 5 _ rfl; refine skk ?_; refine blk_put (cs := #[.int .i64 ((rd_T49 l0 (rd l1 x6_1)).f0), .int .i64 ((rd_T49 l0 (rd l1 x6_1)).f1), .int .i64 ((rd_T49 l0 (rd l1 x6_1)).f2), .int .i64 ((rd_T49 l0 (rd l1 x6_1)).f3), .int .i64 0, .int .i64 0]) ?_ 4 _ rfl; refine skk ?_; refine blk_put (cs := #[.int .i64 ((rd_T49 l0 (rd l1 x6_1)).f0), .int .i64 ((rd_T49 l0 (rd l1 x6_1)).f1), .int .i64 ((rd_T49 l0 (rd l1 x6_1)).f2), .int .i64 0, .int .i64 0, .int .i64 0]) ?_ 3 _ rfl; refine skk ?_; refine blk_put (cs := #[.int .i64 ((rd_T49 l0 (rd l1 x6_1)).f0), .int .i64 ((rd_T49 l0 (rd l1 x6_1)).f1), .int .i64 0, .int .i64 0, .int .i64 0, .int .i64 0]) ?_ 2 _ rfl; refine skk ?_; refine blk_put (cs := #[.int .i64 ((rd_T49 l0 (rd l1 x6_1)).f0), .int .i64 0, .int .i64 0, .int .i64 0, .int .i64 0, .int .i64 0]) ?_ 1 _ rfl; refine skk ?_; refine blk_put (cs := #[.int .i64 0, .int .i64 0, .int .i64 0, .int .i64 0, .int .i64 0, .int .i64 0]) ?_ 0 _ rfl; refine skk ?_; exact BK348.out) hb); have n2_ := Aside0.mk (below_step (by repeat (first | (with_reducible first | exact HB.out | apply below_alloc | apply pw_below_drewN | apply below_drew1 | refine below_set ?_ GE348.out) | exact HB.out)) hb); clear HO_5; clear BK348; clear HB; have HO_5 := n0_; have BK348 := n1_; have HB := n2_; clear n0_ n1_ n2_; (try clear hb); (try clear hb2); (try clear hk); (try clear hi); obtain ⟨hcz37_0, hcz37_1, hcz37_2, hcz37_3, hcz37_4, hcz37_5, hfz37_0, hfz37_1, hfz37_2, hfz37_3, hfz37_4, hfz37_5⟩ := bk6 BK348.out))
           go_roundg k1
           case measure => have := HK1.out; omega
           case rel => exact ⟨(x5_1), (wrap64 (x6_1 + 1)), rs, H', ⟨by have := HK1.out; omega⟩, ⟨skR HO_5.out⟩, ⟨by repeat (first | (with_reducible first | exact HB.out | apply below_alloc | apply pw_below_drewN | apply below_drew1 | refine below_set ?_ GE348.out) | exact HB.out)⟩⟩
        ·
         rw [if_neg c10] at H
         exact absurd H (by simp)
       ·
        rw [if_neg c9] at H
        exact absurd H (by simp)
      ·
       rw [if_neg c8] at H
       exact absurd H (by simp)
     ·
      rw [if_neg c7] at H
      have c7b0 : decide (x6_1 < (l1.length : Int)) = false := decide_eq_false c7
      clear c7
      obtain rfl := Option.some.inj H
      go_wp2
      go_ret
      exact ⟨_, re, skR HO_5.out, skB HB.out⟩
  ·
   rw [if_neg c4] at H
   exact absurd H (by simp)
 ·
  rw [if_neg c3] at H
  exact absurd H (by simp)
end Go.Proofs.Ytmmjkebboonnkaa.P
/- F35 -/
namespace Go.Proofs.Ytmmjkebboonnkaa.P
open Go.RowKit Go.Proofs.YtmmjkebboonnkaaW.PrintWords Go.Proofs.YtmmjkebboonnkaaW.PrintLast Go.Proofs.YtmmjkebboonnkaaW.PrintMore
attribute [local go_sem] max2_int min2_int max_two min_two max_three min_three max_four min_four   -- for this text's walks alone
set_option linter.unusedVariables false
set_option linter.unusedSimpArgs false
def larchref17_Reds.l0 : Nat → List Int → List Bool → List Int → Int → Option (List Int × Int)
 | 0, _, _, _, _ => none
 | k + 1, x4, x6, x7, x8 => if x8 < (x4.length : Int) then (if 0 ≤ x8 then (if 0 ≤ (rd x4 x8) then (if (rd x4 x8) < (x6.length : Int) then (if rdOf false x6 (rd x4 x8) = true then (if x7.length < 17592186044416 then (larchref17_Reds.l0 k x4 x6 (x7 ++ [rd x4 x8]) (wrap64 (x8 + 1))) else (none)) else (larchref17_Reds.l0 k x4 x6 x7 (wrap64 (x8 + 1)))) else (none)) else (none)) else (none)) else (some (x7, 0))
def larchref17_Reds.f (k : Nat) (l0 : List (S49)) : Option (List Int × Int) := (larchref17_keys.f k l0).bind fun bt354 => (if bt354.2 = 0 then ((larchref17_reds.f k l0 bt354.1).bind fun t358 => (larchref17_Reds.l0 k bt354.1 t358 ([] : List Int) 0)) else (some (([] : List Int), bt354.2)))
set_option maxHeartbeats 8000000 in
set_option maxRecDepth 100000 in
theorem larchref17_Reds.calls (k : Nat) (A0 : Option Addr) (c0 : Nat) (l0 : List (S49)) (r1 : List Int) (r2 : Int) (w : World) (hr0 : Kd.C k49 w A0 l0.length l0) (hc0 : l0.length ≤ c0) (h : larchref17_Reds.f k l0 = some (r1, r2)) :
  Calls Try.prog 11 #[.slice A0 l0.length c0] w fun e w' => ∃ v0_ : Value, e = .returned (.tuple #[v0_, .int .i64 r2]) ∧ Kd.R (Kd.int .i64) 3 w' w.heap.size (fun _ => True) v0_ r1 ∧ Below w.heap.size w w' := by
 have HR0 := Aside0.mk hr0
 have HC0 := Aside0.mk hc0
 clear hr0 hc0
 have HB := Aside0.mk (Below.refl w.heap.size w)
 have H : ((larchref17_keys.f k l0).bind fun bt354 => (if bt354.2 = 0 then ((larchref17_reds.f k l0 bt354.1).bind fun t358 => (larchref17_Reds.l0 k bt354.1 t358 ([] : List Int) 0)) else (some (([] : List Int), bt354.2)))) = some (r1, r2) := h
 clear h
 replace H := Option.bind_eq_some_iff.mp H
 obtain ⟨⟨t354, t355⟩, A20, H⟩ := H
 replace H : (if t355 = 0 then ((larchref17_reds.f k l0 t354).bind fun t358 => (larchref17_Reds.l0 k t354 t358 ([] : List Int) 0)) else (some (([] : List Int), t355))) = some (r1, r2) := H
 have A2 := Aside0.mk A20
 clear A20
 by_cases c3 : t355 = 0
 ·
  rw [if_pos c3] at H
  have c3b0 : (t355 == 0) = true := beq_iff_eq.mpr c3
  have c3b1 : (t355 != 0) = false := bne_eq_false_iff_eq.mpr c3
  clear c3
  replace H := Option.bind_eq_some_iff.mp H
  obtain ⟨t358, A40, H⟩ := H
  replace H : (larchref17_Reds.l0 k t354 t358 ([] : List Int) 0) = some (r1, r2) := H
  have A4 := Aside0.mk A40
  clear A40
  have H' := Aside0.mk H
  clear H
  go_enter Try.func11, Try.ntmps11
  go_wp2_with (first | ((with_reducible refine gate_callee (f := 46) rfl ?_); refine goesL_ (some 11) rfl rfl Try.func46 (by kernel_rfl) rfl #[.slice A0 l0.length c0] rfl ags ?_; (with_reducible refine (larchref17_keys.calls k _ _ l0 t354 t355 _ ?side1 ?side2 A2.out).mono ?_); (case side1 => exact skC HR0.out); (case side2 => exact HC0.out); rintro e w5 ⟨v356, rfl, ho0, hb⟩; refine ⟨_, rfl, ?_⟩; have n0_ := Aside0.mk (Kd.R_lower ho0 (below_size (skB HB.out))); have n1_ := Aside0.mk (below_step (skB HB.out) hb); clear HB; have HO357 := n0_; have HB := n1_; clear n0_ n1_; (try clear hb); (try clear hb2); (try clear hk); (try clear hi); (try clear ho0); obtain ⟨Ao6, co6, eo6⟩ := Kd.R_slice HO357.out; subst eo6) | ((with_reducible refine gate_callee (f := 47) rfl ?_); refine goesL_ (some 19) rfl rfl Try.func47 (by kernel_rfl) rfl #[.slice A0 l0.length c0, .slice Ao6 t354.length co6] rfl ags ?_; (with_reducible refine (larchref17_reds.calls k _ _ l0 _ _ t354 t358 _ ?side1 ?side2 ?side3 ?side4 A4.out).mono ?_); (case side1 => exact skC (Kd.C_below HR0.out HB.out)); (case side2 => exact HC0.out); (case side3 => exact skC (Kd.R_reads' HO357.out).2.2); (case side4 => exact (Kd.R_reads' HO357.out).2.1); rintro e w7 ⟨v359, rfl, ho0, hb⟩; refine ⟨_, rfl, ?_⟩; have n0_ := Aside0.mk (Kd.R_below (skR HO357.out) hb); have n1_ := Aside0.mk (Kd.R_lower ho0 (below_size (skB HB.out))); have n2_ := Aside0.mk (below_step (skB HB.out) hb); clear HO357; clear HB; have HO357 := n0_; have HO360 := n1_; have HB := n2_; clear n0_ n1_ n2_; (try clear hb); (try clear hb2); (try clear hk); (try clear hi); (try clear ho0)))
  go_loopg [7, 8] k (fun kq v7 v8 w' => ∃ (x7_1 : List Int) (x8_1 : Int), v8 = .int .i64 x8_1 ∧ Aside0 (larchref17_Reds.l0 kq t354 t358 x7_1 x8_1 = some (r1, r2)) ∧ Aside0 (kq ≤ k) ∧ Aside0 (Kd.R (Kd.int .i64) 3 w' w.heap.size (fun k_ => some k_ ≠ (v7 : Value).ownBlock) (.slice Ao6 t354.length co6) t354) ∧ Aside0 (Kd.R Kd.bool 4 w' w.heap.size (fun _ => True) v359 t358) ∧ Aside0 (Kd.R (Kd.int .i64) 3 w' w.heap.size (fun k_ => some k_ ≠ ((.slice Ao6 t354.length co6) : Value).ownBlock) v7 x7_1) ∧ Aside0 (Below w.heap.size w w'))
  case atStart => exact ⟨(([] : List Int)), (0), rs, H', ⟨Nat.le_refl _⟩, ⟨skR (Kd.R_mono HO357.out (fun _ hk => (by simp [Value.ownBlock])))⟩, ⟨skR HO360.out⟩, ⟨by first | exact Kd.R_nil _ _ _ _ _ | exact Kd.N_nil _ _ _ _ _ | exact Kd.V_nil _ _ _ _ _ | exact Kd.Q_nil _ _ _ _ _ | exact Kd.S_nil _ _ _ _ _⟩, ⟨skB HB.out⟩⟩
  case round =>
   clear H'
   try clear c1
   try clear p2
   try clear c3
   try clear c3b0
   try clear c3b1
   try clear c4
   obtain ⟨x7_1, x8_1, rfl, HA, HK1, HO_4, HO_6, HO_7, HB⟩ := hrel
   cases gk with
   | zero => exact absurd HA.out (by simp [larchref17_Reds.l0])
   | succ k1 =>
    have H := HA.out
    clear HA
    simp only [larchref17_Reds.l0] at H
    by_cases c8 : x8_1 < (t354.length : Int)
    ·
     rw [if_pos c8] at H
     have c8b0 : decide (x8_1 < (t354.length : Int)) = true := decide_eq_true c8
     clear c8
     by_cases c9 : 0 ≤ x8_1
     ·
      rw [if_pos c9] at H
      have c9b0 : decide (0 ≤ x8_1) = true := decide_eq_true c9
      clear c9
      by_cases c10 : 0 ≤ (rd t354 x8_1)
      ·
       rw [if_pos c10] at H
       have c10b0 : decide (0 ≤ (rd t354 x8_1)) = true := decide_eq_true c10
       clear c10
       by_cases c11 : (rd t354 x8_1) < (t358.length : Int)
       ·
        rw [if_pos c11] at H
        have c11b0 : decide ((rd t354 x8_1) < (t358.length : Int)) = true := decide_eq_true c11
        clear c11
        obtain ⟨bq12, hbq12⟩ : ∃ b_ : Bool, b_ = (rdOf false t358 (rd t354 x8_1)) := ⟨_, rfl⟩
        replace H : (if bq12 = true then (if x7_1.length < 17592186044416 then (larchref17_Reds.l0 k1 t354 t358 (x7_1 ++ [rd t354 x8_1]) (wrap64 (x8_1 + 1))) else (none)) else (larchref17_Reds.l0 k1 t354 t358 x7_1 (wrap64 (x8_1 + 1)))) = some (r1, r2) := by rw [← hbq12] at H; exact H
        have Nbq12 := Aside0.mk hbq12
        clear hbq12
        by_cases c13 : bq12 = true
        ·
         subst c13
         have H1 : (if x7_1.length < 17592186044416 then (larchref17_Reds.l0 k1 t354 t358 (x7_1 ++ [rd t354 x8_1]) (wrap64 (x8_1 + 1))) else (none)) = some (r1, r2) := by rw [if_pos rfl] at H; exact H
         clear H
         have H := H1
         clear H1
         by_cases c14 : x7_1.length < 17592186044416
         ·
          rw [if_pos c14] at H
          have LMc14 := Aside0.mk c14
          clear c14
          obtain ⟨y364, hy364⟩ : ∃ y_ : List Int, y_ = (x7_1 ++ [rd t354 x8_1]) := ⟨_, rfl⟩
          replace H : (larchref17_Reds.l0 k1 t354 t358 y364 (wrap64 (x8_1 + 1))) = some (r1, r2) := by first | (rw [hy364]; with_reducible exact H) | (have H2_ := (Option.bind_some _ _).symm.trans H; rw [hy364]; with_reducible exact H2_) | (have H2_ := (Option.bind_some _ _).symm.trans H; with_reducible exact H2_) | with_reducible exact H | (rw [hy364]; exact H) | exact H
          have Ny364 := Aside0.mk hy364
          clear hy364
          have H' := Aside0.mk H
          clear H
          have p361 : 0 ≤ (x8_1 : Int) := dt
          have q361 : x8_1 < (t354.length : Int) := dt
          obtain ⟨ad361, e361, hx361_0⟩ := Kd.at_int (Kd.R_reads' HO_4.out).2.2 x8_1 p361 q361
          cases e361
          replace p361 := eq_true p361
          replace q361 := eq_true q361
          obtain ⟨Ao15, co15, eo15⟩ := Kd.R_slice HO_6.out
          subst eo15
          have p362 : 0 ≤ ((rd t354 x8_1) : Int) := dt
          have q362 : (rd t354 x8_1) < (t358.length : Int) := dt
          obtain ⟨ad362, e362, hx362_0⟩ := Kd.at_bool (Kd.R_reads' HO_6.out).2.2 (rd t354 x8_1) p362 q362
          (try rw [← Nbq12.out] at hx362_0)
          cases e362
          replace p362 := eq_true p362
          replace q362 := eq_true q362
          have p363 : 0 ≤ (x8_1 : Int) := dt
          have q363 : x8_1 < (t354.length : Int) := dt
          obtain ⟨ad363, e363, hx363_0⟩ := Kd.at_int (Kd.R_reads' HO_4.out).2.2 x8_1 p363 q363
          obtain rfl : ad361 = ad363 := (by injection e363)
          replace p363 := eq_true p363
          replace q363 := eq_true q363
          go_wp2_with (first | ((with_reducible refine gate_builtin (b := .append) (xs := #[.tmp 33, .tmp 38]) rfl ?_); at_builtin; refine Kd.R_append (Kd.int .i64) (w0 := w) w.heap.size rfl (.tmp 33) (.tmp 38) 23 3 (.int .i64 0) 8 rfl Try.underlying23 info3 rfl (by decide) (by omega) u7 x7_1 (rd t354 x8_1) [.int .i64 (rd t354 x8_1)] (fun k_ => some k_ ≠ (.slice (some ad361) t354.length co6 : Value).ownBlock) (fun _ => False) rfl rfl ?aP (fun _ hk => hk.elim) ?aF ?aO ?aB ?aS ?aL ?_; (case aP => exact rfl); (case aB => exact (skB HB.out)); (case aF => exact (fun k_ hk => Kd.fresh' (Kd.R_lt (skR HO_4.out)) k_ hk)); (case aO => exact (skR HO_7.out)); (case aS => exact (below_size (skB HB.out))); (case aL => have := LMc14.out; omega); intro v365 w16 ho hb hg hat; rw [← Ny364.out] at ho; have n0_ := Aside0.mk (Kd.R_after (ok := (fun _ => True)) (skR (Kd.R_mono HO_4.out (fun _ hk => ⟨trivial, hk⟩))) hg hat); have n1_ := Aside0.mk (Kd.R_over' (skR HO_6.out) (Kd.R_typed (skR HO_7.out)) (by decide) hg); have n2_ := Aside0.mk (hb); have n3_ := Aside0.mk (ho); clear HO_4; clear HO_6; clear HB; clear HO_7; have HO_4 := n0_; have HO_6 := n1_; have HB := n2_; have HO366 := n3_; clear n0_ n1_ n2_ n3_; clear ho hb hg hat))
          go_roundg k1
          case measure => have := HK1.out; omega
          case rel => exact ⟨(y364), (wrap64 (x8_1 + 1)), rs, H', ⟨by have := HK1.out; omega⟩, ⟨skR (Kd.R_mono HO_4.out (fun _ hk => hk.2))⟩, ⟨skR HO_6.out⟩, ⟨skR HO366.out⟩, ⟨skB HB.out⟩⟩
         ·
          rw [if_neg c14] at H
          exact absurd H (by simp)
        ·
         replace c13 := Bool.eq_false_iff.mpr c13
         subst c13
         have H1 : (larchref17_Reds.l0 k1 t354 t358 x7_1 (wrap64 (x8_1 + 1))) = some (r1, r2) := by rw [if_neg (show ¬ (false = true) by decide)] at H; exact H
         clear H
         have H := H1
         clear H1
         have H' := Aside0.mk H
         clear H
         have p361 : 0 ≤ (x8_1 : Int) := dt
         have q361 : x8_1 < (t354.length : Int) := dt
         obtain ⟨ad361, e361, hx361_0⟩ := Kd.at_int (Kd.R_reads' HO_4.out).2.2 x8_1 p361 q361
         cases e361
         replace p361 := eq_true p361
         replace q361 := eq_true q361
         obtain ⟨Ao17, co17, eo17⟩ := Kd.R_slice HO_6.out
         subst eo17
         have p362 : 0 ≤ ((rd t354 x8_1) : Int) := dt
         have q362 : (rd t354 x8_1) < (t358.length : Int) := dt
         obtain ⟨ad362, e362, hx362_0⟩ := Kd.at_bool (Kd.R_reads' HO_6.out).2.2 (rd t354 x8_1) p362 q362
         (try rw [← Nbq12.out] at hx362_0)
         cases e362
         replace p362 := eq_true p362
         replace q362 := eq_true q362
         go_wp2
         go_roundg k1
         case measure => have := HK1.out; omega
         case rel => exact ⟨(x7_1), (wrap64 (x8_1 + 1)), rs, H', ⟨by have := HK1.out; omega⟩, ⟨skR HO_4.out⟩, ⟨skR HO_6.out⟩, ⟨skR HO_7.out⟩, ⟨skB HB.out⟩⟩
       ·
        rw [if_neg c11] at H
        exact absurd H (by simp)
      ·
       rw [if_neg c10] at H
       exact absurd H (by simp)
     ·
      rw [if_neg c9] at H
      exact absurd H (by simp)
    ·
     rw [if_neg c8] at H
     have c8b0 : decide (x8_1 < (t354.length : Int)) = false := decide_eq_false c8
     clear c8
     simp only [Option.some.injEq, Prod.mk.injEq] at H
     obtain ⟨rfl, rfl⟩ := H
     go_wp2
     go_ret2
     exact ⟨_, re, skR (Kd.R_mono HO_7.out (fun _ hk => trivial)), skB HB.out⟩
 ·
  rw [if_neg c3] at H
  have c3b0 : (t355 == 0) = false := beq_eq_false_iff_ne.mpr c3
  have c3b1 : (t355 != 0) = true := bne_iff_ne.mpr c3
  simp only [Option.some.injEq, Prod.mk.injEq] at H
  obtain ⟨rfl, rfl⟩ := H
  go_enter Try.func11, Try.ntmps11
  go_wp2_with (first | ((with_reducible refine gate_callee (f := 46) rfl ?_); refine goesL_ (some 11) rfl rfl Try.func46 (by kernel_rfl) rfl #[.slice A0 l0.length c0] rfl ags ?_; (with_reducible refine (larchref17_keys.calls k _ _ l0 t354 t355 _ ?side1 ?side2 A2.out).mono ?_); (case side1 => exact skC HR0.out); (case side2 => exact HC0.out); rintro e w18 ⟨v356, rfl, ho0, hb⟩; refine ⟨_, rfl, ?_⟩; have n0_ := Aside0.mk (Kd.R_lower ho0 (below_size (skB HB.out))); have n1_ := Aside0.mk (below_step (skB HB.out) hb); clear HB; have HO357 := n0_; have HB := n1_; clear n0_ n1_; (try clear hb); (try clear hb2); (try clear hk); (try clear hi); (try clear ho0)))
  go_ret2
  exact ⟨_, re, by first | exact Kd.R_nil _ _ _ _ _ | exact Kd.N_nil _ _ _ _ _ | exact Kd.V_nil _ _ _ _ _ | exact Kd.Q_nil _ _ _ _ _ | exact Kd.S_nil _ _ _ _ _, skB HB.out⟩
end Go.Proofs.Ytmmjkebboonnkaa.P
/- F36 -/
namespace Go.Proofs.Ytmmjkebboonnkaa.P
open Go.RowKit Go.Proofs.YtmmjkebboonnkaaW.PrintWords Go.Proofs.YtmmjkebboonnkaaW.PrintLast Go.Proofs.YtmmjkebboonnkaaW.PrintMore
attribute [local go_sem] max2_int min2_int max_two min_two max_three min_three max_four min_four   -- for this text's walks alone
set_option linter.unusedVariables false
set_option linter.unusedSimpArgs false
def larchref17_Overs.l0 : Nat → List (S49) → List Int → List Int → Int → Option (List Int × Int)
 | 0, _, _, _, _ => none
 | k + 1, x0, x4, x6, x7 => if x7 < (x4.length : Int) then (if 0 ≤ x7 then (if 0 ≤ (rd x4 x7) then (if (rd x4 x7) < (x0.length : Int) then (if ((rd_T49 x0 (rd x4 x7)).f2) > 1 then (if x6.length < 17592186044416 then (larchref17_Overs.l0 k x0 x4 (x6 ++ [rd x4 x7]) (wrap64 (x7 + 1))) else (none)) else (larchref17_Overs.l0 k x0 x4 x6 (wrap64 (x7 + 1)))) else (none)) else (none)) else (none)) else (some (x6, 0))
def larchref17_Overs.f (k : Nat) (l0 : List (S49)) : Option (List Int × Int) := (larchref17_keys.f k l0).bind fun bt367 => (if bt367.2 = 0 then (larchref17_Overs.l0 k l0 bt367.1 ([] : List Int) 0) else (some (([] : List Int), bt367.2)))
set_option maxHeartbeats 8000000 in
set_option maxRecDepth 100000 in
theorem larchref17_Overs.calls (k : Nat) (A0 : Option Addr) (c0 : Nat) (l0 : List (S49)) (r1 : List Int) (r2 : Int) (w : World) (hr0 : Kd.C k49 w A0 l0.length l0) (hc0 : l0.length ≤ c0) (h : larchref17_Overs.f k l0 = some (r1, r2)) :
  Calls Try.prog 14 #[.slice A0 l0.length c0] w fun e w' => ∃ v0_ : Value, e = .returned (.tuple #[v0_, .int .i64 r2]) ∧ Kd.R (Kd.int .i64) 3 w' w.heap.size (fun _ => True) v0_ r1 ∧ Below w.heap.size w w' := by
 have HR0 := Aside0.mk hr0
 have HC0 := Aside0.mk hc0
 clear hr0 hc0
 have HB := Aside0.mk (Below.refl w.heap.size w)
 have H : ((larchref17_keys.f k l0).bind fun bt367 => (if bt367.2 = 0 then (larchref17_Overs.l0 k l0 bt367.1 ([] : List Int) 0) else (some (([] : List Int), bt367.2)))) = some (r1, r2) := h
 clear h
 replace H := Option.bind_eq_some_iff.mp H
 obtain ⟨⟨t367, t368⟩, A20, H⟩ := H
 replace H : (if t368 = 0 then (larchref17_Overs.l0 k l0 t367 ([] : List Int) 0) else (some (([] : List Int), t368))) = some (r1, r2) := H
 have A2 := Aside0.mk A20
 clear A20
 by_cases c3 : t368 = 0
 ·
  rw [if_pos c3] at H
  have c3b0 : (t368 == 0) = true := beq_iff_eq.mpr c3
  have c3b1 : (t368 != 0) = false := bne_eq_false_iff_eq.mpr c3
  clear c3
  have H' := Aside0.mk H
  clear H
  go_enter Try.func14, Try.ntmps14
  go_wp2_with (first | ((with_reducible refine gate_callee (f := 46) rfl ?_); refine goesL_ (some 10) rfl rfl Try.func46 (by kernel_rfl) rfl #[.slice A0 l0.length c0] rfl ags ?_; (with_reducible refine (larchref17_keys.calls k _ _ l0 t367 t368 _ ?side1 ?side2 A2.out).mono ?_); (case side1 => exact skC HR0.out); (case side2 => exact HC0.out); rintro e w4 ⟨v369, rfl, ho0, hb⟩; refine ⟨_, rfl, ?_⟩; have n0_ := Aside0.mk (Kd.R_lower ho0 (below_size (skB HB.out))); have n1_ := Aside0.mk (below_step (skB HB.out) hb); clear HB; have HO370 := n0_; have HB := n1_; clear n0_ n1_; (try clear hb); (try clear hb2); (try clear hk); (try clear hi); (try clear ho0)))
  go_loopg [6, 7] k (fun kq v6 v7 w' => ∃ (x6_1 : List Int) (x7_1 : Int), v7 = .int .i64 x7_1 ∧ Aside0 (larchref17_Overs.l0 kq l0 t367 x6_1 x7_1 = some (r1, r2)) ∧ Aside0 (kq ≤ k) ∧ Aside0 (Kd.R (Kd.int .i64) 3 w' w.heap.size (fun k_ => some k_ ≠ (v6 : Value).ownBlock) v369 t367) ∧ Aside0 (Kd.R (Kd.int .i64) 3 w' w.heap.size (fun k_ => some k_ ≠ (v369 : Value).ownBlock) v6 x6_1) ∧ Aside0 (Below w.heap.size w w'))
  case atStart => exact ⟨(([] : List Int)), (0), rs, H', ⟨Nat.le_refl _⟩, ⟨skR (Kd.R_mono HO370.out (fun _ hk => (by simp [Value.ownBlock])))⟩, ⟨by first | exact Kd.R_nil _ _ _ _ _ | exact Kd.N_nil _ _ _ _ _ | exact Kd.V_nil _ _ _ _ _ | exact Kd.Q_nil _ _ _ _ _ | exact Kd.S_nil _ _ _ _ _⟩, ⟨skB HB.out⟩⟩
  case round =>
   clear H'
   try clear c1
   try clear p2
   try clear c3
   try clear c3b0
   try clear c3b1
   try clear c4
   obtain ⟨x6_1, x7_1, rfl, HA, HK1, HO_4, HO_6, HB⟩ := hrel
   cases gk with
   | zero => exact absurd HA.out (by simp [larchref17_Overs.l0])
   | succ k1 =>
    have H := HA.out
    clear HA
    simp only [larchref17_Overs.l0] at H
    by_cases c5 : x7_1 < (t367.length : Int)
    ·
     rw [if_pos c5] at H
     have c5b0 : decide (x7_1 < (t367.length : Int)) = true := decide_eq_true c5
     clear c5
     by_cases c6 : 0 ≤ x7_1
     ·
      rw [if_pos c6] at H
      have c6b0 : decide (0 ≤ x7_1) = true := decide_eq_true c6
      clear c6
      by_cases c7 : 0 ≤ (rd t367 x7_1)
      ·
       rw [if_pos c7] at H
       have c7b0 : decide (0 ≤ (rd t367 x7_1)) = true := decide_eq_true c7
       clear c7
       by_cases c8 : (rd t367 x7_1) < (l0.length : Int)
       ·
        rw [if_pos c8] at H
        have c8b0 : decide ((rd t367 x7_1) < (l0.length : Int)) = true := decide_eq_true c8
        clear c8
        by_cases c9 : ((rd_T49 l0 (rd t367 x7_1)).f2) > 1
        ·
         rw [if_pos c9] at H
         have c9b0 : decide (1 < ((rd_T49 l0 (rd t367 x7_1)).f2)) = true := decide_eq_true c9
         clear c9
         by_cases c10 : x6_1.length < 17592186044416
         ·
          rw [if_pos c10] at H
          have LMc10 := Aside0.mk c10
          clear c10
          obtain ⟨y374, hy374⟩ : ∃ y_ : List Int, y_ = (x6_1 ++ [rd t367 x7_1]) := ⟨_, rfl⟩
          replace H : (larchref17_Overs.l0 k1 l0 t367 y374 (wrap64 (x7_1 + 1))) = some (r1, r2) := by first | (rw [hy374]; with_reducible exact H) | (have H2_ := (Option.bind_some _ _).symm.trans H; rw [hy374]; with_reducible exact H2_) | (have H2_ := (Option.bind_some _ _).symm.trans H; with_reducible exact H2_) | with_reducible exact H | (rw [hy374]; exact H) | exact H
          have Ny374 := Aside0.mk hy374
          clear hy374
          have H' := Aside0.mk H
          clear H
          obtain ⟨Ao11, co11, eo11⟩ := Kd.R_slice HO_4.out
          subst eo11
          have p371 : 0 ≤ (x7_1 : Int) := dt
          have q371 : x7_1 < (t367.length : Int) := dt
          obtain ⟨ad371, e371, hx371_0⟩ := Kd.at_int (Kd.R_reads' HO_4.out).2.2 x7_1 p371 q371
          cases e371
          replace p371 := eq_true p371
          replace q371 := eq_true q371
          have p372 : 0 ≤ ((rd t367 x7_1) : Int) := dt
          have q372 : (rd t367 x7_1) < (l0.length : Int) := dt
          obtain ⟨ad372, e372, hx372_0, hx372_1, hx372_2, hx372_3, hx372_4, hx372_5⟩ := at_T49 HR0.out (rd t367 x7_1) p372 q372
          cases e372
          replace hx372_0 := skc HB.out hx372_0
          replace hx372_1 := skc HB.out hx372_1
          replace hx372_2 := skc HB.out hx372_2
          replace hx372_3 := skc HB.out hx372_3
          replace hx372_4 := skc HB.out hx372_4
          replace hx372_5 := skc HB.out hx372_5
          replace p372 := eq_true p372
          replace q372 := eq_true q372
          have p373 : 0 ≤ (x7_1 : Int) := dt
          have q373 : x7_1 < (t367.length : Int) := dt
          obtain ⟨ad373, e373, hx373_0⟩ := Kd.at_int (Kd.R_reads' HO_4.out).2.2 x7_1 p373 q373
          obtain rfl : ad371 = ad373 := (by injection e373)
          replace p373 := eq_true p373
          replace q373 := eq_true q373
          go_wp2_with (first | ((with_reducible refine gate_builtin (b := .append) (xs := #[.tmp 31, .tmp 36]) rfl ?_); at_builtin; refine Kd.R_append (Kd.int .i64) (w0 := w) w.heap.size rfl (.tmp 31) (.tmp 36) 23 3 (.int .i64 0) 8 rfl Try.underlying23 info3 rfl (by decide) (by omega) u6 x6_1 (rd t367 x7_1) [.int .i64 (rd t367 x7_1)] (fun k_ => some k_ ≠ (.slice (some ad371) t367.length co11 : Value).ownBlock) (fun _ => False) rfl rfl ?aP (fun _ hk => hk.elim) ?aF ?aO ?aB ?aS ?aL ?_; (case aP => exact rfl); (case aB => exact (skB HB.out)); (case aF => exact (fun k_ hk => Kd.fresh' (Kd.R_lt (skR HO_4.out)) k_ hk)); (case aO => exact (skR HO_6.out)); (case aS => exact (below_size (skB HB.out))); (case aL => have := LMc10.out; omega); intro v375 w12 ho hb hg hat; rw [← Ny374.out] at ho; have n0_ := Aside0.mk (Kd.R_after (ok := (fun _ => True)) (skR (Kd.R_mono HO_4.out (fun _ hk => ⟨trivial, hk⟩))) hg hat); have n1_ := Aside0.mk (hb); have n2_ := Aside0.mk (ho); clear HO_4; clear HB; clear HO_6; have HO_4 := n0_; have HB := n1_; have HO376 := n2_; clear n0_ n1_ n2_; clear ho hb hg hat))
          go_roundg k1
          case measure => have := HK1.out; omega
          case rel => exact ⟨(y374), (wrap64 (x7_1 + 1)), rs, H', ⟨by have := HK1.out; omega⟩, ⟨skR (Kd.R_mono HO_4.out (fun _ hk => hk.2))⟩, ⟨skR HO376.out⟩, ⟨skB HB.out⟩⟩
         ·
          rw [if_neg c10] at H
          exact absurd H (by simp)
        ·
         rw [if_neg c9] at H
         have c9b0 : decide (1 < ((rd_T49 l0 (rd t367 x7_1)).f2)) = false := decide_eq_false c9
         clear c9
         have H' := Aside0.mk H
         clear H
         obtain ⟨Ao13, co13, eo13⟩ := Kd.R_slice HO_4.out
         subst eo13
         have p371 : 0 ≤ (x7_1 : Int) := dt
         have q371 : x7_1 < (t367.length : Int) := dt
         obtain ⟨ad371, e371, hx371_0⟩ := Kd.at_int (Kd.R_reads' HO_4.out).2.2 x7_1 p371 q371
         cases e371
         replace p371 := eq_true p371
         replace q371 := eq_true q371
         have p372 : 0 ≤ ((rd t367 x7_1) : Int) := dt
         have q372 : (rd t367 x7_1) < (l0.length : Int) := dt
         obtain ⟨ad372, e372, hx372_0, hx372_1, hx372_2, hx372_3, hx372_4, hx372_5⟩ := at_T49 HR0.out (rd t367 x7_1) p372 q372
         cases e372
         replace hx372_0 := skc HB.out hx372_0
         replace hx372_1 := skc HB.out hx372_1
         replace hx372_2 := skc HB.out hx372_2
         replace hx372_3 := skc HB.out hx372_3
         replace hx372_4 := skc HB.out hx372_4
         replace hx372_5 := skc HB.out hx372_5
         replace p372 := eq_true p372
         replace q372 := eq_true q372
         go_wp2
         go_roundg k1
         case measure => have := HK1.out; omega
         case rel => exact ⟨(x6_1), (wrap64 (x7_1 + 1)), rs, H', ⟨by have := HK1.out; omega⟩, ⟨skR HO_4.out⟩, ⟨skR HO_6.out⟩, ⟨skB HB.out⟩⟩
       ·
        rw [if_neg c8] at H
        exact absurd H (by simp)
      ·
       rw [if_neg c7] at H
       exact absurd H (by simp)
     ·
      rw [if_neg c6] at H
      exact absurd H (by simp)
    ·
     rw [if_neg c5] at H
     have c5b0 : decide (x7_1 < (t367.length : Int)) = false := decide_eq_false c5
     clear c5
     simp only [Option.some.injEq, Prod.mk.injEq] at H
     obtain ⟨rfl, rfl⟩ := H
     obtain ⟨Ao14, co14, eo14⟩ := Kd.R_slice HO_4.out
     subst eo14
     go_wp2
     go_ret2
     exact ⟨_, re, skR (Kd.R_mono HO_6.out (fun _ hk => trivial)), skB HB.out⟩
 ·
  rw [if_neg c3] at H
  have c3b0 : (t368 == 0) = false := beq_eq_false_iff_ne.mpr c3
  have c3b1 : (t368 != 0) = true := bne_iff_ne.mpr c3
  simp only [Option.some.injEq, Prod.mk.injEq] at H
  obtain ⟨rfl, rfl⟩ := H
  go_enter Try.func14, Try.ntmps14
  go_wp2_with (first | ((with_reducible refine gate_callee (f := 46) rfl ?_); refine goesL_ (some 10) rfl rfl Try.func46 (by kernel_rfl) rfl #[.slice A0 l0.length c0] rfl ags ?_; (with_reducible refine (larchref17_keys.calls k _ _ l0 t367 t368 _ ?side1 ?side2 A2.out).mono ?_); (case side1 => exact skC HR0.out); (case side2 => exact HC0.out); rintro e w15 ⟨v369, rfl, ho0, hb⟩; refine ⟨_, rfl, ?_⟩; have n0_ := Aside0.mk (Kd.R_lower ho0 (below_size (skB HB.out))); have n1_ := Aside0.mk (below_step (skB HB.out) hb); clear HB; have HO370 := n0_; have HB := n1_; clear n0_ n1_; (try clear hb); (try clear hb2); (try clear hk); (try clear hi); (try clear ho0)))
  go_ret2
  exact ⟨_, re, by first | exact Kd.R_nil _ _ _ _ _ | exact Kd.N_nil _ _ _ _ _ | exact Kd.V_nil _ _ _ _ _ | exact Kd.Q_nil _ _ _ _ _ | exact Kd.S_nil _ _ _ _ _, skB HB.out⟩
end Go.Proofs.Ytmmjkebboonnkaa.P
/- F37 -/
namespace Go.Proofs.Ytmmjkebboonnkaa.P
open Go.RowKit Go.Proofs.YtmmjkebboonnkaaW.PrintWords Go.Proofs.YtmmjkebboonnkaaW.PrintLast Go.Proofs.YtmmjkebboonnkaaW.PrintMore
attribute [local go_sem] max2_int min2_int max_two min_two max_three min_three max_four min_four   -- for this text's walks alone
set_option linter.unusedVariables false
set_option linter.unusedSimpArgs false
def larchref17_Violations.l0 : Nat → List (S49) → List Int → Int → Int → Option (Int × Int)
 | 0, _, _, _, _ => none
 | k + 1, x0, x6, x8, x9 => if x9 < (x6.length : Int) then (if 0 ≤ x9 then (if 0 ≤ (rd x6 x9) then (if (rd x6 x9) < (x0.length : Int) then (larchref17_Violations.l0 k x0 x6 (wrap64 (x8 + (wrap64 (((rd_T49 x0 (rd x6 x9)).f2) - 1)))) (wrap64 (x9 + 1))) else (none)) else (none)) else (none)) else (some (x8, 0))
def larchref17_Violations.f (k : Nat) (l0 : List (S49)) : Option (Int × Int) := (larchref17_Reds.f k l0).bind fun bt377 => (if bt377.2 = 0 then ((larchref17_Overs.f k l0).bind fun bt381 => (larchref17_Violations.l0 k l0 bt381.1 (bt377.1.length : Int) 0)) else (some (0, bt377.2)))
set_option maxHeartbeats 8000000 in
set_option maxRecDepth 100000 in
theorem larchref17_Violations.calls (k : Nat) (A0 : Option Addr) (c0 : Nat) (l0 : List (S49)) (r1 : Int) (r2 : Int) (w : World) (hr0 : Kd.C k49 w A0 l0.length l0) (hc0 : l0.length ≤ c0) (h : larchref17_Violations.f k l0 = some (r1, r2)) :
  Calls Try.prog 16 #[.slice A0 l0.length c0] w fun e w' => e = .returned (.tuple #[.int .i64 r1, .int .i64 r2]) ∧ Below w.heap.size w w' := by
 have HR0 := Aside0.mk hr0
 have HC0 := Aside0.mk hc0
 clear hr0 hc0
 have HB := Aside0.mk (Below.refl w.heap.size w)
 have H : ((larchref17_Reds.f k l0).bind fun bt377 => (if bt377.2 = 0 then ((larchref17_Overs.f k l0).bind fun bt381 => (larchref17_Violations.l0 k l0 bt381.1 (bt377.1.length : Int) 0)) else (some (0, bt377.2)))) = some (r1, r2) := h
 clear h
 replace H := Option.bind_eq_some_iff.mp H
 obtain ⟨⟨t377, t378⟩, A20, H⟩ := H
 replace H : (if t378 = 0 then ((larchref17_Overs.f k l0).bind fun bt381 => (larchref17_Violations.l0 k l0 bt381.1 (t377.length : Int) 0)) else (some (0, t378))) = some (r1, r2) := H
 have A2 := Aside0.mk A20
 clear A20
 by_cases c3 : t378 = 0
 ·
  rw [if_pos c3] at H
  have c3b0 : (t378 == 0) = true := beq_iff_eq.mpr c3
  have c3b1 : (t378 != 0) = false := bne_eq_false_iff_eq.mpr c3
  clear c3
  replace H := Option.bind_eq_some_iff.mp H
  obtain ⟨⟨t381, t382⟩, A40, H⟩ := H
  replace H : (larchref17_Violations.l0 k l0 t381 (t377.length : Int) 0) = some (r1, r2) := H
  have A4 := Aside0.mk A40
  clear A40
  have H' := Aside0.mk H
  clear H
  go_enter Try.func16, Try.ntmps16
  go_wp2_with (first | ((with_reducible refine gate_callee (f := 11) rfl ?_); refine goesL_ (some 12) rfl rfl Try.func11 (by kernel_rfl) rfl #[.slice A0 l0.length c0] rfl ags ?_; (with_reducible refine (larchref17_Reds.calls k _ _ l0 t377 t378 _ ?side1 ?side2 A2.out).mono ?_); (case side1 => exact skC HR0.out); (case side2 => exact HC0.out); rintro e w5 ⟨v379, rfl, ho0, hb⟩; refine ⟨_, rfl, ?_⟩; have n0_ := Aside0.mk (Kd.R_lower ho0 (below_size (skB HB.out))); have n1_ := Aside0.mk (below_step (skB HB.out) hb); clear HB; have HO380 := n0_; have HB := n1_; clear n0_ n1_; (try clear hb); (try clear hb2); (try clear hk); (try clear hi); (try clear ho0)) | ((with_reducible refine gate_callee (f := 14) rfl ?_); refine goesL_ (some 20) rfl rfl Try.func14 (by kernel_rfl) rfl #[.slice A0 l0.length c0] rfl ags ?_; (with_reducible refine (larchref17_Overs.calls k _ _ l0 t381 t382 _ ?side1 ?side2 A4.out).mono ?_); (case side1 => exact skC (Kd.C_below HR0.out HB.out)); (case side2 => exact HC0.out); rintro e w6 ⟨v383, rfl, ho0, hb⟩; refine ⟨_, rfl, ?_⟩; have n0_ := Aside0.mk (Kd.R_elder' (skR HO380.out) (Kd.R_base ho0) hb); have n1_ := Aside0.mk (Kd.R_lower (Kd.R_new' ho0 (Kd.R_lt (skR HO380.out))) (below_size (skB HB.out))); have n2_ := Aside0.mk (below_step (skB HB.out) hb); clear HO380; clear HB; have HO380 := n0_; have HO384 := n1_; have HB := n2_; clear n0_ n1_ n2_; (try clear hb); (try clear hb2); (try clear hk); (try clear hi); (try clear ho0); obtain ⟨Ao7, co7, eo7⟩ := Kd.R_slice HO380.out; subst eo7))
  go_loopg [8, 9] k (fun kq v8 v9 w' => ∃ (x8_1 : Int) (x9_1 : Int), v8 = .int .i64 x8_1 ∧ v9 = .int .i64 x9_1 ∧ Aside0 (larchref17_Violations.l0 kq l0 t381 x8_1 x9_1 = some (r1, r2)) ∧ Aside0 (kq ≤ k) ∧ Aside0 (Kd.R (Kd.int .i64) 3 w' w.heap.size (fun _ => True) v383 t381) ∧ Aside0 (Below w.heap.size w w'))
  case atStart => exact ⟨((t377.length : Int)), (0), rs, rs, H', ⟨Nat.le_refl _⟩, ⟨skR (Kd.R_mono HO384.out (fun _ hk => trivial))⟩, ⟨skB HB.out⟩⟩
  case round =>
   clear H'
   try clear c1
   try clear p2
   try clear c3
   try clear c3b0
   try clear c3b1
   obtain ⟨x8_1, x9_1, rfl, rfl, HA, HK1, HO_6, HB⟩ := hrel
   cases gk with
   | zero => exact absurd HA.out (by simp [larchref17_Violations.l0])
   | succ k1 =>
    have H := HA.out
    clear HA
    simp only [larchref17_Violations.l0] at H
    by_cases c8 : x9_1 < (t381.length : Int)
    ·
     rw [if_pos c8] at H
     have c8b0 : decide (x9_1 < (t381.length : Int)) = true := decide_eq_true c8
     clear c8
     by_cases c9 : 0 ≤ x9_1
     ·
      rw [if_pos c9] at H
      have c9b0 : decide (0 ≤ x9_1) = true := decide_eq_true c9
      clear c9
      by_cases c10 : 0 ≤ (rd t381 x9_1)
      ·
       rw [if_pos c10] at H
       have c10b0 : decide (0 ≤ (rd t381 x9_1)) = true := decide_eq_true c10
       clear c10
       by_cases c11 : (rd t381 x9_1) < (l0.length : Int)
       ·
        rw [if_pos c11] at H
        have c11b0 : decide ((rd t381 x9_1) < (l0.length : Int)) = true := decide_eq_true c11
        clear c11
        have H' := Aside0.mk H
        clear H
        obtain ⟨Ao12, co12, eo12⟩ := Kd.R_slice HO_6.out
        subst eo12
        have p385 : 0 ≤ (x9_1 : Int) := dt
        have q385 : x9_1 < (t381.length : Int) := dt
        obtain ⟨ad385, e385, hx385_0⟩ := Kd.at_int (Kd.R_reads' HO_6.out).2.2 x9_1 p385 q385
        cases e385
        replace p385 := eq_true p385
        replace q385 := eq_true q385
        have p386 : 0 ≤ ((rd t381 x9_1) : Int) := dt
        have q386 : (rd t381 x9_1) < (l0.length : Int) := dt
        obtain ⟨ad386, e386, hx386_0, hx386_1, hx386_2, hx386_3, hx386_4, hx386_5⟩ := at_T49 HR0.out (rd t381 x9_1) p386 q386
        cases e386
        replace hx386_0 := skc HB.out hx386_0
        replace hx386_1 := skc HB.out hx386_1
        replace hx386_2 := skc HB.out hx386_2
        replace hx386_3 := skc HB.out hx386_3
        replace hx386_4 := skc HB.out hx386_4
        replace hx386_5 := skc HB.out hx386_5
        replace p386 := eq_true p386
        replace q386 := eq_true q386
        go_wp2
        go_roundg k1
        case measure => have := HK1.out; omega
        case rel => exact ⟨(wrap64 (x8_1 + (wrap64 (((rd_T49 l0 (rd t381 x9_1)).f2) - 1)))), (wrap64 (x9_1 + 1)), rs, rs, H', ⟨by have := HK1.out; omega⟩, ⟨skR HO_6.out⟩, ⟨skB HB.out⟩⟩
       ·
        rw [if_neg c11] at H
        exact absurd H (by simp)
      ·
       rw [if_neg c10] at H
       exact absurd H (by simp)
     ·
      rw [if_neg c9] at H
      exact absurd H (by simp)
    ·
     rw [if_neg c8] at H
     have c8b0 : decide (x9_1 < (t381.length : Int)) = false := decide_eq_false c8
     clear c8
     simp only [Option.some.injEq, Prod.mk.injEq] at H
     obtain ⟨rfl, rfl⟩ := H
     obtain ⟨Ao13, co13, eo13⟩ := Kd.R_slice HO_6.out
     subst eo13
     go_wp2
     go_ret2
     exact ⟨re, skB HB.out⟩
 ·
  rw [if_neg c3] at H
  have c3b0 : (t378 == 0) = false := beq_eq_false_iff_ne.mpr c3
  have c3b1 : (t378 != 0) = true := bne_iff_ne.mpr c3
  simp only [Option.some.injEq, Prod.mk.injEq] at H
  obtain ⟨rfl, rfl⟩ := H
  go_enter Try.func16, Try.ntmps16
  go_wp2_with (first | ((with_reducible refine gate_callee (f := 11) rfl ?_); refine goesL_ (some 12) rfl rfl Try.func11 (by kernel_rfl) rfl #[.slice A0 l0.length c0] rfl ags ?_; (with_reducible refine (larchref17_Reds.calls k _ _ l0 t377 t378 _ ?side1 ?side2 A2.out).mono ?_); (case side1 => exact skC HR0.out); (case side2 => exact HC0.out); rintro e w14 ⟨v379, rfl, ho0, hb⟩; refine ⟨_, rfl, ?_⟩; have n0_ := Aside0.mk (Kd.R_lower ho0 (below_size (skB HB.out))); have n1_ := Aside0.mk (below_step (skB HB.out) hb); clear HB; have HO380 := n0_; have HB := n1_; clear n0_ n1_; (try clear hb); (try clear hb2); (try clear hk); (try clear hi); (try clear ho0)))
  go_ret2
  exact ⟨re, skB HB.out⟩
end Go.Proofs.Ytmmjkebboonnkaa.P
/- F38 -/
namespace Go.Proofs.Ytmmjkebboonnkaa.P
open Go.RowKit Go.Proofs.YtmmjkebboonnkaaW.PrintWords Go.Proofs.YtmmjkebboonnkaaW.PrintLast Go.Proofs.YtmmjkebboonnkaaW.PrintMore
attribute [local go_sem] max2_int min2_int max_two min_two max_three min_three max_four min_four   -- for this text's walks alone
set_option linter.unusedVariables false
set_option linter.unusedSimpArgs false
def larchref17_Path.l0 : Nat → List (S49) → Int → List Int → Int → Option (List Int)
 | 0, _, _, _, _ => none
 | k + 1, x0, x1, x5, x6 => if 0 ≤ x6 then (if x6 < (x0.length : Int) then ((larchref17_leaf.f ((rd_T49 x0 x6).f0) ((rd_T49 x0 x6).f1) ((rd_T49 x0 x6).f2) ((rd_T49 x0 x6).f3) ((rd_T49 x0 x6).f4) ((rd_T49 x0 x6).f5)).bind fun t391 => (if t391 = true then (some x5) else (if ((rd_T49 x0 x6).f1) = 1 then (if x5.length < 17592186044416 then (larchref17_Path.l0 k x0 x1 (x5 ++ [(rd_T49 x0 x6).f4]) ((rd_T49 x0 x6).f4)) else (none)) else (if x1 < ((rd_T49 x0 x6).f0) then (if x5.length < 17592186044416 then (larchref17_Path.l0 k x0 x1 (x5 ++ [(rd_T49 x0 x6).f4]) ((rd_T49 x0 x6).f4)) else (none)) else (if x5.length < 17592186044416 then (larchref17_Path.l0 k x0 x1 (x5 ++ [(rd_T49 x0 x6).f5]) ((rd_T49 x0 x6).f5)) else (none)))))) else (none)) else (none)
def larchref17_Path.f (k : Nat) (l0 : List (S49)) (a1 : Int) : Option (List Int) := larchref17_Path.l0 k l0 a1 (([0] : List Int)) 0
set_option maxHeartbeats 8000000 in
set_option maxRecDepth 100000 in
theorem larchref17_Path.calls (k : Nat) (A0 : Option Addr) (c0 : Nat) (l0 : List (S49)) (a1 : Int) (r : List Int) (w : World) (hr0 : Kd.C k49 w A0 l0.length l0) (hc0 : l0.length ≤ c0) (h : larchref17_Path.f k l0 a1 = some r) :
  Calls Try.prog 50 #[.slice A0 l0.length c0, .int .i64 a1] w fun e w' => ∃ v0_ : Value, e = .returned (v0_) ∧ Kd.R (Kd.int .i64) 3 w' w.heap.size (fun _ => True) v0_ r ∧ Below w.heap.size w w' := by
 have hu49 := Try.underlying49
 have HR0 := Aside0.mk hr0
 have HC0 := Aside0.mk hc0
 clear hr0 hc0
 have HB := Aside0.mk (Below.refl w.heap.size w)
 have H : (larchref17_Path.l0 k l0 a1 (([0] : List Int)) 0) = some r := h
 clear h
 obtain ⟨y387, hy387⟩ : ∃ y_ : List Int, y_ = (([0] : List Int)) := ⟨_, rfl⟩
 replace H : (larchref17_Path.l0 k l0 a1 y387 0) = some r := by first | (rw [hy387]; with_reducible exact H) | (have H2_ := (Option.bind_some _ _).symm.trans H; rw [hy387]; with_reducible exact H2_) | (have H2_ := (Option.bind_some _ _).symm.trans H; with_reducible exact H2_) | with_reducible exact H | (rw [hy387]; exact H) | exact H
 have Ny387 := Aside0.mk hy387
 clear hy387
 have H' := Aside0.mk H
 clear H
 go_enter Try.func50, Try.ntmps50
 go_wp2_with (first | ((with_reducible refine gate_dst (N := 7) rfl ?_); refine Kd.R_lit (Kd.int .i64) _ 3 ?hg (N := 7) ?hd (xs := ([0] : List Int)) (inner := [.int .i64 0]) (ok := fun _ => True) (okp := fun _ => True) ?hr ?hp (fun _ hk => hk) trivial (Below.refl _ _) (Nat.le_refl _) (by simp) ?_; (case hd => rfl); (case hg => rfl); (case hr => first | (go_simp; done) | (go_simp; rfl)); (case hp => exact (Reps.one (show Kd.M (Kd.int .i64) _ _ _ 0 [.int .i64 0] from rfl) (Reps.none _ _))); intro v388 w3 ho4 hb hg_ hnew_; clear hg_ hnew_; (first | rw [← Ny387.out] at ho4 | (simp only [Int.reduceToNat] at ho4; rw [← Ny387.out] at ho4)); have n0_ := Aside0.mk (Kd.R_lower ho4 (below_size (skB HB.out))); have n1_ := Aside0.mk (below_step (skB HB.out) hb); clear HB; have HO389 := n0_; have HB := n1_; clear n0_ n1_; clear hb ho4))
 go_loopg [5, 6] k (fun kq v5 v6 w' => ∃ (x5_1 : List Int) (x6_1 : Int), v6 = .int .i64 x6_1 ∧ Aside0 (larchref17_Path.l0 kq l0 a1 x5_1 x6_1 = some r) ∧ Aside0 (kq ≤ k) ∧ Aside0 (Kd.R (Kd.int .i64) 3 w' w.heap.size (fun _ => True) v5 x5_1) ∧ Aside0 (Below w.heap.size w w'))
 case atStart => exact ⟨(y387), (0), rs, H', ⟨Nat.le_refl _⟩, ⟨skR HO389.out⟩, ⟨skB HB.out⟩⟩
 case round =>
  clear H'
  try clear p2
  obtain ⟨x5_1, x6_1, rfl, HA, HK1, HO_5, HB⟩ := hrel
  cases gk with
  | zero => exact absurd HA.out (by simp [larchref17_Path.l0])
  | succ k1 =>
   have H := HA.out
   clear HA
   simp only [larchref17_Path.l0] at H
   by_cases c5 : 0 ≤ x6_1
   ·
    rw [if_pos c5] at H
    have c5b0 : decide (0 ≤ x6_1) = true := decide_eq_true c5
    clear c5
    by_cases c6 : x6_1 < (l0.length : Int)
    ·
     rw [if_pos c6] at H
     have c6b0 : decide (x6_1 < (l0.length : Int)) = true := decide_eq_true c6
     clear c6
     replace H := Option.bind_eq_some_iff.mp H
     obtain ⟨t391, A70, H⟩ := H
     replace H : (if t391 = true then (some x5_1) else (if ((rd_T49 l0 x6_1).f1) = 1 then (if x5_1.length < 17592186044416 then (larchref17_Path.l0 k1 l0 a1 (x5_1 ++ [(rd_T49 l0 x6_1).f4]) ((rd_T49 l0 x6_1).f4)) else (none)) else (if a1 < ((rd_T49 l0 x6_1).f0) then (if x5_1.length < 17592186044416 then (larchref17_Path.l0 k1 l0 a1 (x5_1 ++ [(rd_T49 l0 x6_1).f4]) ((rd_T49 l0 x6_1).f4)) else (none)) else (if x5_1.length < 17592186044416 then (larchref17_Path.l0 k1 l0 a1 (x5_1 ++ [(rd_T49 l0 x6_1).f5]) ((rd_T49 l0 x6_1).f5)) else (none))))) = some r := H
     have A7 := Aside0.mk A70
     clear A70
     by_cases c8 : t391 = true
     ·
      subst c8
      have H1 : (some x5_1) = some r := by rw [if_pos rfl] at H; exact H
      clear H
      have H := H1
      clear H1
      obtain rfl := Option.some.inj H
      have p390 : 0 ≤ (x6_1 : Int) := dt
      have q390 : x6_1 < (l0.length : Int) := dt
      obtain ⟨ad390, e390, hx390_0, hx390_1, hx390_2, hx390_3, hx390_4, hx390_5⟩ := at_T49 HR0.out x6_1 p390 q390
      cases e390
      replace hx390_0 := skc HB.out hx390_0
      replace hx390_1 := skc HB.out hx390_1
      replace hx390_2 := skc HB.out hx390_2
      replace hx390_3 := skc HB.out hx390_3
      replace hx390_4 := skc HB.out hx390_4
      replace hx390_5 := skc HB.out hx390_5
      replace p390 := eq_true p390
      replace q390 := eq_true q390
      go_wp2_with (first | ((with_reducible refine gate_callee (f := 53) rfl ?_); refine goesL_ (some 12) rfl rfl Try.func53 (by kernel_rfl) rfl #[.agg #[.int .i64 ((rd_T49 l0 x6_1).f0), .int .i64 ((rd_T49 l0 x6_1).f1), .int .i64 ((rd_T49 l0 x6_1).f2), .int .i64 ((rd_T49 l0 x6_1).f3), .int .i64 ((rd_T49 l0 x6_1).f4), .int .i64 ((rd_T49 l0 x6_1).f5)]] rfl ags ?_; (with_reducible refine (larchref17_leaf.calls ((rd_T49 l0 x6_1).f0) ((rd_T49 l0 x6_1).f1) ((rd_T49 l0 x6_1).f2) ((rd_T49 l0 x6_1).f3) ((rd_T49 l0 x6_1).f4) ((rd_T49 l0 x6_1).f5) true _ A7.out).mono ?_); rintro e w9 ⟨rfl, hb⟩; refine ⟨_, rfl, ?_⟩; have n0_ := Aside0.mk (Kd.R_below (skR HO_5.out) hb); have n1_ := Aside0.mk (below_step (skB HB.out) hb); clear HO_5; clear HB; have HO_5 := n0_; have HB := n1_; clear n0_ n1_; (try clear hb); (try clear hb2); (try clear hk); (try clear hi)))
      go_ret
      exact ⟨_, re, skR HO_5.out, skB HB.out⟩
     ·
      replace c8 := Bool.eq_false_iff.mpr c8
      subst c8
      have H1 : (if ((rd_T49 l0 x6_1).f1) = 1 then (if x5_1.length < 17592186044416 then (larchref17_Path.l0 k1 l0 a1 (x5_1 ++ [(rd_T49 l0 x6_1).f4]) ((rd_T49 l0 x6_1).f4)) else (none)) else (if a1 < ((rd_T49 l0 x6_1).f0) then (if x5_1.length < 17592186044416 then (larchref17_Path.l0 k1 l0 a1 (x5_1 ++ [(rd_T49 l0 x6_1).f4]) ((rd_T49 l0 x6_1).f4)) else (none)) else (if x5_1.length < 17592186044416 then (larchref17_Path.l0 k1 l0 a1 (x5_1 ++ [(rd_T49 l0 x6_1).f5]) ((rd_T49 l0 x6_1).f5)) else (none)))) = some r := by rw [if_neg (show ¬ (false = true) by decide)] at H; exact H
      clear H
      have H := H1
      clear H1
      by_cases c10 : ((rd_T49 l0 x6_1).f1) = 1
      ·
       rw [if_pos c10] at H
       have c10b0 : (((rd_T49 l0 x6_1).f1) == 1) = true := beq_iff_eq.mpr c10
       have c10b1 : (((rd_T49 l0 x6_1).f1) != 1) = false := bne_eq_false_iff_eq.mpr c10
       clear c10
       by_cases c11 : x5_1.length < 17592186044416
       ·
        rw [if_pos c11] at H
        have LMc11 := Aside0.mk c11
        clear c11
        obtain ⟨y394, hy394⟩ : ∃ y_ : List Int, y_ = (x5_1 ++ [(rd_T49 l0 x6_1).f4]) := ⟨_, rfl⟩
        replace H : (larchref17_Path.l0 k1 l0 a1 y394 ((rd_T49 l0 x6_1).f4)) = some r := by first | (rw [hy394]; with_reducible exact H) | (have H2_ := (Option.bind_some _ _).symm.trans H; rw [hy394]; with_reducible exact H2_) | (have H2_ := (Option.bind_some _ _).symm.trans H; with_reducible exact H2_) | with_reducible exact H | (rw [hy394]; exact H) | exact H
        have Ny394 := Aside0.mk hy394
        clear hy394
        have H' := Aside0.mk H
        clear H
        have p390 : 0 ≤ (x6_1 : Int) := dt
        have q390 : x6_1 < (l0.length : Int) := dt
        obtain ⟨ad390, e390, hx390_0, hx390_1, hx390_2, hx390_3, hx390_4, hx390_5⟩ := at_T49 HR0.out x6_1 p390 q390
        cases e390
        replace hx390_0 := skc HB.out hx390_0
        replace hx390_1 := skc HB.out hx390_1
        replace hx390_2 := skc HB.out hx390_2
        replace hx390_3 := skc HB.out hx390_3
        replace hx390_4 := skc HB.out hx390_4
        replace hx390_5 := skc HB.out hx390_5
        replace p390 := eq_true p390
        replace q390 := eq_true q390
        go_wp2_with (first | ((with_reducible refine gate_callee (f := 53) rfl ?_); refine goesL_ (some 12) rfl rfl Try.func53 (by kernel_rfl) rfl #[.agg #[.int .i64 ((rd_T49 l0 x6_1).f0), .int .i64 ((rd_T49 l0 x6_1).f1), .int .i64 ((rd_T49 l0 x6_1).f2), .int .i64 ((rd_T49 l0 x6_1).f3), .int .i64 ((rd_T49 l0 x6_1).f4), .int .i64 ((rd_T49 l0 x6_1).f5)]] rfl ags ?_; (with_reducible refine (larchref17_leaf.calls ((rd_T49 l0 x6_1).f0) ((rd_T49 l0 x6_1).f1) ((rd_T49 l0 x6_1).f2) ((rd_T49 l0 x6_1).f3) ((rd_T49 l0 x6_1).f4) ((rd_T49 l0 x6_1).f5) false _ A7.out).mono ?_); rintro e w12 ⟨rfl, hb⟩; refine ⟨_, rfl, ?_⟩; have n0_ := Aside0.mk (Kd.R_below (skR HO_5.out) hb); have n1_ := Aside0.mk (below_step (skB HB.out) hb); clear HO_5; clear HB; have HO_5 := n0_; have HB := n1_; clear n0_ n1_; (try clear hb); (try clear hb2); (try clear hk); (try clear hi); have p392 : 0 ≤ (x6_1 : Int) := dt; have q392 : x6_1 < (l0.length : Int) := dt; obtain ⟨ad392, e392, hx392_0, hx392_1, hx392_2, hx392_3, hx392_4, hx392_5⟩ := at_T49 HR0.out x6_1 p392 q392; obtain rfl : ad390 = ad392 := (by injection e392); replace hx392_0 := skc HB.out hx392_0; replace hx392_1 := skc HB.out hx392_1; replace hx392_2 := skc HB.out hx392_2; replace hx392_3 := skc HB.out hx392_3; replace hx392_4 := skc HB.out hx392_4; replace hx392_5 := skc HB.out hx392_5; replace p392 := eq_true p392; replace q392 := eq_true q392; have p393 : 0 ≤ (x6_1 : Int) := dt; have q393 : x6_1 < (l0.length : Int) := dt; obtain ⟨ad393, e393, hx393_0, hx393_1, hx393_2, hx393_3, hx393_4, hx393_5⟩ := at_T49 HR0.out x6_1 p393 q393; obtain rfl : ad390 = ad393 := (by injection e393); replace hx393_0 := skc HB.out hx393_0; replace hx393_1 := skc HB.out hx393_1; replace hx393_2 := skc HB.out hx393_2; replace hx393_3 := skc HB.out hx393_3; replace hx393_4 := skc HB.out hx393_4; replace hx393_5 := skc HB.out hx393_5; replace p393 := eq_true p393; replace q393 := eq_true q393) | ((with_reducible refine gate_builtin (b := .append) (xs := #[.tmp 39, .tmp 41]) rfl ?_); at_builtin; refine Kd.R_append (Kd.int .i64) (w0 := w) w.heap.size rfl (.tmp 39) (.tmp 41) 23 3 (.int .i64 0) 8 rfl Try.underlying23 info3 rfl (by decide) (by omega) u5 x5_1 ((rd_T49 l0 x6_1).f4) [.int .i64 ((rd_T49 l0 x6_1).f4)] (fun _ => True) (fun _ => False) rfl rfl ?aP (fun _ hk => hk.elim) ?aF ?aO ?aB ?aS ?aL ?_; (case aP => exact rfl); (case aB => exact (skB HB.out)); (case aF => exact (fun _ _ => trivial)); (case aO => exact (skR HO_5.out)); (case aS => exact (below_size (skB HB.out))); (case aL => have := LMc11.out; omega); intro v395 w13 ho hb hg hat; rw [← Ny394.out] at ho; have n0_ := Aside0.mk (hb); have n1_ := Aside0.mk (ho); clear HB; clear HO_5; have HB := n0_; have HO396 := n1_; clear n0_ n1_; clear ho hb hg hat))
        go_roundg k1
        case measure => have := HK1.out; omega
        case rel => exact ⟨(y394), ((rd_T49 l0 x6_1).f4), rs, H', ⟨by have := HK1.out; omega⟩, ⟨skR HO396.out⟩, ⟨skB HB.out⟩⟩
       ·
        rw [if_neg c11] at H
        exact absurd H (by simp)
      ·
       rw [if_neg c10] at H
       have c10b0 : (((rd_T49 l0 x6_1).f1) == 1) = false := beq_eq_false_iff_ne.mpr c10
       have c10b1 : (((rd_T49 l0 x6_1).f1) != 1) = true := bne_iff_ne.mpr c10
       by_cases c14 : a1 < ((rd_T49 l0 x6_1).f0)
       ·
        rw [if_pos c14] at H
        have c14b0 : decide (a1 < ((rd_T49 l0 x6_1).f0)) = true := decide_eq_true c14
        clear c14
        by_cases c15 : x5_1.length < 17592186044416
        ·
         rw [if_pos c15] at H
         have LMc15 := Aside0.mk c15
         clear c15
         obtain ⟨y399, hy399⟩ : ∃ y_ : List Int, y_ = (x5_1 ++ [(rd_T49 l0 x6_1).f4]) := ⟨_, rfl⟩
         replace H : (larchref17_Path.l0 k1 l0 a1 y399 ((rd_T49 l0 x6_1).f4)) = some r := by first | (rw [hy399]; with_reducible exact H) | (have H2_ := (Option.bind_some _ _).symm.trans H; rw [hy399]; with_reducible exact H2_) | (have H2_ := (Option.bind_some _ _).symm.trans H; with_reducible exact H2_) | with_reducible exact H | (rw [hy399]; exact H) | exact H
         have Ny399 := Aside0.mk hy399
         clear hy399
         have H' := Aside0.mk H
         clear H
         have p390 : 0 ≤ (x6_1 : Int) := dt
         have q390 : x6_1 < (l0.length : Int) := dt
         obtain ⟨ad390, e390, hx390_0, hx390_1, hx390_2, hx390_3, hx390_4, hx390_5⟩ := at_T49 HR0.out x6_1 p390 q390
         cases e390
         replace hx390_0 := skc HB.out hx390_0
         replace hx390_1 := skc HB.out hx390_1
         replace hx390_2 := skc HB.out hx390_2
         replace hx390_3 := skc HB.out hx390_3
         replace hx390_4 := skc HB.out hx390_4
         replace hx390_5 := skc HB.out hx390_5
         replace p390 := eq_true p390
         replace q390 := eq_true q390
         go_wp2_with (first | ((with_reducible refine gate_callee (f := 53) rfl ?_); refine goesL_ (some 12) rfl rfl Try.func53 (by kernel_rfl) rfl #[.agg #[.int .i64 ((rd_T49 l0 x6_1).f0), .int .i64 ((rd_T49 l0 x6_1).f1), .int .i64 ((rd_T49 l0 x6_1).f2), .int .i64 ((rd_T49 l0 x6_1).f3), .int .i64 ((rd_T49 l0 x6_1).f4), .int .i64 ((rd_T49 l0 x6_1).f5)]] rfl ags ?_; (with_reducible refine (larchref17_leaf.calls ((rd_T49 l0 x6_1).f0) ((rd_T49 l0 x6_1).f1) ((rd_T49 l0 x6_1).f2) ((rd_T49 l0 x6_1).f3) ((rd_T49 l0 x6_1).f4) ((rd_T49 l0 x6_1).f5) false _ A7.out).mono ?_); rintro e w16 ⟨rfl, hb⟩; refine ⟨_, rfl, ?_⟩; have n0_ := Aside0.mk (Kd.R_below (skR HO_5.out) hb); have n1_ := Aside0.mk (below_step (skB HB.out) hb); clear HO_5; clear HB; have HO_5 := n0_; have HB := n1_; clear n0_ n1_; (try clear hb); (try clear hb2); (try clear hk); (try clear hi); have p392 : 0 ≤ (x6_1 : Int) := dt; have q392 : x6_1 < (l0.length : Int) := dt; obtain ⟨ad392, e392, hx392_0, hx392_1, hx392_2, hx392_3, hx392_4, hx392_5⟩ := at_T49 HR0.out x6_1 p392 q392; obtain rfl : ad390 = ad392 := (by injection e392); replace hx392_0 := skc HB.out hx392_0; replace hx392_1 := skc HB.out hx392_1; replace hx392_2 := skc HB.out hx392_2; replace hx392_3 := skc HB.out hx392_3; replace hx392_4 := skc HB.out hx392_4; replace hx392_5 := skc HB.out hx392_5; replace p392 := eq_true p392; replace q392 := eq_true q392; have p397 : 0 ≤ (x6_1 : Int) := dt; have q397 : x6_1 < (l0.length : Int) := dt; obtain ⟨ad397, e397, hx397_0, hx397_1, hx397_2, hx397_3, hx397_4, hx397_5⟩ := at_T49 HR0.out x6_1 p397 q397; obtain rfl : ad390 = ad397 := (by injection e397); replace hx397_0 := skc HB.out hx397_0; replace hx397_1 := skc HB.out hx397_1; replace hx397_2 := skc HB.out hx397_2; replace hx397_3 := skc HB.out hx397_3; replace hx397_4 := skc HB.out hx397_4; replace hx397_5 := skc HB.out hx397_5; replace p397 := eq_true p397; replace q397 := eq_true q397; have p398 : 0 ≤ (x6_1 : Int) := dt; have q398 : x6_1 < (l0.length : Int) := dt; obtain ⟨ad398, e398, hx398_0, hx398_1, hx398_2, hx398_3, hx398_4, hx398_5⟩ := at_T49 HR0.out x6_1 p398 q398; obtain rfl : ad390 = ad398 := (by injection e398); replace hx398_0 := skc HB.out hx398_0; replace hx398_1 := skc HB.out hx398_1; replace hx398_2 := skc HB.out hx398_2; replace hx398_3 := skc HB.out hx398_3; replace hx398_4 := skc HB.out hx398_4; replace hx398_5 := skc HB.out hx398_5; replace p398 := eq_true p398; replace q398 := eq_true q398) | ((with_reducible refine gate_builtin (b := .append) (xs := #[.tmp 39, .tmp 41]) rfl ?_); at_builtin; refine Kd.R_append (Kd.int .i64) (w0 := w) w.heap.size rfl (.tmp 39) (.tmp 41) 23 3 (.int .i64 0) 8 rfl Try.underlying23 info3 rfl (by decide) (by omega) u5 x5_1 ((rd_T49 l0 x6_1).f4) [.int .i64 ((rd_T49 l0 x6_1).f4)] (fun _ => True) (fun _ => False) rfl rfl ?aP (fun _ hk => hk.elim) ?aF ?aO ?aB ?aS ?aL ?_; (case aP => exact rfl); (case aB => exact (skB HB.out)); (case aF => exact (fun _ _ => trivial)); (case aO => exact (skR HO_5.out)); (case aS => exact (below_size (skB HB.out))); (case aL => have := LMc15.out; omega); intro v400 w17 ho hb hg hat; rw [← Ny399.out] at ho; have n0_ := Aside0.mk (hb); have n1_ := Aside0.mk (ho); clear HB; clear HO_5; have HB := n0_; have HO401 := n1_; clear n0_ n1_; clear ho hb hg hat))
         go_roundg k1
         case measure => have := HK1.out; omega
         case rel => exact ⟨(y399), ((rd_T49 l0 x6_1).f4), rs, H', ⟨by have := HK1.out; omega⟩, ⟨skR HO401.out⟩, ⟨skB HB.out⟩⟩
        ·
         rw [if_neg c15] at H
         exact absurd H (by simp)
       ·
        rw [if_neg c14] at H
        have c14b0 : decide (a1 < ((rd_T49 l0 x6_1).f0)) = false := decide_eq_false c14
        clear c14
        by_cases c18 : x5_1.length < 17592186044416
        ·
         rw [if_pos c18] at H
         have LMc18 := Aside0.mk c18
         clear c18
         obtain ⟨y403, hy403⟩ : ∃ y_ : List Int, y_ = (x5_1 ++ [(rd_T49 l0 x6_1).f5]) := ⟨_, rfl⟩
         replace H : (larchref17_Path.l0 k1 l0 a1 y403 ((rd_T49 l0 x6_1).f5)) = some r := by first | (rw [hy403]; with_reducible exact H) | (have H2_ := (Option.bind_some _ _).symm.trans H; rw [hy403]; with_reducible exact H2_) | (have H2_ := (Option.bind_some _ _).symm.trans H; with_reducible exact H2_) | with_reducible exact H | (rw [hy403]; exact H) | exact H
         have Ny403 := Aside0.mk hy403
         clear hy403
         have H' := Aside0.mk H
         clear H
         have p390 : 0 ≤ (x6_1 : Int) := dt
         have q390 : x6_1 < (l0.length : Int) := dt
         obtain ⟨ad390, e390, hx390_0, hx390_1, hx390_2, hx390_3, hx390_4, hx390_5⟩ := at_T49 HR0.out x6_1 p390 q390
         cases e390
         replace hx390_0 := skc HB.out hx390_0
         replace hx390_1 := skc HB.out hx390_1
         replace hx390_2 := skc HB.out hx390_2
         replace hx390_3 := skc HB.out hx390_3
         replace hx390_4 := skc HB.out hx390_4
         replace hx390_5 := skc HB.out hx390_5
         replace p390 := eq_true p390
         replace q390 := eq_true q390
         go_wp2_with (first | ((with_reducible refine gate_callee (f := 53) rfl ?_); refine goesL_ (some 12) rfl rfl Try.func53 (by kernel_rfl) rfl #[.agg #[.int .i64 ((rd_T49 l0 x6_1).f0), .int .i64 ((rd_T49 l0 x6_1).f1), .int .i64 ((rd_T49 l0 x6_1).f2), .int .i64 ((rd_T49 l0 x6_1).f3), .int .i64 ((rd_T49 l0 x6_1).f4), .int .i64 ((rd_T49 l0 x6_1).f5)]] rfl ags ?_; (with_reducible refine (larchref17_leaf.calls ((rd_T49 l0 x6_1).f0) ((rd_T49 l0 x6_1).f1) ((rd_T49 l0 x6_1).f2) ((rd_T49 l0 x6_1).f3) ((rd_T49 l0 x6_1).f4) ((rd_T49 l0 x6_1).f5) false _ A7.out).mono ?_); rintro e w19 ⟨rfl, hb⟩; refine ⟨_, rfl, ?_⟩; have n0_ := Aside0.mk (Kd.R_below (skR HO_5.out) hb); have n1_ := Aside0.mk (below_step (skB HB.out) hb); clear HO_5; clear HB; have HO_5 := n0_; have HB := n1_; clear n0_ n1_; (try clear hb); (try clear hb2); (try clear hk); (try clear hi); have p392 : 0 ≤ (x6_1 : Int) := dt; have q392 : x6_1 < (l0.length : Int) := dt; obtain ⟨ad392, e392, hx392_0, hx392_1, hx392_2, hx392_3, hx392_4, hx392_5⟩ := at_T49 HR0.out x6_1 p392 q392; obtain rfl : ad390 = ad392 := (by injection e392); replace hx392_0 := skc HB.out hx392_0; replace hx392_1 := skc HB.out hx392_1; replace hx392_2 := skc HB.out hx392_2; replace hx392_3 := skc HB.out hx392_3; replace hx392_4 := skc HB.out hx392_4; replace hx392_5 := skc HB.out hx392_5; replace p392 := eq_true p392; replace q392 := eq_true q392; have p397 : 0 ≤ (x6_1 : Int) := dt; have q397 : x6_1 < (l0.length : Int) := dt; obtain ⟨ad397, e397, hx397_0, hx397_1, hx397_2, hx397_3, hx397_4, hx397_5⟩ := at_T49 HR0.out x6_1 p397 q397; obtain rfl : ad390 = ad397 := (by injection e397); replace hx397_0 := skc HB.out hx397_0; replace hx397_1 := skc HB.out hx397_1; replace hx397_2 := skc HB.out hx397_2; replace hx397_3 := skc HB.out hx397_3; replace hx397_4 := skc HB.out hx397_4; replace hx397_5 := skc HB.out hx397_5; replace p397 := eq_true p397; replace q397 := eq_true q397; have p402 : 0 ≤ (x6_1 : Int) := dt; have q402 : x6_1 < (l0.length : Int) := dt; obtain ⟨ad402, e402, hx402_0, hx402_1, hx402_2, hx402_3, hx402_4, hx402_5⟩ := at_T49 HR0.out x6_1 p402 q402; obtain rfl : ad390 = ad402 := (by injection e402); replace hx402_0 := skc HB.out hx402_0; replace hx402_1 := skc HB.out hx402_1; replace hx402_2 := skc HB.out hx402_2; replace hx402_3 := skc HB.out hx402_3; replace hx402_4 := skc HB.out hx402_4; replace hx402_5 := skc HB.out hx402_5; replace p402 := eq_true p402; replace q402 := eq_true q402) | ((with_reducible refine gate_builtin (b := .append) (xs := #[.tmp 39, .tmp 41]) rfl ?_); at_builtin; refine Kd.R_append (Kd.int .i64) (w0 := w) w.heap.size rfl (.tmp 39) (.tmp 41) 23 3 (.int .i64 0) 8 rfl Try.underlying23 info3 rfl (by decide) (by omega) u5 x5_1 ((rd_T49 l0 x6_1).f5) [.int .i64 ((rd_T49 l0 x6_1).f5)] (fun _ => True) (fun _ => False) rfl rfl ?aP (fun _ hk => hk.elim) ?aF ?aO ?aB ?aS ?aL ?_; (case aP => exact rfl); (case aB => exact (skB HB.out)); (case aF => exact (fun _ _ => trivial)); (case aO => exact (skR HO_5.out)); (case aS => exact (below_size (skB HB.out))); (case aL => have := LMc18.out; omega); intro v404 w20 ho hb hg hat; rw [← Ny403.out] at ho; have n0_ := Aside0.mk (hb); have n1_ := Aside0.mk (ho); clear HB; clear HO_5; have HB := n0_; have HO405 := n1_; clear n0_ n1_; clear ho hb hg hat))
         go_roundg k1
         case measure => have := HK1.out; omega
         case rel => exact ⟨(y403), ((rd_T49 l0 x6_1).f5), rs, H', ⟨by have := HK1.out; omega⟩, ⟨skR HO405.out⟩, ⟨skB HB.out⟩⟩
        ·
         rw [if_neg c18] at H
         exact absurd H (by simp)
    ·
     rw [if_neg c6] at H
     exact absurd H (by simp)
   ·
    rw [if_neg c5] at H
    exact absurd H (by simp)
end Go.Proofs.Ytmmjkebboonnkaa.P
/- F39 -/
namespace Go.Proofs.Ytmmjkebboonnkaa.P
open Go.RowKit Go.Proofs.YtmmjkebboonnkaaW.PrintWords Go.Proofs.YtmmjkebboonnkaaW.PrintLast Go.Proofs.YtmmjkebboonnkaaW.PrintMore
attribute [local go_sem] max2_int min2_int max_two min_two max_three min_three max_four min_four   -- for this text's walks alone
set_option linter.unusedVariables false
set_option linter.unusedSimpArgs false
mutual
def larchref17_First.l0 : Nat → List (S49) → Int → List Int → List Bool → List Bool → Int → Option (Int × Int)
 | 0, _, _, _, _, _, _ => none
 | k + 1, x0, x1, x6, x8, x9, x10 => if x10 < (x6.length : Int) then (if 0 ≤ x10 then (if 0 ≤ (rd x6 x10) then (if (rd x6 x10) < (x9.length : Int) then (larchref17_First.l0 k x0 x1 x6 x8 (x9.set ((rd x6 x10) : Int).toNat true) (wrap64 (x10 + 1))) else (none)) else (none)) else (none)) else ((larchref17_Path.f k x0 x1).bind fun t418 => (larchref17_First.l1 k x0 x8 x9 t418 0))
def larchref17_First.l1 : Nat → List (S49) → List Bool → List Bool → List Int → Int → Option (Int × Int)
 | 0, _, _, _, _, _ => none
 | k + 1, x0, x8, x9, x11, x12 => if x12 < (x11.length : Int) then (if 0 ≤ x12 then (if 0 ≤ (rd x11 x12) then (if (rd x11 x12) < (x9.length : Int) then (if rdOf false x9 (rd x11 x12) = true then (if (rd x11 x12) < (x8.length : Int) then (if rdOf false x8 (rd x11 x12) = true then (some (rd x11 x12, 0)) else (if (rd x11 x12) < (x0.length : Int) then (if ((rd_T49 x0 (rd x11 x12)).f2) > 1 then (some (rd x11 x12, 0)) else (larchref17_First.l1 k x0 x8 x9 x11 (wrap64 (x12 + 1)))) else (none))) else (none)) else (larchref17_First.l1 k x0 x8 x9 x11 (wrap64 (x12 + 1)))) else (none)) else (none)) else (none)) else (some ((-1), 0))
end
def larchref17_First.f (k : Nat) (l0 : List (S49)) (a1 : Int) : Option (Int × Int) := (larchref17_keys.f k l0).bind fun bt406 => (if bt406.2 = 0 then ((larchref17_reds.f k l0 bt406.1).bind fun t410 => (if 0 ≤ (l0.length : Int) then (if ((l0.length : Int) : Int).toNat ≤ 281474976710656 then (larchref17_First.l0 k l0 a1 bt406.1 t410 (List.replicate ((l0.length : Int) : Int).toNat false) 0) else (none)) else (none))) else (some (0, bt406.2)))
set_option maxHeartbeats 8000000 in
set_option maxRecDepth 100000 in
theorem larchref17_First.calls (k : Nat) (A0 : Option Addr) (c0 : Nat) (l0 : List (S49)) (a1 : Int) (r1 : Int) (r2 : Int) (w : World) (hr0 : Kd.C k49 w A0 l0.length l0) (hc0 : l0.length ≤ c0) (h : larchref17_First.f k l0 a1 = some (r1, r2)) :
  Calls Try.prog 18 #[.slice A0 l0.length c0, .int .i64 a1] w fun e w' => e = .returned (.tuple #[.int .i64 r1, .int .i64 r2]) ∧ Below w.heap.size w w' := by
 have HR0 := Aside0.mk hr0
 have HC0 := Aside0.mk hc0
 clear hr0 hc0
 have HB := Aside0.mk (Below.refl w.heap.size w)
 have H : ((larchref17_keys.f k l0).bind fun bt406 => (if bt406.2 = 0 then ((larchref17_reds.f k l0 bt406.1).bind fun t410 => (if 0 ≤ (l0.length : Int) then (if ((l0.length : Int) : Int).toNat ≤ 281474976710656 then (larchref17_First.l0 k l0 a1 bt406.1 t410 (List.replicate ((l0.length : Int) : Int).toNat false) 0) else (none)) else (none))) else (some (0, bt406.2)))) = some (r1, r2) := h
 clear h
 replace H := Option.bind_eq_some_iff.mp H
 obtain ⟨⟨t406, t407⟩, A30, H⟩ := H
 replace H : (if t407 = 0 then ((larchref17_reds.f k l0 t406).bind fun t410 => (if 0 ≤ (l0.length : Int) then (if ((l0.length : Int) : Int).toNat ≤ 281474976710656 then (larchref17_First.l0 k l0 a1 t406 t410 (List.replicate ((l0.length : Int) : Int).toNat false) 0) else (none)) else (none))) else (some (0, t407))) = some (r1, r2) := H
 have A3 := Aside0.mk A30
 clear A30
 by_cases c4 : t407 = 0
 ·
  rw [if_pos c4] at H
  have c4b0 : (t407 == 0) = true := beq_iff_eq.mpr c4
  have c4b1 : (t407 != 0) = false := bne_eq_false_iff_eq.mpr c4
  clear c4
  replace H := Option.bind_eq_some_iff.mp H
  obtain ⟨t410, A50, H⟩ := H
  replace H : (if 0 ≤ (l0.length : Int) then (if ((l0.length : Int) : Int).toNat ≤ 281474976710656 then (larchref17_First.l0 k l0 a1 t406 t410 (List.replicate ((l0.length : Int) : Int).toNat false) 0) else (none)) else (none)) = some (r1, r2) := H
  have A5 := Aside0.mk A50
  clear A50
  by_cases c6 : 0 ≤ (l0.length : Int)
  ·
   rw [if_pos c6] at H
   have c6b0 := eq_true c6
   have c6b1 : decide (0 ≤ (l0.length : Int)) = true := decide_eq_true c6
   clear c6
   by_cases c7 : ((l0.length : Int) : Int).toNat ≤ 281474976710656
   ·
    rw [if_pos c7] at H
    have c7b0 := eq_true c7
    have c7b1 : decide (((l0.length : Int) : Int).toNat ≤ 281474976710656) = true := decide_eq_true c7
    clear c7
    obtain ⟨y413, hy413⟩ : ∃ y_ : List Bool, y_ = (List.replicate ((l0.length : Int) : Int).toNat false) := ⟨_, rfl⟩
    replace H : (larchref17_First.l0 k l0 a1 t406 t410 y413 0) = some (r1, r2) := by first | (rw [hy413]; with_reducible exact H) | (have H2_ := (Option.bind_some _ _).symm.trans H; rw [hy413]; with_reducible exact H2_) | (have H2_ := (Option.bind_some _ _).symm.trans H; with_reducible exact H2_) | with_reducible exact H | (rw [hy413]; exact H) | exact H
    have Ny413 := Aside0.mk hy413
    clear hy413
    have H' := Aside0.mk H
    clear H
    go_enter Try.func18, Try.ntmps18
    go_wp2_with (first | ((with_reducible refine gate_callee (f := 46) rfl ?_); refine goesL_ (some 15) rfl rfl Try.func46 (by kernel_rfl) rfl #[.slice A0 l0.length c0] rfl ags ?_; (with_reducible refine (larchref17_keys.calls k _ _ l0 t406 t407 _ ?side1 ?side2 A3.out).mono ?_); (case side1 => exact skC HR0.out); (case side2 => exact HC0.out); rintro e w8 ⟨v408, rfl, ho0, hb⟩; refine ⟨_, rfl, ?_⟩; have n0_ := Aside0.mk (Kd.R_lower ho0 (below_size (skB HB.out))); have n1_ := Aside0.mk (below_step (skB HB.out) hb); clear HB; have HO409 := n0_; have HB := n1_; clear n0_ n1_; (try clear hb); (try clear hb2); (try clear hk); (try clear hi); (try clear ho0); obtain ⟨Ao9, co9, eo9⟩ := Kd.R_slice HO409.out; subst eo9) | ((with_reducible refine gate_callee (f := 47) rfl ?_); refine goesL_ (some 23) rfl rfl Try.func47 (by kernel_rfl) rfl #[.slice A0 l0.length c0, .slice Ao9 t406.length co9] rfl ags ?_; (with_reducible refine (larchref17_reds.calls k _ _ l0 _ _ t406 t410 _ ?side1 ?side2 ?side3 ?side4 A5.out).mono ?_); (case side1 => exact skC (Kd.C_below HR0.out HB.out)); (case side2 => exact HC0.out); (case side3 => exact skC (Kd.R_reads' HO409.out).2.2); (case side4 => exact (Kd.R_reads' HO409.out).2.1); rintro e w10 ⟨v411, rfl, ho0, hb⟩; refine ⟨_, rfl, ?_⟩; have n0_ := Aside0.mk (Kd.R_below (skR HO409.out) hb); have n1_ := Aside0.mk (Kd.R_lower ho0 (below_size (skB HB.out))); have n2_ := Aside0.mk (below_step (skB HB.out) hb); clear HO409; clear HB; have HO409 := n0_; have HO412 := n1_; have HB := n2_; clear n0_ n1_ n2_; (try clear hb); (try clear hb2); (try clear hk); (try clear hi); (try clear ho0)) | ((with_reducible refine gate_dst (N := 26) rfl ?_); refine Kd.R_make Kd.bool _ 4 rfl (N := 26) rfl 60 _ _ rfl (l0.length : Int) rfl rfl Try.underlying60 (.bool false) 1 info4 rfl (by decide) (by omega) false (ok := fun _ => True) (okp := fun _ => True) rfl (fun _ hk => hk) trivial dt (Nat.le_trans (Nat.mul_le_mul_right _ (dt : (l0.length : Int).toNat ≤ 281474976710656)) (by omega)) (Below.refl _ _) (Nat.le_refl _) ?_; intro v414 w11 ho12 hb hg_ hnew_; clear hg_ hnew_; (first | rw [← Ny413.out] at ho12 | (simp only [Int.reduceToNat] at ho12; rw [← Ny413.out] at ho12)); have n0_ := Aside0.mk (Kd.R_below (skR HO409.out) hb); have n1_ := Aside0.mk (Kd.R_elder' (skR HO412.out) (Kd.R_base ho12) hb); have n2_ := Aside0.mk (Kd.R_lower (Kd.R_new' ho12 (Kd.R_lt (skR HO412.out))) (below_size (skB HB.out))); have n3_ := Aside0.mk (below_step (skB HB.out) hb); clear HO409; clear HO412; clear HB; have HO409 := n0_; have HO412 := n1_; have HO415 := n2_; have HB := n3_; clear n0_ n1_ n2_ n3_; clear hb ho12))
    go_loopg [10] k (fun kq v10 w' => ∃ (x9_1 : List Bool) (x10_1 : Int), v10 = .int .i64 x10_1 ∧ Aside0 (larchref17_First.l0 kq l0 a1 t406 t410 x9_1 x10_1 = some (r1, r2)) ∧ Aside0 (kq ≤ k) ∧ Aside0 (Kd.R (Kd.int .i64) 3 w' w.heap.size (fun _ => True) (.slice Ao9 t406.length co9) t406) ∧ Aside0 (Kd.R Kd.bool 4 w' w.heap.size (fun k_ => some k_ ≠ (v414 : Value).ownBlock) v411 t410) ∧ Aside0 (Kd.R Kd.bool 4 w' w.heap.size (fun k_ => some k_ ≠ (v411 : Value).ownBlock) v414 x9_1) ∧ Aside0 (Below w.heap.size w w'))
    case atStart => exact ⟨(y413), (0), rs, H', ⟨Nat.le_refl _⟩, ⟨skR HO409.out⟩, ⟨skR (Kd.R_mono HO412.out (fun _ hk => hk.2))⟩, ⟨skR (Kd.R_mono HO415.out (fun _ hk => hk.2))⟩, ⟨skB HB.out⟩⟩
    case round =>
     clear H'
     try clear c1
     try clear p2
     try clear c4
     try clear c4b0
     try clear c4b1
     try clear c6
     try clear c6b0
     try clear c6b1
     try clear c7
     try clear c7b0
     try clear c7b1
     obtain ⟨x9_1, x10_1, rfl, HA, HK1, HO_6, HO_8, HO_9, HB⟩ := hrel
     cases gk with
     | zero => exact absurd HA.out (by simp [larchref17_First.l0])
     | succ k1 =>
      have H := HA.out
      clear HA
      simp only [larchref17_First.l0] at H
      by_cases c13 : x10_1 < (t406.length : Int)
      ·
       rw [if_pos c13] at H
       have c13b0 : decide (x10_1 < (t406.length : Int)) = true := decide_eq_true c13
       clear c13
       by_cases c14 : 0 ≤ x10_1
       ·
        rw [if_pos c14] at H
        have c14b0 : decide (0 ≤ x10_1) = true := decide_eq_true c14
        clear c14
        by_cases c15 : 0 ≤ (rd t406 x10_1)
        ·
         rw [if_pos c15] at H
         have c15b0 : decide (0 ≤ (rd t406 x10_1)) = true := decide_eq_true c15
         clear c15
         by_cases c16 : (rd t406 x10_1) < (x9_1.length : Int)
         ·
          rw [if_pos c16] at H
          have c16b0 : decide ((rd t406 x10_1) < (x9_1.length : Int)) = true := decide_eq_true c16
          clear c16
          obtain ⟨y417, hy417⟩ : ∃ y_ : List Bool, y_ = (x9_1.set ((rd t406 x10_1) : Int).toNat true) := ⟨_, rfl⟩
          replace H : (larchref17_First.l0 k1 l0 a1 t406 t410 y417 (wrap64 (x10_1 + 1))) = some (r1, r2) := by first | (rw [hy417]; with_reducible exact H) | (have H2_ := (Option.bind_some _ _).symm.trans H; rw [hy417]; with_reducible exact H2_) | (have H2_ := (Option.bind_some _ _).symm.trans H; with_reducible exact H2_) | with_reducible exact H | (rw [hy417]; exact H) | exact H
          have Ny417 := Aside0.mk hy417
          clear hy417
          have H' := Aside0.mk H
          clear H
          have p416 : 0 ≤ (x10_1 : Int) := dt
          have q416 : x10_1 < (t406.length : Int) := dt
          obtain ⟨ad416, e416, hx416_0⟩ := Kd.at_int (Kd.R_reads' HO_6.out).2.2 x10_1 p416 q416
          cases e416
          replace p416 := eq_true p416
          replace q416 := eq_true q416
          have p17 : 0 ≤ ((rd t406 x10_1) : Int) := dt
          have q17 : ((rd t406 x10_1) : Int) < ((x9_1.length : Int) : Int) := dt
          obtain ⟨go17, co17, eo17, gb17, gl17, cl17, HG17⟩ := Kd.R_form HO_9.out (by omega)
          (first | cases eo17 | (injection eo17 with ea_ en_ ec_; (first | subst ea_ | (injection ea_ with ea_; subst ea_)); subst ec_; clear en_))
          have GB17 := Aside0.mk gb17
          have GG17 := Aside0.mk HG17
          clear gb17 gl17 HG17
          obtain ⟨hx17_0, hf17_0⟩ := Kd.R_celln false HO_9.out ((rd t406 x10_1) : Int) p17 q17
          replace p17 := eq_true p17
          replace q17 := eq_true q17
          have HP18 := Kd.R_putg HO_9.out ((rd t406 x10_1) : Int) true
          go_wp2_with (first | ((with_reducible refine gate_store (t := 4) (p := 38) rfl ?_); refine store_event (t := 4) (p := 38) (v := ?vo_w19) (w1 := (wr.setCell ⟨go17, ((rd t406 x10_1) : Int).toNat, none⟩ (.bool true))) ?hg ?ho ?hn ?hr ?_; (case ho => rfl); (case hg => rfl); (case hn => rfl); (case hr => first | (go_simp; done) | (go_simp; rfl)); intro w19 hw; have hg : wr.grownBy w19 (some go17) := (by rw [hw]; exact HP18.2); have hp_ : Kd.R Kd.bool 4 w19 w.heap.size (fun k_ => some k_ ≠ (v411 : Value).ownBlock) (.slice (some ⟨go17, 0, none⟩) x9_1.length co17) y417 := (by rw [hw, Ny417.out]; exact HP18.1); clear HP18; have n0_ := Aside0.mk (Kd.R_over' (v := (.slice (some ⟨go17, 0, none⟩) x9_1.length co17)) (skR HO_6.out) (Kd.R_typed HO_9.out) (by decide) hg); have n1_ := Aside0.mk (Kd.R_after (v := (.slice (some ⟨go17, 0, none⟩) x9_1.length co17)) (v1 := (.slice (some ⟨go17, 0, none⟩) x9_1.length co17)) (ok := (fun _ => True)) (skR (Kd.R_mono HO_8.out (fun _ hk => ⟨trivial, hk⟩))) hg (.inl rfl)); have n2_ := Aside0.mk (hp_); have n3_ := Aside0.mk ((by rw [hw]; exact below_set (HB.out) GB17.out : Below w.heap.size w w19)); clear HO_6; clear HO_8; clear HO_9; clear HB; have HO_6 := n0_; have HO_8 := n1_; have HO_9 := n2_; have HB := n3_; clear n0_ n1_ n2_ n3_; clear hg hw hp_))
          go_roundg k1
          case measure => have := HK1.out; omega
          case rel => exact ⟨(y417), (wrap64 (x10_1 + 1)), rs, H', ⟨by have := HK1.out; omega⟩, ⟨skR HO_6.out⟩, ⟨skR (Kd.R_mono HO_8.out (fun _ hk => hk.2))⟩, ⟨skR HO_9.out⟩, ⟨skB HB.out⟩⟩
         ·
          rw [if_neg c16] at H
          exact absurd H (by simp)
        ·
         rw [if_neg c15] at H
         exact absurd H (by simp)
       ·
        rw [if_neg c14] at H
        exact absurd H (by simp)
      ·
       rw [if_neg c13] at H
       have c13b0 : decide (x10_1 < (t406.length : Int)) = false := decide_eq_false c13
       clear c13
       replace H := Option.bind_eq_some_iff.mp H
       obtain ⟨t418, A200, H⟩ := H
       replace H : (larchref17_First.l1 k1 l0 t410 x9_1 t418 0) = some (r1, r2) := H
       have A20 := Aside0.mk A200
       clear A200
       have H' := Aside0.mk H
       clear H
       go_wp2_with (first | ((with_reducible refine gate_callee (f := 50) rfl ?_); refine goesL_ (some 41) rfl rfl Try.func50 (by kernel_rfl) rfl #[.slice A0 l0.length c0, .int .i64 a1] rfl ags ?_; (with_reducible refine (larchref17_Path.calls k1 _ _ l0 a1 t418 _ ?side1 ?side2 A20.out).mono ?_); (case side1 => exact skC (Kd.C_below HR0.out HB.out)); (case side2 => exact HC0.out); rintro e w21 ⟨v419, rfl, ho0, hb⟩; refine ⟨_, rfl, ?_⟩; have n0_ := Aside0.mk (Kd.R_elder' (skR HO_6.out) (Kd.R_base ho0) hb); have n1_ := Aside0.mk (Kd.R_below (skR HO_8.out) hb); have n2_ := Aside0.mk (Kd.R_below (skR HO_9.out) hb); have n3_ := Aside0.mk (Kd.R_lower (Kd.R_new' ho0 (Kd.R_lt (skR HO_6.out))) (below_size (skB HB.out))); have n4_ := Aside0.mk (below_step (skB HB.out) hb); clear HO_6; clear HO_8; clear HO_9; clear HB; have HO_6 := n0_; have HO_8 := n1_; have HO_9 := n2_; have HO420 := n3_; have HB := n4_; clear n0_ n1_ n2_ n3_ n4_; (try clear hb); (try clear hb2); (try clear hk); (try clear hi); (try clear ho0)))
       go_loopg [12] k1 (fun kq v12 w' => ∃ (x12_2 : Int), v12 = .int .i64 x12_2 ∧ Aside0 (larchref17_First.l1 kq l0 t410 x9_1 t418 x12_2 = some (r1, r2)) ∧ Aside0 (kq ≤ k1) ∧ Aside0 (Kd.R Kd.bool 4 w' w.heap.size (fun k_ => some k_ ≠ (v414 : Value).ownBlock) v411 t410) ∧ Aside0 (Kd.R Kd.bool 4 w' w.heap.size (fun k_ => some k_ ≠ (v411 : Value).ownBlock) v414 x9_1) ∧ Aside0 (Kd.R (Kd.int .i64) 3 w' w.heap.size (fun _ => True) v419 t418) ∧ Aside0 (Below w.heap.size w w'))
       case atStart => exact ⟨(0), rs, H', ⟨Nat.le_refl _⟩, ⟨skR HO_8.out⟩, ⟨skR HO_9.out⟩, ⟨skR (Kd.R_mono HO420.out (fun _ hk => trivial))⟩, ⟨skB HB.out⟩⟩
       case round =>
        clear H'
        try clear c1
        try clear p1
        try clear q1
        try clear hx1
        try clear p2
        try clear c4
        try clear c4b0
        try clear c4b1
        try clear p4
        try clear q4
        try clear hx4
        try clear c5
        try clear c6
        try clear c6b0
        try clear c6b1
        try clear p6
        try clear c7
        try clear c7b0
        try clear c7b1
        try clear c13
        try clear c13b0
        try clear c14
        try clear c14b0
        try clear c15
        try clear c15b0
        try clear c16
        try clear c16b0
        try clear p17
        try clear q17
        try clear hx17
        try clear hf17
        try clear c18
        try clear hx17_0
        try clear hx416_0
        try clear p17
        try clear p2
        try clear p416
        try clear q17
        try clear q416
        obtain ⟨x12_2, rfl, HA, HK2, HO_8, HO_9, HO_11, HB⟩ := hrel
        cases gk with
        | zero => exact absurd HA.out (by simp [larchref17_First.l1])
        | succ k2 =>
         have H := HA.out
         clear HA
         simp only [larchref17_First.l1] at H
         by_cases c22 : x12_2 < (t418.length : Int)
         ·
          rw [if_pos c22] at H
          have c22b0 : decide (x12_2 < (t418.length : Int)) = true := decide_eq_true c22
          clear c22
          by_cases c23 : 0 ≤ x12_2
          ·
           rw [if_pos c23] at H
           have c23b0 : decide (0 ≤ x12_2) = true := decide_eq_true c23
           clear c23
           by_cases c24 : 0 ≤ (rd t418 x12_2)
           ·
            rw [if_pos c24] at H
            have c24b0 : decide (0 ≤ (rd t418 x12_2)) = true := decide_eq_true c24
            clear c24
            by_cases c25 : (rd t418 x12_2) < (x9_1.length : Int)
            ·
             rw [if_pos c25] at H
             have c25b0 : decide ((rd t418 x12_2) < (x9_1.length : Int)) = true := decide_eq_true c25
             clear c25
             obtain ⟨bq26, hbq26⟩ : ∃ b_ : Bool, b_ = (rdOf false x9_1 (rd t418 x12_2)) := ⟨_, rfl⟩
             replace H : (if bq26 = true then (if (rd t418 x12_2) < (t410.length : Int) then (if rdOf false t410 (rd t418 x12_2) = true then (some (rd t418 x12_2, 0)) else (if (rd t418 x12_2) < (l0.length : Int) then (if ((rd_T49 l0 (rd t418 x12_2)).f2) > 1 then (some (rd t418 x12_2, 0)) else (larchref17_First.l1 k2 l0 t410 x9_1 t418 (wrap64 (x12_2 + 1)))) else (none))) else (none)) else (larchref17_First.l1 k2 l0 t410 x9_1 t418 (wrap64 (x12_2 + 1)))) = some (r1, r2) := by rw [← hbq26] at H; exact H
             have Nbq26 := Aside0.mk hbq26
             clear hbq26
             by_cases c27 : bq26 = true
             ·
              subst c27
              have H1 : (if (rd t418 x12_2) < (t410.length : Int) then (if rdOf false t410 (rd t418 x12_2) = true then (some (rd t418 x12_2, 0)) else (if (rd t418 x12_2) < (l0.length : Int) then (if ((rd_T49 l0 (rd t418 x12_2)).f2) > 1 then (some (rd t418 x12_2, 0)) else (larchref17_First.l1 k2 l0 t410 x9_1 t418 (wrap64 (x12_2 + 1)))) else (none))) else (none)) = some (r1, r2) := by rw [if_pos rfl] at H; exact H
              clear H
              have H := H1
              clear H1
              by_cases c28 : (rd t418 x12_2) < (t410.length : Int)
              ·
               rw [if_pos c28] at H
               have c28b0 : decide ((rd t418 x12_2) < (t410.length : Int)) = true := decide_eq_true c28
               clear c28
               obtain ⟨bq29, hbq29⟩ : ∃ b_ : Bool, b_ = (rdOf false t410 (rd t418 x12_2)) := ⟨_, rfl⟩
               replace H : (if bq29 = true then (some (rd t418 x12_2, 0)) else (if (rd t418 x12_2) < (l0.length : Int) then (if ((rd_T49 l0 (rd t418 x12_2)).f2) > 1 then (some (rd t418 x12_2, 0)) else (larchref17_First.l1 k2 l0 t410 x9_1 t418 (wrap64 (x12_2 + 1)))) else (none))) = some (r1, r2) := by rw [← hbq29] at H; exact H
               have Nbq29 := Aside0.mk hbq29
               clear hbq29
               by_cases c30 : bq29 = true
               ·
                subst c30
                have H1 : (some (rd t418 x12_2, 0)) = some (r1, r2) := by rw [if_pos rfl] at H; exact H
                clear H
                have H := H1
                clear H1
                simp only [Option.some.injEq, Prod.mk.injEq] at H
                obtain ⟨rfl, rfl⟩ := H
                obtain ⟨Ao31, co31, eo31⟩ := Kd.R_slice HO_11.out
                subst eo31
                have p421 : 0 ≤ (x12_2 : Int) := dt
                have q421 : x12_2 < (t418.length : Int) := dt
                obtain ⟨ad421, e421, hx421_0⟩ := Kd.at_int (Kd.R_reads' HO_11.out).2.2 x12_2 p421 q421
                cases e421
                replace p421 := eq_true p421
                replace q421 := eq_true q421
                obtain ⟨Ao32, co32, eo32⟩ := Kd.R_slice HO_9.out
                subst eo32
                have p422 : 0 ≤ ((rd t418 x12_2) : Int) := dt
                have q422 : (rd t418 x12_2) < (x9_1.length : Int) := dt
                obtain ⟨ad422, e422, hx422_0⟩ := Kd.at_bool (Kd.R_reads' HO_9.out).2.2 (rd t418 x12_2) p422 q422
                (try rw [← Nbq26.out] at hx422_0)
                (try rw [← Nbq29.out] at hx422_0)
                cases e422
                replace p422 := eq_true p422
                replace q422 := eq_true q422
                have p423 : 0 ≤ (x12_2 : Int) := dt
                have q423 : x12_2 < (t418.length : Int) := dt
                obtain ⟨ad423, e423, hx423_0⟩ := Kd.at_int (Kd.R_reads' HO_11.out).2.2 x12_2 p423 q423
                obtain rfl : ad421 = ad423 := (by injection e423)
                replace p423 := eq_true p423
                replace q423 := eq_true q423
                obtain ⟨Ao33, co33, eo33⟩ := Kd.R_slice HO_8.out
                subst eo33
                have p424 : 0 ≤ ((rd t418 x12_2) : Int) := dt
                have q424 : (rd t418 x12_2) < (t410.length : Int) := dt
                obtain ⟨ad424, e424, hx424_0⟩ := Kd.at_bool (Kd.R_reads' HO_8.out).2.2 (rd t418 x12_2) p424 q424
                (try rw [← Nbq26.out] at hx424_0)
                (try rw [← Nbq29.out] at hx424_0)
                cases e424
                replace p424 := eq_true p424
                replace q424 := eq_true q424
                have p425 : 0 ≤ (x12_2 : Int) := dt
                have q425 : x12_2 < (t418.length : Int) := dt
                obtain ⟨ad425, e425, hx425_0⟩ := Kd.at_int (Kd.R_reads' HO_11.out).2.2 x12_2 p425 q425
                obtain rfl : ad421 = ad425 := (by injection e425)
                replace p425 := eq_true p425
                replace q425 := eq_true q425
                go_wp2
                go_ret2
                exact ⟨re, skB HB.out⟩
               ·
                replace c30 := Bool.eq_false_iff.mpr c30
                subst c30
                have H1 : (if (rd t418 x12_2) < (l0.length : Int) then (if ((rd_T49 l0 (rd t418 x12_2)).f2) > 1 then (some (rd t418 x12_2, 0)) else (larchref17_First.l1 k2 l0 t410 x9_1 t418 (wrap64 (x12_2 + 1)))) else (none)) = some (r1, r2) := by rw [if_neg (show ¬ (false = true) by decide)] at H; exact H
                clear H
                have H := H1
                clear H1
                by_cases c34 : (rd t418 x12_2) < (l0.length : Int)
                ·
                 rw [if_pos c34] at H
                 have c34b0 : decide ((rd t418 x12_2) < (l0.length : Int)) = true := decide_eq_true c34
                 clear c34
                 by_cases c35 : ((rd_T49 l0 (rd t418 x12_2)).f2) > 1
                 ·
                  rw [if_pos c35] at H
                  have c35b0 : decide (1 < ((rd_T49 l0 (rd t418 x12_2)).f2)) = true := decide_eq_true c35
                  clear c35
                  simp only [Option.some.injEq, Prod.mk.injEq] at H
                  obtain ⟨rfl, rfl⟩ := H
                  obtain ⟨Ao36, co36, eo36⟩ := Kd.R_slice HO_11.out
                  subst eo36
                  have p421 : 0 ≤ (x12_2 : Int) := dt
                  have q421 : x12_2 < (t418.length : Int) := dt
                  obtain ⟨ad421, e421, hx421_0⟩ := Kd.at_int (Kd.R_reads' HO_11.out).2.2 x12_2 p421 q421
                  cases e421
                  replace p421 := eq_true p421
                  replace q421 := eq_true q421
                  obtain ⟨Ao37, co37, eo37⟩ := Kd.R_slice HO_9.out
                  subst eo37
                  have p422 : 0 ≤ ((rd t418 x12_2) : Int) := dt
                  have q422 : (rd t418 x12_2) < (x9_1.length : Int) := dt
                  obtain ⟨ad422, e422, hx422_0⟩ := Kd.at_bool (Kd.R_reads' HO_9.out).2.2 (rd t418 x12_2) p422 q422
                  (try rw [← Nbq26.out] at hx422_0)
                  (try rw [← Nbq29.out] at hx422_0)
                  cases e422
                  replace p422 := eq_true p422
                  replace q422 := eq_true q422
                  have p423 : 0 ≤ (x12_2 : Int) := dt
                  have q423 : x12_2 < (t418.length : Int) := dt
                  obtain ⟨ad423, e423, hx423_0⟩ := Kd.at_int (Kd.R_reads' HO_11.out).2.2 x12_2 p423 q423
                  obtain rfl : ad421 = ad423 := (by injection e423)
                  replace p423 := eq_true p423
                  replace q423 := eq_true q423
                  obtain ⟨Ao38, co38, eo38⟩ := Kd.R_slice HO_8.out
                  subst eo38
                  have p424 : 0 ≤ ((rd t418 x12_2) : Int) := dt
                  have q424 : (rd t418 x12_2) < (t410.length : Int) := dt
                  obtain ⟨ad424, e424, hx424_0⟩ := Kd.at_bool (Kd.R_reads' HO_8.out).2.2 (rd t418 x12_2) p424 q424
                  (try rw [← Nbq26.out] at hx424_0)
                  (try rw [← Nbq29.out] at hx424_0)
                  cases e424
                  replace p424 := eq_true p424
                  replace q424 := eq_true q424
                  have p426 : 0 ≤ (x12_2 : Int) := dt
                  have q426 : x12_2 < (t418.length : Int) := dt
                  obtain ⟨ad426, e426, hx426_0⟩ := Kd.at_int (Kd.R_reads' HO_11.out).2.2 x12_2 p426 q426
                  obtain rfl : ad421 = ad426 := (by injection e426)
                  replace p426 := eq_true p426
                  replace q426 := eq_true q426
                  have p427 : 0 ≤ ((rd t418 x12_2) : Int) := dt
                  have q427 : (rd t418 x12_2) < (l0.length : Int) := dt
                  obtain ⟨ad427, e427, hx427_0, hx427_1, hx427_2, hx427_3, hx427_4, hx427_5⟩ := at_T49 HR0.out (rd t418 x12_2) p427 q427
                  cases e427
                  replace hx427_0 := skc HB.out hx427_0
                  replace hx427_1 := skc HB.out hx427_1
                  replace hx427_2 := skc HB.out hx427_2
                  replace hx427_3 := skc HB.out hx427_3
                  replace hx427_4 := skc HB.out hx427_4
                  replace hx427_5 := skc HB.out hx427_5
                  replace p427 := eq_true p427
                  replace q427 := eq_true q427
                  have p428 : 0 ≤ (x12_2 : Int) := dt
                  have q428 : x12_2 < (t418.length : Int) := dt
                  obtain ⟨ad428, e428, hx428_0⟩ := Kd.at_int (Kd.R_reads' HO_11.out).2.2 x12_2 p428 q428
                  obtain rfl : ad421 = ad428 := (by injection e428)
                  replace p428 := eq_true p428
                  replace q428 := eq_true q428
                  go_wp2
                  go_ret2
                  exact ⟨re, skB HB.out⟩
                 ·
                  rw [if_neg c35] at H
                  have c35b0 : decide (1 < ((rd_T49 l0 (rd t418 x12_2)).f2)) = false := decide_eq_false c35
                  clear c35
                  have H' := Aside0.mk H
                  clear H
                  obtain ⟨Ao39, co39, eo39⟩ := Kd.R_slice HO_11.out
                  subst eo39
                  have p421 : 0 ≤ (x12_2 : Int) := dt
                  have q421 : x12_2 < (t418.length : Int) := dt
                  obtain ⟨ad421, e421, hx421_0⟩ := Kd.at_int (Kd.R_reads' HO_11.out).2.2 x12_2 p421 q421
                  cases e421
                  replace p421 := eq_true p421
                  replace q421 := eq_true q421
                  obtain ⟨Ao40, co40, eo40⟩ := Kd.R_slice HO_9.out
                  subst eo40
                  have p422 : 0 ≤ ((rd t418 x12_2) : Int) := dt
                  have q422 : (rd t418 x12_2) < (x9_1.length : Int) := dt
                  obtain ⟨ad422, e422, hx422_0⟩ := Kd.at_bool (Kd.R_reads' HO_9.out).2.2 (rd t418 x12_2) p422 q422
                  (try rw [← Nbq26.out] at hx422_0)
                  (try rw [← Nbq29.out] at hx422_0)
                  cases e422
                  replace p422 := eq_true p422
                  replace q422 := eq_true q422
                  have p423 : 0 ≤ (x12_2 : Int) := dt
                  have q423 : x12_2 < (t418.length : Int) := dt
                  obtain ⟨ad423, e423, hx423_0⟩ := Kd.at_int (Kd.R_reads' HO_11.out).2.2 x12_2 p423 q423
                  obtain rfl : ad421 = ad423 := (by injection e423)
                  replace p423 := eq_true p423
                  replace q423 := eq_true q423
                  obtain ⟨Ao41, co41, eo41⟩ := Kd.R_slice HO_8.out
                  subst eo41
                  have p424 : 0 ≤ ((rd t418 x12_2) : Int) := dt
                  have q424 : (rd t418 x12_2) < (t410.length : Int) := dt
                  obtain ⟨ad424, e424, hx424_0⟩ := Kd.at_bool (Kd.R_reads' HO_8.out).2.2 (rd t418 x12_2) p424 q424
                  (try rw [← Nbq26.out] at hx424_0)
                  (try rw [← Nbq29.out] at hx424_0)
                  cases e424
                  replace p424 := eq_true p424
                  replace q424 := eq_true q424
                  have p426 : 0 ≤ (x12_2 : Int) := dt
                  have q426 : x12_2 < (t418.length : Int) := dt
                  obtain ⟨ad426, e426, hx426_0⟩ := Kd.at_int (Kd.R_reads' HO_11.out).2.2 x12_2 p426 q426
                  obtain rfl : ad421 = ad426 := (by injection e426)
                  replace p426 := eq_true p426
                  replace q426 := eq_true q426
                  have p427 : 0 ≤ ((rd t418 x12_2) : Int) := dt
                  have q427 : (rd t418 x12_2) < (l0.length : Int) := dt
                  obtain ⟨ad427, e427, hx427_0, hx427_1, hx427_2, hx427_3, hx427_4, hx427_5⟩ := at_T49 HR0.out (rd t418 x12_2) p427 q427
                  cases e427
                  replace hx427_0 := skc HB.out hx427_0
                  replace hx427_1 := skc HB.out hx427_1
                  replace hx427_2 := skc HB.out hx427_2
                  replace hx427_3 := skc HB.out hx427_3
                  replace hx427_4 := skc HB.out hx427_4
                  replace hx427_5 := skc HB.out hx427_5
                  replace p427 := eq_true p427
                  replace q427 := eq_true q427
                  go_wp2
                  go_roundg k2
                  case measure => have := HK1.out; have := HK2.out; omega
                  case rel => exact ⟨(wrap64 (x12_2 + 1)), rs, H', ⟨by have := HK1.out; have := HK2.out; omega⟩, ⟨skR HO_8.out⟩, ⟨skR HO_9.out⟩, ⟨skR HO_11.out⟩, ⟨skB HB.out⟩⟩
                ·
                 rw [if_neg c34] at H
                 exact absurd H (by simp)
              ·
               rw [if_neg c28] at H
               exact absurd H (by simp)
             ·
              replace c27 := Bool.eq_false_iff.mpr c27
              subst c27
              have H1 : (larchref17_First.l1 k2 l0 t410 x9_1 t418 (wrap64 (x12_2 + 1))) = some (r1, r2) := by rw [if_neg (show ¬ (false = true) by decide)] at H; exact H
              clear H
              have H := H1
              clear H1
              have H' := Aside0.mk H
              clear H
              obtain ⟨Ao42, co42, eo42⟩ := Kd.R_slice HO_11.out
              subst eo42
              have p421 : 0 ≤ (x12_2 : Int) := dt
              have q421 : x12_2 < (t418.length : Int) := dt
              obtain ⟨ad421, e421, hx421_0⟩ := Kd.at_int (Kd.R_reads' HO_11.out).2.2 x12_2 p421 q421
              cases e421
              replace p421 := eq_true p421
              replace q421 := eq_true q421
              obtain ⟨Ao43, co43, eo43⟩ := Kd.R_slice HO_9.out
              subst eo43
              have p422 : 0 ≤ ((rd t418 x12_2) : Int) := dt
              have q422 : (rd t418 x12_2) < (x9_1.length : Int) := dt
              obtain ⟨ad422, e422, hx422_0⟩ := Kd.at_bool (Kd.R_reads' HO_9.out).2.2 (rd t418 x12_2) p422 q422
              (try rw [← Nbq26.out] at hx422_0)
              cases e422
              replace p422 := eq_true p422
              replace q422 := eq_true q422
              go_wp2
              go_roundg k2
              case measure => have := HK1.out; have := HK2.out; omega
              case rel => exact ⟨(wrap64 (x12_2 + 1)), rs, H', ⟨by have := HK1.out; have := HK2.out; omega⟩, ⟨skR HO_8.out⟩, ⟨skR HO_9.out⟩, ⟨skR HO_11.out⟩, ⟨skB HB.out⟩⟩
            ·
             rw [if_neg c25] at H
             exact absurd H (by simp)
           ·
            rw [if_neg c24] at H
            exact absurd H (by simp)
          ·
           rw [if_neg c23] at H
           exact absurd H (by simp)
         ·
          rw [if_neg c22] at H
          have c22b0 : decide (x12_2 < (t418.length : Int)) = false := decide_eq_false c22
          clear c22
          simp only [Option.some.injEq, Prod.mk.injEq] at H
          obtain ⟨rfl, rfl⟩ := H
          obtain ⟨Ao44, co44, eo44⟩ := Kd.R_slice HO_11.out
          subst eo44
          go_wp2
          go_ret2
          exact ⟨re, skB HB.out⟩
   ·
    rw [if_neg c7] at H
    exact absurd H (by simp)
  ·
   rw [if_neg c6] at H
   exact absurd H (by simp)
 ·
  rw [if_neg c4] at H
  have c4b0 : (t407 == 0) = false := beq_eq_false_iff_ne.mpr c4
  have c4b1 : (t407 != 0) = true := bne_iff_ne.mpr c4
  simp only [Option.some.injEq, Prod.mk.injEq] at H
  obtain ⟨rfl, rfl⟩ := H
  go_enter Try.func18, Try.ntmps18
  go_wp2_with (first | ((with_reducible refine gate_callee (f := 46) rfl ?_); refine goesL_ (some 15) rfl rfl Try.func46 (by kernel_rfl) rfl #[.slice A0 l0.length c0] rfl ags ?_; (with_reducible refine (larchref17_keys.calls k _ _ l0 t406 t407 _ ?side1 ?side2 A3.out).mono ?_); (case side1 => exact skC HR0.out); (case side2 => exact HC0.out); rintro e w45 ⟨v408, rfl, ho0, hb⟩; refine ⟨_, rfl, ?_⟩; have n0_ := Aside0.mk (Kd.R_lower ho0 (below_size (skB HB.out))); have n1_ := Aside0.mk (below_step (skB HB.out) hb); clear HB; have HO409 := n0_; have HB := n1_; clear n0_ n1_; (try clear hb); (try clear hb2); (try clear hk); (try clear hi); (try clear ho0)))
  go_ret2
  exact ⟨re, skB HB.out⟩
end Go.Proofs.Ytmmjkebboonnkaa.P
/- F40 -/
namespace Go.Proofs.Ytmmjkebboonnkaa.P
open Go.RowKit Go.Proofs.YtmmjkebboonnkaaW.PrintWords Go.Proofs.YtmmjkebboonnkaaW.PrintLast Go.Proofs.YtmmjkebboonnkaaW.PrintMore
attribute [local go_sem] max2_int min2_int max_two min_two max_three min_three max_four min_four   -- for this text's walks alone
set_option linter.unusedVariables false
set_option linter.unusedSimpArgs false
def larchref17_Leaves.l0 : Nat → List (S49) → List Int → List Int → Int → Option (List Int)
 | 0, _, _, _, _ => none
 | k + 1, x0, x3, x4, x5 => if x5 < (x4.length : Int) then (if 0 ≤ x5 then (if 0 ≤ (rd x4 x5) then (if (rd x4 x5) < (x0.length : Int) then ((larchref17_leaf.f ((rd_T49 x0 (rd x4 x5)).f0) ((rd_T49 x0 (rd x4 x5)).f1) ((rd_T49 x0 (rd x4 x5)).f2) ((rd_T49 x0 (rd x4 x5)).f3) ((rd_T49 x0 (rd x4 x5)).f4) ((rd_T49 x0 (rd x4 x5)).f5)).bind fun t434 => (if t434 = true then (if ((rd_T49 x0 (rd x4 x5)).f1) = 0 then (if x3.length < 17592186044416 then (larchref17_Leaves.l0 k x0 (x3 ++ [rd x4 x5]) x4 (wrap64 (x5 + 1))) else (none)) else (larchref17_Leaves.l0 k x0 x3 x4 (wrap64 (x5 + 1)))) else (larchref17_Leaves.l0 k x0 x3 x4 (wrap64 (x5 + 1))))) else (none)) else (none)) else (none)) else (some x3)
def larchref17_Leaves.f (k : Nat) (l0 : List (S49)) : Option (List Int) := (larchref17_Order.f k l0 0).bind fun t429 => (larchref17_Leaves.l0 k l0 ([] : List Int) t429 0)
set_option maxHeartbeats 8000000 in
set_option maxRecDepth 100000 in
theorem larchref17_Leaves.calls (k : Nat) (A0 : Option Addr) (c0 : Nat) (l0 : List (S49)) (r : List Int) (w : World) (hr0 : Kd.C k49 w A0 l0.length l0) (hc0 : l0.length ≤ c0) (h : larchref17_Leaves.f k l0 = some r) :
  Calls Try.prog 34 #[.slice A0 l0.length c0] w fun e w' => ∃ v0_ : Value, e = .returned (v0_) ∧ Kd.R (Kd.int .i64) 3 w' w.heap.size (fun _ => True) v0_ r ∧ Below w.heap.size w w' := by
 have hu49 := Try.underlying49
 have HR0 := Aside0.mk hr0
 have HC0 := Aside0.mk hc0
 clear hr0 hc0
 have HB := Aside0.mk (Below.refl w.heap.size w)
 have H : ((larchref17_Order.f k l0 0).bind fun t429 => (larchref17_Leaves.l0 k l0 ([] : List Int) t429 0)) = some r := h
 clear h
 replace H := Option.bind_eq_some_iff.mp H
 obtain ⟨t429, A20, H⟩ := H
 replace H : (larchref17_Leaves.l0 k l0 ([] : List Int) t429 0) = some r := H
 have A2 := Aside0.mk A20
 clear A20
 have H' := Aside0.mk H
 clear H
 go_enter Try.func34, Try.ntmps34
 go_wp2_with (first | ((with_reducible refine gate_callee (f := 27) rfl ?_); refine goesL_ (some 7) rfl rfl Try.func27 (by kernel_rfl) rfl #[.slice A0 l0.length c0, .int .i64 0] rfl ags ?_; (with_reducible refine (larchref17_Order.calls k _ _ l0 0 t429 _ ?side1 ?side2 A2.out).mono ?_); (case side1 => exact skC HR0.out); (case side2 => exact HC0.out); rintro e w3 ⟨v430, rfl, ho0, hb⟩; refine ⟨_, rfl, ?_⟩; have n0_ := Aside0.mk (Kd.R_lower ho0 (below_size (skB HB.out))); have n1_ := Aside0.mk (below_step (skB HB.out) hb); clear HB; have HO431 := n0_; have HB := n1_; clear n0_ n1_; (try clear hb); (try clear hb2); (try clear hk); (try clear hi); (try clear ho0)))
 go_loopg [3, 5] k (fun kq v3 v5 w' => ∃ (x3_1 : List Int) (x5_1 : Int), v5 = .int .i64 x5_1 ∧ Aside0 (larchref17_Leaves.l0 kq l0 x3_1 t429 x5_1 = some r) ∧ Aside0 (kq ≤ k) ∧ Aside0 (Kd.R (Kd.int .i64) 3 w' w.heap.size (fun k_ => some k_ ≠ (v430 : Value).ownBlock) v3 x3_1) ∧ Aside0 (Kd.R (Kd.int .i64) 3 w' w.heap.size (fun k_ => some k_ ≠ (v3 : Value).ownBlock) v430 t429) ∧ Aside0 (Below w.heap.size w w'))
 case atStart => exact ⟨(([] : List Int)), (0), rs, H', ⟨Nat.le_refl _⟩, ⟨by first | exact Kd.R_nil _ _ _ _ _ | exact Kd.N_nil _ _ _ _ _ | exact Kd.V_nil _ _ _ _ _ | exact Kd.Q_nil _ _ _ _ _ | exact Kd.S_nil _ _ _ _ _⟩, ⟨skR (Kd.R_mono HO431.out (fun _ hk => (by simp [Value.ownBlock])))⟩, ⟨skB HB.out⟩⟩
 case round =>
  clear H'
  try clear c2
  try clear p2
  try clear c3
  obtain ⟨x3_1, x5_1, rfl, HA, HK1, HO_3, HO_4, HB⟩ := hrel
  cases gk with
  | zero => exact absurd HA.out (by simp [larchref17_Leaves.l0])
  | succ k1 =>
   have H := HA.out
   clear HA
   simp only [larchref17_Leaves.l0] at H
   by_cases c4 : x5_1 < (t429.length : Int)
   ·
    rw [if_pos c4] at H
    have c4b0 : decide (x5_1 < (t429.length : Int)) = true := decide_eq_true c4
    clear c4
    by_cases c5 : 0 ≤ x5_1
    ·
     rw [if_pos c5] at H
     have c5b0 : decide (0 ≤ x5_1) = true := decide_eq_true c5
     clear c5
     by_cases c6 : 0 ≤ (rd t429 x5_1)
     ·
      rw [if_pos c6] at H
      have c6b0 : decide (0 ≤ (rd t429 x5_1)) = true := decide_eq_true c6
      clear c6
      by_cases c7 : (rd t429 x5_1) < (l0.length : Int)
      ·
       rw [if_pos c7] at H
       have c7b0 : decide ((rd t429 x5_1) < (l0.length : Int)) = true := decide_eq_true c7
       clear c7
       replace H := Option.bind_eq_some_iff.mp H
       obtain ⟨t434, A80, H⟩ := H
       replace H : (if t434 = true then (if ((rd_T49 l0 (rd t429 x5_1)).f1) = 0 then (if x3_1.length < 17592186044416 then (larchref17_Leaves.l0 k1 l0 (x3_1 ++ [rd t429 x5_1]) t429 (wrap64 (x5_1 + 1))) else (none)) else (larchref17_Leaves.l0 k1 l0 x3_1 t429 (wrap64 (x5_1 + 1)))) else (larchref17_Leaves.l0 k1 l0 x3_1 t429 (wrap64 (x5_1 + 1)))) = some r := H
       have A8 := Aside0.mk A80
       clear A80
       by_cases c9 : t434 = true
       ·
        subst c9
        have H1 : (if ((rd_T49 l0 (rd t429 x5_1)).f1) = 0 then (if x3_1.length < 17592186044416 then (larchref17_Leaves.l0 k1 l0 (x3_1 ++ [rd t429 x5_1]) t429 (wrap64 (x5_1 + 1))) else (none)) else (larchref17_Leaves.l0 k1 l0 x3_1 t429 (wrap64 (x5_1 + 1)))) = some r := by rw [if_pos rfl] at H; exact H
        clear H
        have H := H1
        clear H1
        by_cases c10 : ((rd_T49 l0 (rd t429 x5_1)).f1) = 0
        ·
         rw [if_pos c10] at H
         have c10b0 : (((rd_T49 l0 (rd t429 x5_1)).f1) == 0) = true := beq_iff_eq.mpr c10
         have c10b1 : (((rd_T49 l0 (rd t429 x5_1)).f1) != 0) = false := bne_eq_false_iff_eq.mpr c10
         clear c10
         by_cases c11 : x3_1.length < 17592186044416
         ·
          rw [if_pos c11] at H
          have LMc11 := Aside0.mk c11
          clear c11
          obtain ⟨y438, hy438⟩ : ∃ y_ : List Int, y_ = (x3_1 ++ [rd t429 x5_1]) := ⟨_, rfl⟩
          replace H : (larchref17_Leaves.l0 k1 l0 y438 t429 (wrap64 (x5_1 + 1))) = some r := by first | (rw [hy438]; with_reducible exact H) | (have H2_ := (Option.bind_some _ _).symm.trans H; rw [hy438]; with_reducible exact H2_) | (have H2_ := (Option.bind_some _ _).symm.trans H; with_reducible exact H2_) | with_reducible exact H | (rw [hy438]; exact H) | exact H
          have Ny438 := Aside0.mk hy438
          clear hy438
          have H' := Aside0.mk H
          clear H
          obtain ⟨Ao12, co12, eo12⟩ := Kd.R_slice HO_4.out
          subst eo12
          have p432 : 0 ≤ (x5_1 : Int) := dt
          have q432 : x5_1 < (t429.length : Int) := dt
          obtain ⟨ad432, e432, hx432_0⟩ := Kd.at_int (Kd.R_reads' HO_4.out).2.2 x5_1 p432 q432
          cases e432
          replace p432 := eq_true p432
          replace q432 := eq_true q432
          have p433 : 0 ≤ ((rd t429 x5_1) : Int) := dt
          have q433 : (rd t429 x5_1) < (l0.length : Int) := dt
          obtain ⟨ad433, e433, hx433_0, hx433_1, hx433_2, hx433_3, hx433_4, hx433_5⟩ := at_T49 HR0.out (rd t429 x5_1) p433 q433
          cases e433
          replace hx433_0 := skc HB.out hx433_0
          replace hx433_1 := skc HB.out hx433_1
          replace hx433_2 := skc HB.out hx433_2
          replace hx433_3 := skc HB.out hx433_3
          replace hx433_4 := skc HB.out hx433_4
          replace hx433_5 := skc HB.out hx433_5
          replace p433 := eq_true p433
          replace q433 := eq_true q433
          go_wp2_with (first | ((with_reducible refine gate_callee (f := 53) rfl ?_); refine goesL_ (some 21) rfl rfl Try.func53 (by kernel_rfl) rfl #[.agg #[.int .i64 ((rd_T49 l0 (rd t429 x5_1)).f0), .int .i64 ((rd_T49 l0 (rd t429 x5_1)).f1), .int .i64 ((rd_T49 l0 (rd t429 x5_1)).f2), .int .i64 ((rd_T49 l0 (rd t429 x5_1)).f3), .int .i64 ((rd_T49 l0 (rd t429 x5_1)).f4), .int .i64 ((rd_T49 l0 (rd t429 x5_1)).f5)]] rfl ags ?_; (with_reducible refine (larchref17_leaf.calls ((rd_T49 l0 (rd t429 x5_1)).f0) ((rd_T49 l0 (rd t429 x5_1)).f1) ((rd_T49 l0 (rd t429 x5_1)).f2) ((rd_T49 l0 (rd t429 x5_1)).f3) ((rd_T49 l0 (rd t429 x5_1)).f4) ((rd_T49 l0 (rd t429 x5_1)).f5) true _ A8.out).mono ?_); rintro e w13 ⟨rfl, hb⟩; refine ⟨_, rfl, ?_⟩; have n0_ := Aside0.mk (Kd.R_below (skR HO_3.out) hb); have n1_ := Aside0.mk (Kd.R_below (skR HO_4.out) hb); have n2_ := Aside0.mk (below_step (skB HB.out) hb); clear HO_3; clear HO_4; clear HB; have HO_3 := n0_; have HO_4 := n1_; have HB := n2_; clear n0_ n1_ n2_; (try clear hb); (try clear hb2); (try clear hk); (try clear hi); have p435 : 0 ≤ (x5_1 : Int) := dt; have q435 : x5_1 < (t429.length : Int) := dt; obtain ⟨ad435, e435, hx435_0⟩ := Kd.at_int (Kd.R_reads' HO_4.out).2.2 x5_1 p435 q435; obtain rfl : ad432 = ad435 := (by injection e435); replace p435 := eq_true p435; replace q435 := eq_true q435; have p436 : 0 ≤ ((rd t429 x5_1) : Int) := dt; have q436 : (rd t429 x5_1) < (l0.length : Int) := dt; obtain ⟨ad436, e436, hx436_0, hx436_1, hx436_2, hx436_3, hx436_4, hx436_5⟩ := at_T49 HR0.out (rd t429 x5_1) p436 q436; obtain rfl : ad433 = ad436 := (by injection e436); replace hx436_0 := skc HB.out hx436_0; replace hx436_1 := skc HB.out hx436_1; replace hx436_2 := skc HB.out hx436_2; replace hx436_3 := skc HB.out hx436_3; replace hx436_4 := skc HB.out hx436_4; replace hx436_5 := skc HB.out hx436_5; replace p436 := eq_true p436; replace q436 := eq_true q436; have p437 : 0 ≤ (x5_1 : Int) := dt; have q437 : x5_1 < (t429.length : Int) := dt; obtain ⟨ad437, e437, hx437_0⟩ := Kd.at_int (Kd.R_reads' HO_4.out).2.2 x5_1 p437 q437; obtain rfl : ad432 = ad437 := (by injection e437); replace p437 := eq_true p437; replace q437 := eq_true q437) | ((with_reducible refine gate_builtin (b := .append) (xs := #[.tmp 33, .tmp 38]) rfl ?_); at_builtin; refine Kd.R_append (Kd.int .i64) (w0 := w) w.heap.size rfl (.tmp 33) (.tmp 38) 23 3 (.int .i64 0) 8 rfl Try.underlying23 info3 rfl (by decide) (by omega) u3 x3_1 (rd t429 x5_1) [.int .i64 (rd t429 x5_1)] (fun k_ => some k_ ≠ (.slice (some ad432) t429.length co12 : Value).ownBlock) (fun _ => False) rfl rfl ?aP (fun _ hk => hk.elim) ?aF ?aO ?aB ?aS ?aL ?_; (case aP => exact rfl); (case aB => exact (skB HB.out)); (case aF => exact (fun k_ hk => Kd.fresh' (Kd.R_lt (skR HO_4.out)) k_ hk)); (case aO => exact (skR HO_3.out)); (case aS => exact (below_size (skB HB.out))); (case aL => have := LMc11.out; omega); intro v439 w14 ho hb hg hat; rw [← Ny438.out] at ho; have n0_ := Aside0.mk (Kd.R_after (ok := (fun _ => True)) (skR (Kd.R_mono HO_4.out (fun _ hk => ⟨trivial, hk⟩))) hg hat); have n1_ := Aside0.mk (hb); have n2_ := Aside0.mk (ho); clear HO_4; clear HB; clear HO_3; have HO_4 := n0_; have HB := n1_; have HO440 := n2_; clear n0_ n1_ n2_; clear ho hb hg hat))
          go_roundg k1
          case measure => have := HK1.out; omega
          case rel => exact ⟨(y438), (wrap64 (x5_1 + 1)), rs, H', ⟨by have := HK1.out; omega⟩, ⟨skR HO440.out⟩, ⟨skR (Kd.R_mono HO_4.out (fun _ hk => hk.2))⟩, ⟨skB HB.out⟩⟩
         ·
          rw [if_neg c11] at H
          exact absurd H (by simp)
        ·
         rw [if_neg c10] at H
         have c10b0 : (((rd_T49 l0 (rd t429 x5_1)).f1) == 0) = false := beq_eq_false_iff_ne.mpr c10
         have c10b1 : (((rd_T49 l0 (rd t429 x5_1)).f1) != 0) = true := bne_iff_ne.mpr c10
         have H' := Aside0.mk H
         clear H
         obtain ⟨Ao15, co15, eo15⟩ := Kd.R_slice HO_4.out
         subst eo15
         have p432 : 0 ≤ (x5_1 : Int) := dt
         have q432 : x5_1 < (t429.length : Int) := dt
         obtain ⟨ad432, e432, hx432_0⟩ := Kd.at_int (Kd.R_reads' HO_4.out).2.2 x5_1 p432 q432
         cases e432
         replace p432 := eq_true p432
         replace q432 := eq_true q432
         have p433 : 0 ≤ ((rd t429 x5_1) : Int) := dt
         have q433 : (rd t429 x5_1) < (l0.length : Int) := dt
         obtain ⟨ad433, e433, hx433_0, hx433_1, hx433_2, hx433_3, hx433_4, hx433_5⟩ := at_T49 HR0.out (rd t429 x5_1) p433 q433
         cases e433
         replace hx433_0 := skc HB.out hx433_0
         replace hx433_1 := skc HB.out hx433_1
         replace hx433_2 := skc HB.out hx433_2
         replace hx433_3 := skc HB.out hx433_3
         replace hx433_4 := skc HB.out hx433_4
         replace hx433_5 := skc HB.out hx433_5
         replace p433 := eq_true p433
         replace q433 := eq_true q433
         go_wp2_with (first | ((with_reducible refine gate_callee (f := 53) rfl ?_); refine goesL_ (some 21) rfl rfl Try.func53 (by kernel_rfl) rfl #[.agg #[.int .i64 ((rd_T49 l0 (rd t429 x5_1)).f0), .int .i64 ((rd_T49 l0 (rd t429 x5_1)).f1), .int .i64 ((rd_T49 l0 (rd t429 x5_1)).f2), .int .i64 ((rd_T49 l0 (rd t429 x5_1)).f3), .int .i64 ((rd_T49 l0 (rd t429 x5_1)).f4), .int .i64 ((rd_T49 l0 (rd t429 x5_1)).f5)]] rfl ags ?_; (with_reducible refine (larchref17_leaf.calls ((rd_T49 l0 (rd t429 x5_1)).f0) ((rd_T49 l0 (rd t429 x5_1)).f1) ((rd_T49 l0 (rd t429 x5_1)).f2) ((rd_T49 l0 (rd t429 x5_1)).f3) ((rd_T49 l0 (rd t429 x5_1)).f4) ((rd_T49 l0 (rd t429 x5_1)).f5) true _ A8.out).mono ?_); rintro e w16 ⟨rfl, hb⟩; refine ⟨_, rfl, ?_⟩; have n0_ := Aside0.mk (Kd.R_below (skR HO_3.out) hb); have n1_ := Aside0.mk (Kd.R_below (skR HO_4.out) hb); have n2_ := Aside0.mk (below_step (skB HB.out) hb); clear HO_3; clear HO_4; clear HB; have HO_3 := n0_; have HO_4 := n1_; have HB := n2_; clear n0_ n1_ n2_; (try clear hb); (try clear hb2); (try clear hk); (try clear hi); have p435 : 0 ≤ (x5_1 : Int) := dt; have q435 : x5_1 < (t429.length : Int) := dt; obtain ⟨ad435, e435, hx435_0⟩ := Kd.at_int (Kd.R_reads' HO_4.out).2.2 x5_1 p435 q435; obtain rfl : ad432 = ad435 := (by injection e435); replace p435 := eq_true p435; replace q435 := eq_true q435; have p436 : 0 ≤ ((rd t429 x5_1) : Int) := dt; have q436 : (rd t429 x5_1) < (l0.length : Int) := dt; obtain ⟨ad436, e436, hx436_0, hx436_1, hx436_2, hx436_3, hx436_4, hx436_5⟩ := at_T49 HR0.out (rd t429 x5_1) p436 q436; obtain rfl : ad433 = ad436 := (by injection e436); replace hx436_0 := skc HB.out hx436_0; replace hx436_1 := skc HB.out hx436_1; replace hx436_2 := skc HB.out hx436_2; replace hx436_3 := skc HB.out hx436_3; replace hx436_4 := skc HB.out hx436_4; replace hx436_5 := skc HB.out hx436_5; replace p436 := eq_true p436; replace q436 := eq_true q436))
         go_roundg k1
         case measure => have := HK1.out; omega
         case rel => exact ⟨(x3_1), (wrap64 (x5_1 + 1)), rs, H', ⟨by have := HK1.out; omega⟩, ⟨skR HO_3.out⟩, ⟨skR HO_4.out⟩, ⟨skB HB.out⟩⟩
       ·
        replace c9 := Bool.eq_false_iff.mpr c9
        subst c9
        have H1 : (larchref17_Leaves.l0 k1 l0 x3_1 t429 (wrap64 (x5_1 + 1))) = some r := by rw [if_neg (show ¬ (false = true) by decide)] at H; exact H
        clear H
        have H := H1
        clear H1
        have H' := Aside0.mk H
        clear H
        obtain ⟨Ao17, co17, eo17⟩ := Kd.R_slice HO_4.out
        subst eo17
        have p432 : 0 ≤ (x5_1 : Int) := dt
        have q432 : x5_1 < (t429.length : Int) := dt
        obtain ⟨ad432, e432, hx432_0⟩ := Kd.at_int (Kd.R_reads' HO_4.out).2.2 x5_1 p432 q432
        cases e432
        replace p432 := eq_true p432
        replace q432 := eq_true q432
        have p433 : 0 ≤ ((rd t429 x5_1) : Int) := dt
        have q433 : (rd t429 x5_1) < (l0.length : Int) := dt
        obtain ⟨ad433, e433, hx433_0, hx433_1, hx433_2, hx433_3, hx433_4, hx433_5⟩ := at_T49 HR0.out (rd t429 x5_1) p433 q433
        cases e433
        replace hx433_0 := skc HB.out hx433_0
        replace hx433_1 := skc HB.out hx433_1
        replace hx433_2 := skc HB.out hx433_2
        replace hx433_3 := skc HB.out hx433_3
        replace hx433_4 := skc HB.out hx433_4
        replace hx433_5 := skc HB.out hx433_5
        replace p433 := eq_true p433
        replace q433 := eq_true q433
        go_wp2_with (first | ((with_reducible refine gate_callee (f := 53) rfl ?_); refine goesL_ (some 21) rfl rfl Try.func53 (by kernel_rfl) rfl #[.agg #[.int .i64 ((rd_T49 l0 (rd t429 x5_1)).f0), .int .i64 ((rd_T49 l0 (rd t429 x5_1)).f1), .int .i64 ((rd_T49 l0 (rd t429 x5_1)).f2), .int .i64 ((rd_T49 l0 (rd t429 x5_1)).f3), .int .i64 ((rd_T49 l0 (rd t429 x5_1)).f4), .int .i64 ((rd_T49 l0 (rd t429 x5_1)).f5)]] rfl ags ?_; (with_reducible refine (larchref17_leaf.calls ((rd_T49 l0 (rd t429 x5_1)).f0) ((rd_T49 l0 (rd t429 x5_1)).f1) ((rd_T49 l0 (rd t429 x5_1)).f2) ((rd_T49 l0 (rd t429 x5_1)).f3) ((rd_T49 l0 (rd t429 x5_1)).f4) ((rd_T49 l0 (rd t429 x5_1)).f5) false _ A8.out).mono ?_); rintro e w18 ⟨rfl, hb⟩; refine ⟨_, rfl, ?_⟩; have n0_ := Aside0.mk (Kd.R_below (skR HO_3.out) hb); have n1_ := Aside0.mk (Kd.R_below (skR HO_4.out) hb); have n2_ := Aside0.mk (below_step (skB HB.out) hb); clear HO_3; clear HO_4; clear HB; have HO_3 := n0_; have HO_4 := n1_; have HB := n2_; clear n0_ n1_ n2_; (try clear hb); (try clear hb2); (try clear hk); (try clear hi)))
        go_roundg k1
        case measure => have := HK1.out; omega
        case rel => exact ⟨(x3_1), (wrap64 (x5_1 + 1)), rs, H', ⟨by have := HK1.out; omega⟩, ⟨skR HO_3.out⟩, ⟨skR HO_4.out⟩, ⟨skB HB.out⟩⟩
      ·
       rw [if_neg c7] at H
       exact absurd H (by simp)
     ·
      rw [if_neg c6] at H
      exact absurd H (by simp)
    ·
     rw [if_neg c5] at H
     exact absurd H (by simp)
   ·
    rw [if_neg c4] at H
    have c4b0 : decide (x5_1 < (t429.length : Int)) = false := decide_eq_false c4
    clear c4
    obtain rfl := Option.some.inj H
    obtain ⟨Ao19, co19, eo19⟩ := Kd.R_slice HO_4.out
    subst eo19
    go_wp2
    go_ret
    exact ⟨_, re, skR (Kd.R_mono HO_3.out (fun _ hk => trivial)), skB HB.out⟩
end Go.Proofs.Ytmmjkebboonnkaa.P
/- F41 -/
namespace Go.Proofs.Ytmmjkebboonnkaa.P
open Go.RowKit Go.Proofs.YtmmjkebboonnkaaW.PrintWords Go.Proofs.YtmmjkebboonnkaaW.PrintLast Go.Proofs.YtmmjkebboonnkaaW.PrintMore
attribute [local go_sem] max2_int min2_int max_two min_two max_three min_three max_four min_four   -- for this text's walks alone
set_option linter.unusedVariables false
set_option linter.unusedSimpArgs false
def larchref17_Ordered.l0 : Nat → List (S49) → List Int → Int → Option (Bool)
 | 0, _, _, _ => none
 | k + 1, x0, x3, x4 => if x4 < (x3.length : Int) then (if 0 ≤ x4 then (if 0 ≤ (rd x3 x4) then (if (rd x3 x4) < (x0.length : Int) then ((larchref17_Path.f k x0 ((rd_T49 x0 (rd x3 x4)).f0)).bind fun t446 => (if 0 ≤ (wrap64 ((t446.length : Int) - 1)) then (if (wrap64 ((t446.length : Int) - 1)) < (t446.length : Int) then (if (rd t446 (wrap64 ((t446.length : Int) - 1))) = (rd x3 x4) then (larchref17_Ordered.l0 k x0 x3 (wrap64 (x4 + 1))) else (some false)) else (none)) else (none))) else (none)) else (none)) else (none)) else (some true)
def larchref17_Ordered.f (k : Nat) (l0 : List (S49)) : Option (Bool) := (larchref17_Leaves.f k l0).bind fun t441 => (larchref17_Ordered.l0 k l0 t441 0)
set_option maxHeartbeats 8000000 in
set_option maxRecDepth 100000 in
theorem larchref17_Ordered.calls (k : Nat) (A0 : Option Addr) (c0 : Nat) (l0 : List (S49)) (r : Bool) (w : World) (hr0 : Kd.C k49 w A0 l0.length l0) (hc0 : l0.length ≤ c0) (h : larchref17_Ordered.f k l0 = some r) :
  Calls Try.prog 19 #[.slice A0 l0.length c0] w fun e w' => e = .returned (.bool r) ∧ Below w.heap.size w w' := by
 have HR0 := Aside0.mk hr0
 have HC0 := Aside0.mk hc0
 clear hr0 hc0
 have HB := Aside0.mk (Below.refl w.heap.size w)
 have H : ((larchref17_Leaves.f k l0).bind fun t441 => (larchref17_Ordered.l0 k l0 t441 0)) = some r := h
 clear h
 replace H := Option.bind_eq_some_iff.mp H
 obtain ⟨t441, A20, H⟩ := H
 replace H : (larchref17_Ordered.l0 k l0 t441 0) = some r := H
 have A2 := Aside0.mk A20
 clear A20
 have H' := Aside0.mk H
 clear H
 go_enter Try.func19, Try.ntmps19
 go_wp2_with (first | (go_at_call 34; (with_reducible refine (larchref17_Leaves.calls k _ _ l0 t441 _ ?side1 ?side2 A2.out).mono ?_); (case side1 => exact skC HR0.out); (case side2 => exact HC0.out); rintro e w3 ⟨v442, rfl, ho0, hb⟩; have n0_ := Aside0.mk (Kd.R_lower ho0 (below_size (skB HB.out))); have n1_ := Aside0.mk (below_step (skB HB.out) hb); clear HB; have HO443 := n0_; have HB := n1_; clear n0_ n1_; (try clear hb); (try clear hb2); (try clear hk); (try clear hi); (try clear ho0)))
 repeat (go_quiet (first | (go_at_call 34; (with_reducible refine (larchref17_Leaves.calls k _ _ l0 t441 _ ?side1 ?side2 A2.out).mono ?_); (case side1 => exact skC HR0.out); (case side2 => exact HC0.out); rintro e w3 ⟨v442, rfl, ho0, hb⟩; have n0_ := Aside0.mk (Kd.R_lower ho0 (below_size (skB HB.out))); have n1_ := Aside0.mk (below_step (skB HB.out) hb); clear HB; have HO443 := n0_; have HB := n1_; clear n0_ n1_; (try clear hb); (try clear hb2); (try clear hk); (try clear hi); (try clear ho0))); try go_wp2_with (first | (go_at_call 34; (with_reducible refine (larchref17_Leaves.calls k _ _ l0 t441 _ ?side1 ?side2 A2.out).mono ?_); (case side1 => exact skC HR0.out); (case side2 => exact HC0.out); rintro e w3 ⟨v442, rfl, ho0, hb⟩; have n0_ := Aside0.mk (Kd.R_lower ho0 (below_size (skB HB.out))); have n1_ := Aside0.mk (below_step (skB HB.out) hb); clear HB; have HO443 := n0_; have HB := n1_; clear n0_ n1_; (try clear hb); (try clear hb2); (try clear hk); (try clear hi); (try clear ho0))))
 go_loopg [4] k (fun kq v4 w' => ∃ (x4_1 : Int), v4 = .int .i64 x4_1 ∧ Aside0 (larchref17_Ordered.l0 kq l0 t441 x4_1 = some r) ∧ Aside0 (kq ≤ k) ∧ Aside0 (Kd.R (Kd.int .i64) 3 w' w.heap.size (fun _ => True) v442 t441) ∧ Aside0 (Below w.heap.size w w'))
 case atStart => exact ⟨(0), rs, H', ⟨Nat.le_refl _⟩, ⟨skR HO443.out⟩, ⟨skB HB.out⟩⟩
 case round =>
  clear H'
  try clear c1
  try clear p2
  obtain ⟨x4_1, rfl, HA, HK1, HO_3, HB⟩ := hrel
  cases gk with
  | zero => exact absurd HA.out (by simp [larchref17_Ordered.l0])
  | succ k1 =>
   have H := HA.out
   clear HA
   simp only [larchref17_Ordered.l0] at H
   by_cases c4 : x4_1 < (t441.length : Int)
   ·
    rw [if_pos c4] at H
    have c4b0 : decide (x4_1 < (t441.length : Int)) = true := decide_eq_true c4
    clear c4
    by_cases c5 : 0 ≤ x4_1
    ·
     rw [if_pos c5] at H
     have c5b0 : decide (0 ≤ x4_1) = true := decide_eq_true c5
     clear c5
     by_cases c6 : 0 ≤ (rd t441 x4_1)
     ·
      rw [if_pos c6] at H
      have c6b0 : decide (0 ≤ (rd t441 x4_1)) = true := decide_eq_true c6
      clear c6
      by_cases c7 : (rd t441 x4_1) < (l0.length : Int)
      ·
       rw [if_pos c7] at H
       have c7b0 : decide ((rd t441 x4_1) < (l0.length : Int)) = true := decide_eq_true c7
       clear c7
       replace H := Option.bind_eq_some_iff.mp H
       obtain ⟨t446, A80, H⟩ := H
       replace H : (if 0 ≤ (wrap64 ((t446.length : Int) - 1)) then (if (wrap64 ((t446.length : Int) - 1)) < (t446.length : Int) then (if (rd t446 (wrap64 ((t446.length : Int) - 1))) = (rd t441 x4_1) then (larchref17_Ordered.l0 k1 l0 t441 (wrap64 (x4_1 + 1))) else (some false)) else (none)) else (none)) = some r := H
       have A8 := Aside0.mk A80
       clear A80
       obtain ⟨ji9, hji9⟩ : ∃ j_ : Int, (wrap64 ((t446.length : Int) - 1)) = j_ := ⟨_, rfl⟩
       replace H : (if 0 ≤ (ji9) then (if (ji9) < (t446.length : Int) then (if (rd t446 (ji9)) = (rd t441 x4_1) then (larchref17_Ordered.l0 k1 l0 t441 (wrap64 (x4_1 + 1))) else (some false)) else (none)) else (none)) = some r := by first | (rw [hji9] at H; exact H) | (simp only [hji9] at H ⊢; exact H)
       (try rw [hji9] at A8)
       have hji9w : (IntKind.i64.wrap ((t446.length : Int) - 1)) = ji9 := (i64_w _).trans hji9
       by_cases c10 : 0 ≤ (ji9)
       ·
        rw [if_pos c10] at H
        have c10b0 : decide (0 ≤ (ji9)) = true := decide_eq_true c10
        clear c10
        by_cases c11 : (ji9) < (t446.length : Int)
        ·
         rw [if_pos c11] at H
         have c11b0 : decide ((ji9) < (t446.length : Int)) = true := decide_eq_true c11
         clear c11
         by_cases c12 : (rd t446 (ji9)) = (rd t441 x4_1)
         ·
          rw [if_pos c12] at H
          have c12b0 : ((rd t446 (ji9)) == (rd t441 x4_1)) = true := beq_iff_eq.mpr c12
          have c12b1 : ((rd t446 (ji9)) != (rd t441 x4_1)) = false := bne_eq_false_iff_eq.mpr c12
          clear c12
          have H' := Aside0.mk H
          clear H
          obtain ⟨Ao13, co13, eo13⟩ := Kd.R_slice HO_3.out
          subst eo13
          have p444 : 0 ≤ (x4_1 : Int) := dt
          have q444 : x4_1 < (t441.length : Int) := dt
          obtain ⟨ad444, e444, hx444_0⟩ := Kd.at_int (Kd.R_reads' HO_3.out).2.2 x4_1 p444 q444
          cases e444
          replace p444 := eq_true p444
          replace q444 := eq_true q444
          have p445 : 0 ≤ ((rd t441 x4_1) : Int) := dt
          have q445 : (rd t441 x4_1) < (l0.length : Int) := dt
          obtain ⟨ad445, e445, hx445_0, hx445_1, hx445_2, hx445_3, hx445_4, hx445_5⟩ := at_T49 HR0.out (rd t441 x4_1) p445 q445
          cases e445
          replace hx445_0 := skc HB.out hx445_0
          replace hx445_1 := skc HB.out hx445_1
          replace hx445_2 := skc HB.out hx445_2
          replace hx445_3 := skc HB.out hx445_3
          replace hx445_4 := skc HB.out hx445_4
          replace hx445_5 := skc HB.out hx445_5
          replace p445 := eq_true p445
          replace q445 := eq_true q445
          go_wp2_with (first | (go_at_call 50; (with_reducible refine (larchref17_Path.calls k1 _ _ l0 ((rd_T49 l0 (rd t441 x4_1)).f0) t446 _ ?side1 ?side2 A8.out).mono ?_); (case side1 => exact skC (Kd.C_below HR0.out HB.out)); (case side2 => exact HC0.out); rintro e w14 ⟨v447, rfl, ho0, hb⟩; have n0_ := Aside0.mk (Kd.R_elder' (skR HO_3.out) (Kd.R_base ho0) hb); have n1_ := Aside0.mk (Kd.R_lower (Kd.R_new' ho0 (Kd.R_lt (skR HO_3.out))) (below_size (skB HB.out))); have n2_ := Aside0.mk (below_step (skB HB.out) hb); clear HO_3; clear HB; have HO_3 := n0_; have HO448 := n1_; have HB := n2_; clear n0_ n1_ n2_; (try clear hb); (try clear hb2); (try clear hk); (try clear hi); (try clear ho0); obtain ⟨Ao15, co15, eo15⟩ := Kd.R_slice HO448.out; subst eo15; have p449 : 0 ≤ ((ji9) : Int) := dt; have q449 : (ji9) < (t446.length : Int) := dt; obtain ⟨ad449, e449, hx449_0⟩ := Kd.at_int (Kd.R_reads' HO448.out).2.2 (ji9) p449 q449; cases e449; replace p449 := eq_true p449; replace q449 := eq_true q449; have p450 : 0 ≤ (x4_1 : Int) := dt; have q450 : x4_1 < (t441.length : Int) := dt; obtain ⟨ad450, e450, hx450_0⟩ := Kd.at_int (Kd.R_reads' HO_3.out).2.2 x4_1 p450 q450; obtain rfl : ad444 = ad450 := (by injection e450); replace p450 := eq_true p450; replace q450 := eq_true q450))
          repeat (go_quiet (first | (go_at_call 50; (with_reducible refine (larchref17_Path.calls k1 _ _ l0 ((rd_T49 l0 (rd t441 x4_1)).f0) t446 _ ?side1 ?side2 A8.out).mono ?_); (case side1 => exact skC (Kd.C_below HR0.out HB.out)); (case side2 => exact HC0.out); rintro e w14 ⟨v447, rfl, ho0, hb⟩; have n0_ := Aside0.mk (Kd.R_elder' (skR HO_3.out) (Kd.R_base ho0) hb); have n1_ := Aside0.mk (Kd.R_lower (Kd.R_new' ho0 (Kd.R_lt (skR HO_3.out))) (below_size (skB HB.out))); have n2_ := Aside0.mk (below_step (skB HB.out) hb); clear HO_3; clear HB; have HO_3 := n0_; have HO448 := n1_; have HB := n2_; clear n0_ n1_ n2_; (try clear hb); (try clear hb2); (try clear hk); (try clear hi); (try clear ho0); obtain ⟨Ao15, co15, eo15⟩ := Kd.R_slice HO448.out; subst eo15; have p449 : 0 ≤ ((ji9) : Int) := dt; have q449 : (ji9) < (t446.length : Int) := dt; obtain ⟨ad449, e449, hx449_0⟩ := Kd.at_int (Kd.R_reads' HO448.out).2.2 (ji9) p449 q449; cases e449; replace p449 := eq_true p449; replace q449 := eq_true q449; have p450 : 0 ≤ (x4_1 : Int) := dt; have q450 : x4_1 < (t441.length : Int) := dt; obtain ⟨ad450, e450, hx450_0⟩ := Kd.at_int (Kd.R_reads' HO_3.out).2.2 x4_1 p450 q450; obtain rfl : ad444 = ad450 := (by injection e450); replace p450 := eq_true p450; replace q450 := eq_true q450)); try go_wp2_with (first | (go_at_call 50; (with_reducible refine (larchref17_Path.calls k1 _ _ l0 ((rd_T49 l0 (rd t441 x4_1)).f0) t446 _ ?side1 ?side2 A8.out).mono ?_); (case side1 => exact skC (Kd.C_below HR0.out HB.out)); (case side2 => exact HC0.out); rintro e w14 ⟨v447, rfl, ho0, hb⟩; have n0_ := Aside0.mk (Kd.R_elder' (skR HO_3.out) (Kd.R_base ho0) hb); have n1_ := Aside0.mk (Kd.R_lower (Kd.R_new' ho0 (Kd.R_lt (skR HO_3.out))) (below_size (skB HB.out))); have n2_ := Aside0.mk (below_step (skB HB.out) hb); clear HO_3; clear HB; have HO_3 := n0_; have HO448 := n1_; have HB := n2_; clear n0_ n1_ n2_; (try clear hb); (try clear hb2); (try clear hk); (try clear hi); (try clear ho0); obtain ⟨Ao15, co15, eo15⟩ := Kd.R_slice HO448.out; subst eo15; have p449 : 0 ≤ ((ji9) : Int) := dt; have q449 : (ji9) < (t446.length : Int) := dt; obtain ⟨ad449, e449, hx449_0⟩ := Kd.at_int (Kd.R_reads' HO448.out).2.2 (ji9) p449 q449; cases e449; replace p449 := eq_true p449; replace q449 := eq_true q449; have p450 : 0 ≤ (x4_1 : Int) := dt; have q450 : x4_1 < (t441.length : Int) := dt; obtain ⟨ad450, e450, hx450_0⟩ := Kd.at_int (Kd.R_reads' HO_3.out).2.2 x4_1 p450 q450; obtain rfl : ad444 = ad450 := (by injection e450); replace p450 := eq_true p450; replace q450 := eq_true q450)))
          go_roundg k1
          case measure => have := HK1.out; omega
          case rel => exact ⟨(wrap64 (x4_1 + 1)), rs, H', ⟨by have := HK1.out; omega⟩, ⟨skR (Kd.R_mono HO_3.out (fun _ hk => trivial))⟩, ⟨skB HB.out⟩⟩
         ·
          rw [if_neg c12] at H
          have c12b0 : ((rd t446 (ji9)) == (rd t441 x4_1)) = false := beq_eq_false_iff_ne.mpr c12
          have c12b1 : ((rd t446 (ji9)) != (rd t441 x4_1)) = true := bne_iff_ne.mpr c12
          obtain rfl := Option.some.inj H
          obtain ⟨Ao16, co16, eo16⟩ := Kd.R_slice HO_3.out
          subst eo16
          have p444 : 0 ≤ (x4_1 : Int) := dt
          have q444 : x4_1 < (t441.length : Int) := dt
          obtain ⟨ad444, e444, hx444_0⟩ := Kd.at_int (Kd.R_reads' HO_3.out).2.2 x4_1 p444 q444
          cases e444
          replace p444 := eq_true p444
          replace q444 := eq_true q444
          have p445 : 0 ≤ ((rd t441 x4_1) : Int) := dt
          have q445 : (rd t441 x4_1) < (l0.length : Int) := dt
          obtain ⟨ad445, e445, hx445_0, hx445_1, hx445_2, hx445_3, hx445_4, hx445_5⟩ := at_T49 HR0.out (rd t441 x4_1) p445 q445
          cases e445
          replace hx445_0 := skc HB.out hx445_0
          replace hx445_1 := skc HB.out hx445_1
          replace hx445_2 := skc HB.out hx445_2
          replace hx445_3 := skc HB.out hx445_3
          replace hx445_4 := skc HB.out hx445_4
          replace hx445_5 := skc HB.out hx445_5
          replace p445 := eq_true p445
          replace q445 := eq_true q445
          go_wp2_with (first | (go_at_call 50; (with_reducible refine (larchref17_Path.calls k1 _ _ l0 ((rd_T49 l0 (rd t441 x4_1)).f0) t446 _ ?side1 ?side2 A8.out).mono ?_); (case side1 => exact skC (Kd.C_below HR0.out HB.out)); (case side2 => exact HC0.out); rintro e w17 ⟨v447, rfl, ho0, hb⟩; have n0_ := Aside0.mk (Kd.R_elder' (skR HO_3.out) (Kd.R_base ho0) hb); have n1_ := Aside0.mk (Kd.R_lower (Kd.R_new' ho0 (Kd.R_lt (skR HO_3.out))) (below_size (skB HB.out))); have n2_ := Aside0.mk (below_step (skB HB.out) hb); clear HO_3; clear HB; have HO_3 := n0_; have HO448 := n1_; have HB := n2_; clear n0_ n1_ n2_; (try clear hb); (try clear hb2); (try clear hk); (try clear hi); (try clear ho0); obtain ⟨Ao18, co18, eo18⟩ := Kd.R_slice HO448.out; subst eo18; have p449 : 0 ≤ ((ji9) : Int) := dt; have q449 : (ji9) < (t446.length : Int) := dt; obtain ⟨ad449, e449, hx449_0⟩ := Kd.at_int (Kd.R_reads' HO448.out).2.2 (ji9) p449 q449; cases e449; replace p449 := eq_true p449; replace q449 := eq_true q449; have p450 : 0 ≤ (x4_1 : Int) := dt; have q450 : x4_1 < (t441.length : Int) := dt; obtain ⟨ad450, e450, hx450_0⟩ := Kd.at_int (Kd.R_reads' HO_3.out).2.2 x4_1 p450 q450; obtain rfl : ad444 = ad450 := (by injection e450); replace p450 := eq_true p450; replace q450 := eq_true q450))
          repeat (go_quiet (first | (go_at_call 50; (with_reducible refine (larchref17_Path.calls k1 _ _ l0 ((rd_T49 l0 (rd t441 x4_1)).f0) t446 _ ?side1 ?side2 A8.out).mono ?_); (case side1 => exact skC (Kd.C_below HR0.out HB.out)); (case side2 => exact HC0.out); rintro e w17 ⟨v447, rfl, ho0, hb⟩; have n0_ := Aside0.mk (Kd.R_elder' (skR HO_3.out) (Kd.R_base ho0) hb); have n1_ := Aside0.mk (Kd.R_lower (Kd.R_new' ho0 (Kd.R_lt (skR HO_3.out))) (below_size (skB HB.out))); have n2_ := Aside0.mk (below_step (skB HB.out) hb); clear HO_3; clear HB; have HO_3 := n0_; have HO448 := n1_; have HB := n2_; clear n0_ n1_ n2_; (try clear hb); (try clear hb2); (try clear hk); (try clear hi); (try clear ho0); obtain ⟨Ao18, co18, eo18⟩ := Kd.R_slice HO448.out; subst eo18; have p449 : 0 ≤ ((ji9) : Int) := dt; have q449 : (ji9) < (t446.length : Int) := dt; obtain ⟨ad449, e449, hx449_0⟩ := Kd.at_int (Kd.R_reads' HO448.out).2.2 (ji9) p449 q449; cases e449; replace p449 := eq_true p449; replace q449 := eq_true q449; have p450 : 0 ≤ (x4_1 : Int) := dt; have q450 : x4_1 < (t441.length : Int) := dt; obtain ⟨ad450, e450, hx450_0⟩ := Kd.at_int (Kd.R_reads' HO_3.out).2.2 x4_1 p450 q450; obtain rfl : ad444 = ad450 := (by injection e450); replace p450 := eq_true p450; replace q450 := eq_true q450)); try go_wp2_with (first | (go_at_call 50; (with_reducible refine (larchref17_Path.calls k1 _ _ l0 ((rd_T49 l0 (rd t441 x4_1)).f0) t446 _ ?side1 ?side2 A8.out).mono ?_); (case side1 => exact skC (Kd.C_below HR0.out HB.out)); (case side2 => exact HC0.out); rintro e w17 ⟨v447, rfl, ho0, hb⟩; have n0_ := Aside0.mk (Kd.R_elder' (skR HO_3.out) (Kd.R_base ho0) hb); have n1_ := Aside0.mk (Kd.R_lower (Kd.R_new' ho0 (Kd.R_lt (skR HO_3.out))) (below_size (skB HB.out))); have n2_ := Aside0.mk (below_step (skB HB.out) hb); clear HO_3; clear HB; have HO_3 := n0_; have HO448 := n1_; have HB := n2_; clear n0_ n1_ n2_; (try clear hb); (try clear hb2); (try clear hk); (try clear hi); (try clear ho0); obtain ⟨Ao18, co18, eo18⟩ := Kd.R_slice HO448.out; subst eo18; have p449 : 0 ≤ ((ji9) : Int) := dt; have q449 : (ji9) < (t446.length : Int) := dt; obtain ⟨ad449, e449, hx449_0⟩ := Kd.at_int (Kd.R_reads' HO448.out).2.2 (ji9) p449 q449; cases e449; replace p449 := eq_true p449; replace q449 := eq_true q449; have p450 : 0 ≤ (x4_1 : Int) := dt; have q450 : x4_1 < (t441.length : Int) := dt; obtain ⟨ad450, e450, hx450_0⟩ := Kd.at_int (Kd.R_reads' HO_3.out).2.2 x4_1 p450 q450; obtain rfl : ad444 = ad450 := (by injection e450); replace p450 := eq_true p450; replace q450 := eq_true q450)))
          go_ret
          exact ⟨by first | rfl | (simp [errW_none, errW_some] <;> rfl) | (simp only [← hji9]; first | rfl | (simp [errW_none, errW_some] <;> rfl)) | (simp [*, errW_none, errW_some] <;> rfl), skB HB.out⟩
        ·
         rw [if_neg c11] at H
         exact absurd H (by simp)
       ·
        rw [if_neg c10] at H
        exact absurd H (by simp)
      ·
       rw [if_neg c7] at H
       exact absurd H (by simp)
     ·
      rw [if_neg c6] at H
      exact absurd H (by simp)
    ·
     rw [if_neg c5] at H
     exact absurd H (by simp)
   ·
    rw [if_neg c4] at H
    have c4b0 : decide (x4_1 < (t441.length : Int)) = false := decide_eq_false c4
    clear c4
    obtain rfl := Option.some.inj H
    obtain ⟨Ao19, co19, eo19⟩ := Kd.R_slice HO_3.out
    subst eo19
    go_wp2
    repeat (go_quiet (fail); try go_wp2)
    go_ret
    exact ⟨re, skB HB.out⟩
end Go.Proofs.Ytmmjkebboonnkaa.P
/- F42 -/
namespace Go.Proofs.Ytmmjkebboonnkaa.P
open Go.RowKit Go.Proofs.YtmmjkebboonnkaaW.PrintWords Go.Proofs.YtmmjkebboonnkaaW.PrintLast Go.Proofs.YtmmjkebboonnkaaW.PrintMore
attribute [local go_sem] max2_int min2_int max_two min_two max_three min_three max_four min_four   -- for this text's walks alone
set_option linter.unusedVariables false
set_option linter.unusedSimpArgs false
def larchref17_Pairs.l0 : Nat → List (S49) → List (S39) → List Int → Int → Option ((List (S39)))
 | 0, _, _, _, _ => none
 | k + 1, x0, x3, x4, x5 => if x5 < (x4.length : Int) then (if 0 ≤ x5 then (if 0 ≤ (rd x4 x5) then (if (rd x4 x5) < (x0.length : Int) then (if x3.length < 8796093022208 then (larchref17_Pairs.l0 k x0 (x3 ++ [(⟨(rd_T49 x0 (rd x4 x5)).f0, (rd_T49 x0 (rd x4 x5)).f3⟩ : S39)]) x4 (wrap64 (x5 + 1))) else (none)) else (none)) else (none)) else (none)) else (some x3)
def larchref17_Pairs.f (k : Nat) (l0 : List (S49)) : Option ((List (S39))) := (larchref17_Leaves.f k l0).bind fun t451 => (larchref17_Pairs.l0 k l0 ([] : List (S39)) t451 0)
def larchref17_Pairs.T6 : Bool × List (List Nat × List Nat) := (true, [([], []), ([], []), ([], []), ([], []), ([2, 3], [2, 3]), ([4], [4]), ([1, 5], [1, 5]), ([6], [6]), ([7], [7]), ([], []), ([], []), ([], []), ([10, 11], [10, 11]), ([12], [12]), ([9, 13], [9, 13]), ([14], [14]), ([15], [15]), ([8, 16], [8, 16]), ([17], [17]), ([0, 18], [0, 18]), ([19, 19, 0, 1, 2, 3, 4, 5, 6, 7, 8, 9, 10, 11, 12, 13, 14, 15, 16, 17, 18, 19], [0, 19])])
def larchref17_Pairs.B6 : List Nat := [0, 0, 0, 0, 12, 28, 62, 126, 254, 0, 0, 0, 3072, 7168, 15872, 32256, 65024, 131070, 262142, 524287, 1048575]
theorem larchref17_Pairs.tab6 : rtab .any (opsOf Try.f20 6) = larchref17_Pairs.T6 := by kernel_rfl
theorem larchref17_Pairs.bits6 : waitsOk larchref17_Pairs.T6.2 larchref17_Pairs.B6 = true := by kernel_rfl
set_option maxHeartbeats 8000000 in
set_option maxRecDepth 100000 in
theorem larchref17_Pairs.calls (k : Nat) (A0 : Option Addr) (c0 : Nat) (l0 : List (S49)) (r : List (S39)) (w : World) (hr0 : Kd.C k49 w A0 l0.length l0) (hc0 : l0.length ≤ c0) (h : larchref17_Pairs.f k l0 = some r) :
  Calls Try.prog 20 #[.slice A0 l0.length c0] w fun e w' => ∃ v0_ : Value, e = .returned (v0_) ∧ Kd.R k39 39 w' w.heap.size (fun _ => True) v0_ r ∧ Below w.heap.size w w' := by
 have hu39 := Try.underlying39
 have HR0 := Aside0.mk hr0
 have HC0 := Aside0.mk hc0
 clear hr0 hc0
 have HB := Aside0.mk (Below.refl w.heap.size w)
 have H : ((larchref17_Leaves.f k l0).bind fun t451 => (larchref17_Pairs.l0 k l0 ([] : List (S39)) t451 0)) = some r := h
 clear h
 replace H := Option.bind_eq_some_iff.mp H
 obtain ⟨t451, A20, H⟩ := H
 replace H : (larchref17_Pairs.l0 k l0 ([] : List (S39)) t451 0) = some r := H
 have A2 := Aside0.mk A20
 clear A20
 have H' := Aside0.mk H
 clear H
 go_enter Try.func20, Try.ntmps20
 go_wp2_with (first | ((with_reducible refine gate_callee (f := 34) rfl ?_); refine goesL_ (some 7) rfl rfl Try.func34 (by kernel_rfl) rfl #[.slice A0 l0.length c0] rfl ags ?_; (with_reducible refine (larchref17_Leaves.calls k _ _ l0 t451 _ ?side1 ?side2 A2.out).mono ?_); (case side1 => exact skC HR0.out); (case side2 => exact HC0.out); rintro e w3 ⟨v452, rfl, ho0, hb⟩; refine ⟨_, rfl, ?_⟩; have n0_ := Aside0.mk (Kd.R_lower ho0 (below_size (skB HB.out))); have n1_ := Aside0.mk (below_step (skB HB.out) hb); clear HB; have HO453 := n0_; have HB := n1_; clear n0_ n1_; (try clear hb); (try clear hb2); (try clear hk); (try clear hi); (try clear ho0)))
 go_loopg [3, 5] k (fun kq v3 v5 w' => ∃ (x3_1 : List (S39)) (x5_1 : Int), v5 = .int .i64 x5_1 ∧ Aside0 (larchref17_Pairs.l0 kq l0 x3_1 t451 x5_1 = some r) ∧ Aside0 (kq ≤ k) ∧ Aside0 (Kd.R k39 39 w' w.heap.size (fun _ => True) v3 x3_1) ∧ Aside0 (Kd.R (Kd.int .i64) 3 w' w.heap.size (fun _ => True) v452 t451) ∧ Aside0 (Below w.heap.size w w'))
 case atStart => exact ⟨(([] : List (S39))), (0), rs, H', ⟨Nat.le_refl _⟩, ⟨by first | exact Kd.R_nil _ _ _ _ _ | exact Kd.N_nil _ _ _ _ _ | exact Kd.V_nil _ _ _ _ _ | exact Kd.Q_nil _ _ _ _ _ | exact Kd.S_nil _ _ _ _ _⟩, ⟨skR HO453.out⟩, ⟨skB HB.out⟩⟩
 case round =>
  clear H'
  try clear c2
  try clear p2
  try clear c3
  obtain ⟨x3_1, x5_1, rfl, HA, HK1, HO_3, HO_4, HB⟩ := hrel
  cases gk with
  | zero => exact absurd HA.out (by simp [larchref17_Pairs.l0])
  | succ k1 =>
   have H := HA.out
   clear HA
   simp only [larchref17_Pairs.l0] at H
   by_cases c4 : x5_1 < (t451.length : Int)
   ·
    rw [if_pos c4] at H
    have c4b0 : decide (x5_1 < (t451.length : Int)) = true := decide_eq_true c4
    clear c4
    by_cases c5 : 0 ≤ x5_1
    ·
     rw [if_pos c5] at H
     have c5b0 : decide (0 ≤ x5_1) = true := decide_eq_true c5
     clear c5
     by_cases c6 : 0 ≤ (rd t451 x5_1)
     ·
      rw [if_pos c6] at H
      have c6b0 : decide (0 ≤ (rd t451 x5_1)) = true := decide_eq_true c6
      clear c6
      by_cases c7 : (rd t451 x5_1) < (l0.length : Int)
      ·
       rw [if_pos c7] at H
       have c7b0 : decide ((rd t451 x5_1) < (l0.length : Int)) = true := decide_eq_true c7
       clear c7
       by_cases c8 : x3_1.length < 8796093022208
       ·
        rw [if_pos c8] at H
        have LMc8 := Aside0.mk c8
        clear c8
        obtain ⟨y458, hy458⟩ : ∃ y_ : List (S39), y_ = (x3_1 ++ [(⟨(rd_T49 l0 (rd t451 x5_1)).f0, (rd_T49 l0 (rd t451 x5_1)).f3⟩ : S39)]) := ⟨_, rfl⟩
        replace H : (larchref17_Pairs.l0 k1 l0 y458 t451 (wrap64 (x5_1 + 1))) = some r := by first | (rw [hy458]; with_reducible exact H) | (have H2_ := (Option.bind_some _ _).symm.trans H; rw [hy458]; with_reducible exact H2_) | (have H2_ := (Option.bind_some _ _).symm.trans H; with_reducible exact H2_) | with_reducible exact H | (rw [hy458]; exact H) | exact H
        have Ny458 := Aside0.mk hy458
        clear hy458
        have H' := Aside0.mk H
        clear H
        obtain ⟨Ao9, co9, eo9⟩ := Kd.R_slice HO_4.out
        subst eo9
        try go_wp2
        have n0_ := Aside0.mk (Kd.R_drew HO_3.out)
        have n1_ := Aside0.mk (Kd.R_drew HO_4.out)
        have n2_ := Aside0.mk (below_drew1 HB.out)
        clear HO_3
        clear HO_4
        clear HB
        have HO_3 := n0_
        have HO_4 := n1_
        have HB := n2_
        clear n0_ n1_ n2_
        have p454 : 0 ≤ (x5_1 : Int) := dt
        have q454 : x5_1 < (t451.length : Int) := dt
        obtain ⟨ad454, e454, hx454_0⟩ := Kd.at_int (Kd.R_reads' HO_4.out).2.2 x5_1 p454 q454
        cases e454
        replace p454 := eq_true p454
        replace q454 := eq_true q454
        have p455 : 0 ≤ ((rd t451 x5_1) : Int) := dt
        have q455 : (rd t451 x5_1) < (l0.length : Int) := dt
        obtain ⟨ad455, e455, hx455_0, hx455_1, hx455_2, hx455_3, hx455_4, hx455_5⟩ := at_T49 HR0.out (rd t451 x5_1) p455 q455
        have hw455_5 := hx455_5
        have hw455_4 := hx455_4
        have hw455_3 := hx455_3
        have hw455_2 := hx455_2
        have hw455_1 := hx455_1
        have hw455_0 := hx455_0
        cases e455
        replace hx455_0 := skc HB.out hx455_0
        replace hx455_1 := skc HB.out hx455_1
        replace hx455_2 := skc HB.out hx455_2
        replace hx455_3 := skc HB.out hx455_3
        replace hx455_4 := skc HB.out hx455_4
        replace hx455_5 := skc HB.out hx455_5
        replace p455 := eq_true p455
        replace q455 := eq_true q455
        have p456 : 0 ≤ (x5_1 : Int) := dt
        have q456 : x5_1 < (t451.length : Int) := dt
        obtain ⟨ad456, e456, hx456_0⟩ := Kd.at_int (Kd.R_reads' HO_4.out).2.2 x5_1 p456 q456
        obtain rfl : ad454 = ad456 := (by injection e456)
        replace p456 := eq_true p456
        replace q456 := eq_true q456
        have p457 : 0 ≤ ((rd t451 x5_1) : Int) := dt
        have q457 : (rd t451 x5_1) < (l0.length : Int) := dt
        obtain ⟨ad457, e457, hx457_0, hx457_1, hx457_2, hx457_3, hx457_4, hx457_5⟩ := at_T49 HR0.out (rd t451 x5_1) p457 q457
        have hw457_5 := hx457_5
        have hw457_4 := hx457_4
        have hw457_3 := hx457_3
        have hw457_2 := hx457_2
        have hw457_1 := hx457_1
        have hw457_0 := hx457_0
        obtain rfl : ad455 = ad457 := (by injection e457)
        replace hx457_0 := skc HB.out hx457_0
        replace hx457_1 := skc HB.out hx457_1
        replace hx457_2 := skc HB.out hx457_2
        replace hx457_3 := skc HB.out hx457_3
        replace hx457_4 := skc HB.out hx457_4
        replace hx457_5 := skc HB.out hx457_5
        replace p457 := eq_true p457
        replace q457 := eq_true q457
        refine start_ (n := 21) (S := fun w' => w'.cell? (ad454.add (x5_1).toNat) = some (.int .i64 (rd t451 x5_1)) ∧ w'.cell? (ad455.add (((rd t451 x5_1)).toNat * 6)) = some (.int .i64 ((rd_T49 l0 (rd t451 x5_1)).f0)) ∧ w'.cell? ⟨(ad455.add (((rd t451 x5_1)).toNat * 6)).block, (ad455.add (((rd t451 x5_1)).toNat * 6)).off + 1, none⟩ = some (.int .i64 ((rd_T49 l0 (rd t451 x5_1)).f1)) ∧ w'.cell? ⟨(ad455.add (((rd t451 x5_1)).toNat * 6)).block, (ad455.add (((rd t451 x5_1)).toNat * 6)).off + 2, none⟩ = some (.int .i64 ((rd_T49 l0 (rd t451 x5_1)).f2)) ∧ w'.cell? ⟨(ad455.add (((rd t451 x5_1)).toNat * 6)).block, (ad455.add (((rd t451 x5_1)).toNat * 6)).off + 3, none⟩ = some (.int .i64 ((rd_T49 l0 (rd t451 x5_1)).f3)) ∧ w'.cell? ⟨(ad455.add (((rd t451 x5_1)).toNat * 6)).block, (ad455.add (((rd t451 x5_1)).toNat * 6)).off + 4, none⟩ = some (.int .i64 ((rd_T49 l0 (rd t451 x5_1)).f4)) ∧ w'.cell? ⟨(ad455.add (((rd t451 x5_1)).toNat * 6)).block, (ad455.add (((rd t451 x5_1)).toNat * 6)).off + 5, none⟩ = some (.int .i64 ((rd_T49 l0 (rd t451 x5_1)).f5)) ∧ w'.cell? (ad454.add (x5_1).toNat) = some (.int .i64 (rd t451 x5_1)) ∧ w'.cell? (ad455.add (((rd t451 x5_1)).toNat * 6)) = some (.int .i64 ((rd_T49 l0 (rd t451 x5_1)).f0)) ∧ w'.cell? ⟨(ad455.add (((rd t451 x5_1)).toNat * 6)).block, (ad455.add (((rd t451 x5_1)).toNat * 6)).off + 1, none⟩ = some (.int .i64 ((rd_T49 l0 (rd t451 x5_1)).f1)) ∧ w'.cell? ⟨(ad455.add (((rd t451 x5_1)).toNat * 6)).block, (ad455.add (((rd t451 x5_1)).toNat * 6)).off + 2, none⟩ = some (.int .i64 ((rd_T49 l0 (rd t451 x5_1)).f2)) ∧ w'.cell? ⟨(ad455.add (((rd t451 x5_1)).toNat * 6)).block, (ad455.add (((rd t451 x5_1)).toNat * 6)).off + 3, none⟩ = some (.int .i64 ((rd_T49 l0 (rd t451 x5_1)).f3)) ∧ w'.cell? ⟨(ad455.add (((rd t451 x5_1)).toNat * 6)).block, (ad455.add (((rd t451 x5_1)).toNat * 6)).off + 4, none⟩ = some (.int .i64 ((rd_T49 l0 (rd t451 x5_1)).f4)) ∧ w'.cell? ⟨(ad455.add (((rd t451 x5_1)).toNat * 6)).block, (ad455.add (((rd t451 x5_1)).toNat * 6)).off + 5, none⟩ = some (.int .i64 ((rd_T49 l0 (rd t451 x5_1)).f5))) (ds := [18, 19]) #[false, false, false, false, false, false, false, false, false, false, false, false, false, false, false, false, false, false, false, false, false] (by kernel_rfl) rfl rfl ⟨hx454_0, (skc HB.out hw455_0), (skc HB.out hw455_1), (skc HB.out hw455_2), (skc HB.out hw455_3), (skc HB.out hw455_4), (skc HB.out hw455_5), hx456_0, (skc HB.out hw457_0), (skc HB.out hw457_1), (skc HB.out hw457_2), (skc HB.out hw457_3), (skc HB.out hw457_4), (skc HB.out hw457_5)⟩ (fun hHeld => ?_); refine with_tabW larchref17_Pairs.tab6 larchref17_Pairs.bits6 (fun HT_ HW_ => ?_)
        generalize wr.drew = w10 at HO_3 HO_4 HB hx454_0 hx455_0 hx455_1 hx455_2 hx455_3 hx455_4 hx455_5 hx456_0 hx457_0 hx457_1 hx457_2 hx457_3 hx457_4 hx457_5 hHeld ⊢
        refine pure_ (i := 0) (N := some 14) (v := ?_) (a' := ?_) #[true, false, false, false, false, false, false, false, false, false, false, false, false, false, false, false, false, false, false, false, false] rfl rfl (any_of HT_.out (by kernel_rfl)) (fun _ _ _ h => h) (Or.inl ⟨by rfl, ?_⟩) ?_ ?_
        rotate_left
        ·
         intro w'
         go_simp
         with_reducible rfl
        rotate_left
        ·
         simp only [Act.put, List.setIfInBounds_toArray, List.set_cons_zero, List.set_cons_succ, i64_w, i32_w]
         rfl
        refine pure_ (i := 1) (N := some 15) (v := ?_) (a' := ?_) #[true, true, false, false, false, false, false, false, false, false, false, false, false, false, false, false, false, false, false, false, false] rfl rfl (any_of HT_.out (by kernel_rfl)) (fun _ _ _ h => h) (Or.inl ⟨by rfl, ?_⟩) ?_ ?_
        rotate_left
        ·
         intro w'
         go_simp
         with_reducible rfl
        rotate_left
        ·
         simp only [Act.put, List.setIfInBounds_toArray, List.set_cons_zero, List.set_cons_succ, i64_w, i32_w]
         rfl
        refine pure_ (i := 2) (N := some 16) (v := ?_) (a' := ?_) #[true, true, true, false, false, false, false, false, false, false, false, false, false, false, false, false, false, false, false, false, false] rfl rfl (any_of HT_.out (by kernel_rfl)) (fun _ _ _ h => h) (Or.inl ⟨by rfl, ?_⟩) ?_ ?_
        rotate_left
        ·
         intro w'
         go_simp
         with_reducible rfl
        rotate_left
        ·
         simp only [Act.put, List.setIfInBounds_toArray, List.set_cons_zero, List.set_cons_succ, i64_w, i32_w]
         rfl
        refine pure_ (i := 3) (N := some 17) (v := ?_) (a' := ?_) #[true, true, true, true, false, false, false, false, false, false, false, false, false, false, false, false, false, false, false, false, false] rfl rfl (any_of HT_.out (by kernel_rfl)) (fun _ _ _ h => h) (Or.inl ⟨by rfl, ?_⟩) ?_ ?_
        rotate_left
        ·
         intro w'
         go_simp
         with_reducible rfl
        rotate_left
        ·
         simp only [Act.put, List.setIfInBounds_toArray, List.set_cons_zero, List.set_cons_succ, i64_w, i32_w]
         rfl
        refine pure_ (i := 4) (N := some 18) (v := ?_) (a' := ?_) #[true, true, true, true, true, false, false, false, false, false, false, false, false, false, false, false, false, false, false, false, false] rfl rfl (any_of HT_.out (by kernel_rfl)) (fun _ _ _ h => h) (Or.inl ⟨by rfl, ?_⟩) ?_ ?_
        rotate_left
        ·
         intro w'
         go_simp
         with_reducible rfl
        rotate_left
        ·
         simp only [Act.put, List.setIfInBounds_toArray, List.set_cons_zero, List.set_cons_succ, i64_w, i32_w]
         rfl
        refine pure_ (i := 9) (N := some 23) (v := ?_) (a' := ?_) #[true, true, true, true, true, false, false, false, false, true, false, false, false, false, false, false, false, false, false, false, false] rfl rfl (any_of HT_.out (by kernel_rfl)) (fun _ _ _ h => h) (Or.inl ⟨by rfl, ?_⟩) ?_ ?_
        rotate_left
        ·
         intro w'
         go_simp
         with_reducible rfl
        rotate_left
        ·
         simp only [Act.put, List.setIfInBounds_toArray, List.set_cons_zero, List.set_cons_succ, i64_w, i32_w]
         rfl
        refine pure_ (i := 10) (N := some 24) (v := ?_) (a' := ?_) #[true, true, true, true, true, false, false, false, false, true, true, false, false, false, false, false, false, false, false, false, false] rfl rfl (any_of HT_.out (by kernel_rfl)) (fun _ _ _ h => h) (Or.inl ⟨by rfl, ?_⟩) ?_ ?_
        rotate_left
        ·
         intro w'
         go_simp
         with_reducible rfl
        rotate_left
        ·
         simp only [Act.put, List.setIfInBounds_toArray, List.set_cons_zero, List.set_cons_succ, i64_w, i32_w]
         rfl
        refine pure_ (i := 11) (N := some 25) (v := ?_) (a' := ?_) #[true, true, true, true, true, false, false, false, false, true, true, true, false, false, false, false, false, false, false, false, false] rfl rfl (any_of HT_.out (by kernel_rfl)) (fun _ _ _ h => h) (Or.inl ⟨by rfl, ?_⟩) ?_ ?_
        rotate_left
        ·
         intro w'
         go_simp
         with_reducible rfl
        rotate_left
        ·
         simp only [Act.put, List.setIfInBounds_toArray, List.set_cons_zero, List.set_cons_succ, i64_w, i32_w]
         rfl
        refine pure_ (i := 12) (N := some 26) (v := ?_) (a' := ?_) #[true, true, true, true, true, false, false, false, false, true, true, true, true, false, false, false, false, false, false, false, false] rfl rfl (any_of HT_.out (by kernel_rfl)) (fun _ _ _ h => h) (Or.inl ⟨by rfl, ?_⟩) ?_ ?_
        rotate_left
        ·
         intro w'
         go_simp
         with_reducible rfl
        rotate_left
        ·
         simp only [Act.put, List.setIfInBounds_toArray, List.set_cons_zero, List.set_cons_succ, i64_w, i32_w]
         rfl
        refine take_ (i := 5) (N := some 19) (v := ?_) (a' := ?_) #[true, true, true, true, true, true, false, false, false, true, true, true, true, false, false, false, false, false, false, false, false] rfl rfl (take_ofW HT_.out HW_.out (by kernel_rfl)) (fun _ _ _ h => h) (Or.inl ⟨by rfl, ?_⟩) hHeld ?_ ?_
        rotate_left
        ·
         rintro w' ⟨s0, s1, s2, s3, s4, s5, s6, s7, s8, s9, s10, s11, s12, s13⟩
         go_simp
         with_reducible rfl
        rotate_left
        ·
         simp only [Act.put, List.setIfInBounds_toArray, List.set_cons_zero, List.set_cons_succ, i64_w, i32_w]
         rfl
        refine pure_ (i := 6) (N := some 20) (v := ?_) (a' := ?_) #[true, true, true, true, true, true, true, false, false, true, true, true, true, false, false, false, false, false, false, false, false] rfl rfl (any_of HT_.out (by kernel_rfl)) (fun _ _ _ h => h) (Or.inl ⟨by rfl, ?_⟩) ?_ ?_
        rotate_left
        ·
         intro w'
         go_simp
         with_reducible rfl
        rotate_left
        ·
         simp only [Act.put, List.setIfInBounds_toArray, List.set_cons_zero, List.set_cons_succ, i64_w, i32_w]
         rfl
        refine pure_ (i := 7) (N := some 21) (v := ?_) (a' := ?_) #[true, true, true, true, true, true, true, true, false, true, true, true, true, false, false, false, false, false, false, false, false] rfl rfl (any_of HT_.out (by kernel_rfl)) (fun _ _ _ h => h) (Or.inl ⟨by rfl, ?_⟩) ?_ ?_
        rotate_left
        ·
         intro w'
         go_simp
         with_reducible rfl
        rotate_left
        ·
         simp only [Act.put, List.setIfInBounds_toArray, List.set_cons_zero, List.set_cons_succ, i64_w, i32_w]
         rfl
        refine take_ (i := 8) (N := some 22) (v := ?_) (a' := ?_) #[true, true, true, true, true, true, true, true, true, true, true, true, true, false, false, false, false, false, false, false, false] rfl rfl (take_ofW HT_.out HW_.out (by kernel_rfl)) (fun _ _ _ h => h) (Or.inl ⟨by rfl, ?_⟩) hHeld ?_ ?_
        rotate_left
        ·
         rintro w' ⟨s0, s1, s2, s3, s4, s5, s6, s7, s8, s9, s10, s11, s12, s13⟩
         go_simp
         with_reducible rfl
        rotate_left
        ·
         simp only [Act.put, List.setIfInBounds_toArray, List.set_cons_zero, List.set_cons_succ, i64_w, i32_w]
         rfl
        refine take_ (i := 13) (N := some 27) (v := ?_) (a' := ?_) #[true, true, true, true, true, true, true, true, true, true, true, true, true, true, false, false, false, false, false, false, false] rfl rfl (take_ofW HT_.out HW_.out (by kernel_rfl)) (fun _ _ _ h => h) (Or.inl ⟨by rfl, ?_⟩) hHeld ?_ ?_
        rotate_left
        ·
         rintro w' ⟨s0, s1, s2, s3, s4, s5, s6, s7, s8, s9, s10, s11, s12, s13⟩
         go_simp
         with_reducible rfl
        rotate_left
        ·
         simp only [Act.put, List.setIfInBounds_toArray, List.set_cons_zero, List.set_cons_succ, i64_w, i32_w]
         rfl
        refine pure_ (i := 14) (N := some 28) (v := ?_) (a' := ?_) #[true, true, true, true, true, true, true, true, true, true, true, true, true, true, true, false, false, false, false, false, false] rfl rfl (any_of HT_.out (by kernel_rfl)) (fun _ _ _ h => h) (Or.inl ⟨by rfl, ?_⟩) ?_ ?_
        rotate_left
        ·
         intro w'
         go_simp
         with_reducible rfl
        rotate_left
        ·
         simp only [Act.put, List.setIfInBounds_toArray, List.set_cons_zero, List.set_cons_succ, i64_w, i32_w]
         rfl
        refine pure_ (i := 15) (N := some 29) (v := ?_) (a' := ?_) #[true, true, true, true, true, true, true, true, true, true, true, true, true, true, true, true, false, false, false, false, false] rfl rfl (any_of HT_.out (by kernel_rfl)) (fun _ _ _ h => h) (Or.inl ⟨by rfl, ?_⟩) ?_ ?_
        rotate_left
        ·
         intro w'
         go_simp
         with_reducible rfl
        rotate_left
        ·
         simp only [Act.put, List.setIfInBounds_toArray, List.set_cons_zero, List.set_cons_succ, i64_w, i32_w]
         rfl
        refine take_ (i := 16) (N := some 30) (v := ?_) (a' := ?_) #[true, true, true, true, true, true, true, true, true, true, true, true, true, true, true, true, true, false, false, false, false] rfl rfl (take_ofW HT_.out HW_.out (by kernel_rfl)) (fun _ _ _ h => h) (Or.inl ⟨by rfl, ?_⟩) hHeld ?_ ?_
        rotate_left
        ·
         rintro w' ⟨s0, s1, s2, s3, s4, s5, s6, s7, s8, s9, s10, s11, s12, s13⟩
         go_simp
         with_reducible rfl
        rotate_left
        ·
         simp only [Act.put, List.setIfInBounds_toArray, List.set_cons_zero, List.set_cons_succ, i64_w, i32_w]
         rfl
        refine pure_ (i := 17) (N := some 31) (v := ?_) (a' := ?_) #[true, true, true, true, true, true, true, true, true, true, true, true, true, true, true, true, true, true, false, false, false] rfl rfl (any_of HT_.out (by kernel_rfl)) (fun _ _ _ h => h) (Or.inl ⟨by rfl, ?_⟩) ?_ ?_
        rotate_left
        ·
         intro w'
         go_simp
         with_reducible rfl
        rotate_left
        ·
         simp only [Act.put, List.setIfInBounds_toArray, List.set_cons_zero, List.set_cons_succ, i64_w, i32_w]
         rfl
        refine last_ (i := 18) (N := some 32) #[true, true, true, true, true, true, true, true, true, true, true, true, true, true, true, true, true, true, true, false, false] rfl rfl (one_of HT_.out (by kernel_rfl)) (by decide) (fun K hK => ?_)
        refine value_ (w1 := ?_) (v := ?_) (by rfl) rfl ?_ ?_
        rotate_left 2
        ·
         go_simp
         constructor
         ·
          rfl
         ·
          rfl
        refine hK.out _ _ ?_
        clear hK K
        refine norm_ (a' := ?_) ?_ ?_
        rotate_left
        ·
         show Act.put _ (some 32) _ = _
         simp only [Act.put, List.setIfInBounds_toArray, List.set_cons_zero, List.set_cons_succ, i64_w, i32_w]
         rfl
        refine last_ (i := 19) (N := some 33) #[true, true, true, true, true, true, true, true, true, true, true, true, true, true, true, true, true, true, true, true, false] rfl rfl (one_of HT_.out (by kernel_rfl)) (by decide) (fun K hK => ?_)
        refine Kd.R_append_step k39 (w0 := w) w.heap.size (by rfl) (.tmp 14) (.tmp 32) 36 39 (.agg #[(.int .i64 0), (.int .i64 0)]) 16 rfl Try.underlying36 info39 rfl (by decide) (by omega) u3 x3_1 (⟨(rd_T49 l0 (rd t451 x5_1)).f0, (rd_T49 l0 (rd t451 x5_1)).f3⟩ : S39) [.int .i64 ((rd_T49 l0 (rd t451 x5_1)).f0), .int .i64 ((rd_T49 l0 (rd t451 x5_1)).f3)] (fun _ => True) (fun _ => False) rfl rfl ?aP (fun _ hk => hk.elim) ?aF ?aO ?aB ?aS ?aL ?_
        (case aP => exact k39_mkM _ _ _ (⟨(rd_T49 l0 (rd t451 x5_1)).f0, (rd_T49 l0 (rd t451 x5_1)).f3⟩ : S39))
        (case aB => exact (skB HB.out))
        (case aF => exact (fun _ _ => trivial))
        (case aO => exact (skR HO_3.out))
        (case aS => exact (below_size (skB HB.out)))
        (case aL => have := LMc8.out; omega)
        intro v459 w11 ho hb hg hat
        rw [← Ny458.out] at ho
        have n0_ := Aside0.mk (Kd.R_over' (skR HO_4.out) (Kd.R_typed (skR HO_3.out)) (by decide) hg)
        have n1_ := Aside0.mk (hb)
        have n2_ := Aside0.mk (ho)
        clear HO_4
        clear HB
        clear HO_3
        have HO_4 := n0_
        have HB := n1_
        have HO460 := n2_
        clear n0_ n1_ n2_
        clear ho hb hg hat
        refine hK.out _ _ ?_
        clear hK K
        refine norm_ (a' := ?_) ?_ ?_
        rotate_left
        ·
         show Act.put _ (some 33) _ = _
         simp only [Act.put, List.setIfInBounds_toArray, List.set_cons_zero, List.set_cons_succ, i64_w, i32_w]
         rfl
        refine pure_ (i := 20) (N := some 3) (v := ?_) (a' := ?_) #[true, true, true, true, true, true, true, true, true, true, true, true, true, true, true, true, true, true, true, true, true] rfl rfl (any_of HT_.out (by kernel_rfl)) (fun _ _ _ h => h) (Or.inl ⟨by rfl, ?_⟩) ?_ ?_
        rotate_left
        ·
         intro w'
         go_simp
         with_reducible rfl
        rotate_left
        ·
         simp only [Act.put, List.setIfInBounds_toArray, List.set_cons_zero, List.set_cons_succ, i64_w, i32_w]
         rfl
        refine done_ (done_of HT_.out (by kernel_rfl)) ?_
        try go_wp2
        go_roundg k1
        case measure => have := HK1.out; omega
        case rel => exact ⟨(y458), (wrap64 (x5_1 + 1)), rs, H', ⟨by have := HK1.out; omega⟩, ⟨skR HO460.out⟩, ⟨skR HO_4.out⟩, ⟨skB HB.out⟩⟩
       ·
        rw [if_neg c8] at H
        exact absurd H (by simp)
      ·
       rw [if_neg c7] at H
       exact absurd H (by simp)
     ·
      rw [if_neg c6] at H
      exact absurd H (by simp)
    ·
     rw [if_neg c5] at H
     exact absurd H (by simp)
   ·
    rw [if_neg c4] at H
    have c4b0 : decide (x5_1 < (t451.length : Int)) = false := decide_eq_false c4
    clear c4
    obtain rfl := Option.some.inj H
    obtain ⟨Ao12, co12, eo12⟩ := Kd.R_slice HO_4.out
    subst eo12
    go_wp2
    go_ret
    exact ⟨_, re, skR HO_3.out, skB HB.out⟩
end Go.Proofs.Ytmmjkebboonnkaa.P
